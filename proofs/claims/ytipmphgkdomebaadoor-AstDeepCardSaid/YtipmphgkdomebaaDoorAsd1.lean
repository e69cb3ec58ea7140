/- Whatever number: braces within braces may be as deep as is said, and no deeper: AstDeep answers true. (Text 2 of 5: what the law's proof rests on, joined; walks printed by the kit's print over given contracts, walks and plain laws by hand.) -/
import Derived.Shelf.Strings.Builder1
import Derived.Shelf.Strings.Builder2
import Derived.Shelf.Strings.Trim
import Derived.Shelf.Small.Utf8
import Derived.Shelf.Small.Strs
import Derived.Shelf.Strings.BuilderF
import Derived.Shelf.Strings.BuilderK
import Derived.Shelf.Strings.BuilderRune
import Derived.Shelf.Utf8.AppendRunePlain
import Derived.Shelf.Utf8.RuneCount
import Derived.Shelf.Strings.Builder2Cap
import Derived.Shelf.Strings.Search1
import Derived.Shelf.Strings.Search2
import Derived.Shelf.Strings.Search3
import Derived.Shelf.Strings.Count
import Derived.Shelf.LaysM
import Derived.Shelf.Strings.Shaped
import Derived.Shelf.Strings.Prefix
import Derived.Shelf.Strings.Split
import Derived.Shelf.Strings.SplitShaped
import Derived.Shelf.Unicode.Decode
import Derived.Shelf.Strings.Runes
import Derived.Shelf.Strings.RuneCount
import Derived.Shelf.Strings.IndexAny
import Derived.Shelf.Strings.AsciiSet
import Derived.Shelf.Strings.IndexAnyAll
import Derived.Shelf.Strings.Explode
import Derived.Shelf.Bits.Mul64
import Derived.Shelf.Strings.Repeat
import Derived.Shelf.Unicode.DecodeSlow
import Derived.Shelf.Unicode.DecodeAny
import Derived.Shelf.Unicode.DecodeLast
import Derived.Shelf.Strings.BuilderCap
import Derived.Shelf.Unicode.ValidAny
import Derived.Test.YtipmphgkdomebaaDoorProg
import Derived.Shelf.Strings.SlTrimAscii
import Derived.Lib.SplitLaws
import Derived.Laws.StructEq
import Derived.Below
import Derived.Deep.Draws
import Derived.Deep.AppendLies
import Derived.Maps.AppendAt
import Derived.OwnWalk
import Derived.Laws.BytesArg
import Derived.Laws.MakeOwn
import Derived.Laws.OwnMore
import Derived.Deep.OwnRows
import Derived.Tactics
import Derived.Lib.ConvBytes
import Derived.Laws.Slices
import Derived.WalkKit
import Derived.KernelRfl
import Derived.RowKit3
import Derived.Deep.LoopGhost
import Derived.Deep.QuietTactic
import Derived.BigQuiet
import Derived.WideLaws
import Derived.Deep.DeepCutAuto
import Derived.Deep.CutBlock
import Derived.Deep.RegionHeld3
import Derived.Laws.Rows
import Derived.Lib.AppendStr
import Derived.ArgAppend
import Derived.Laws.IdiomCopy
import Derived.OrdersHeld
import Derived.Laws.BitsLemmas
import Derived.RowKit
import Derived.Laws.Cover1
import Derived.Laws.Runes
import Derived.Test.YtipmphgkdomebaaDoorAsd0
namespace Go.Proofs.YtipmphgkdomebaaDoor
open Go.RowKit Go.Proofs.YtipmphgkdomebaaDoorW.PrintWords Go.Proofs.YtipmphgkdomebaaDoorW.PrintLast
set_option linter.unusedVariables false
set_option linter.unusedSimpArgs false
def as80bs.T : Bool × List (List Nat × List Nat) := (true, [([], []), ([0], [0]), ([], []), ([2], [2]), ([1, 3], [1, 3]), ([4], [4]), ([5], [5]), ([6, 5], [5, 6]), ([7, 5], [5, 7]), ([5], [5]), ([9, 5], [5, 9]), ([10, 5], [5, 10]), ([8, 11, 5], [5, 8, 11]), ([5, 12], [5, 12]), ([13, 5], [13]), ([14], [14]), ([15, 14], [14, 15]), ([16, 14], [14, 16]), ([17, 14, 14], [14, 17]), ([18], [18]), ([19, 18], [18, 19]), ([20, 18], [18, 20]), ([21, 18], [18, 21]), ([18], [18]), ([23, 18], [18, 23]), ([24, 18], [18, 24]), ([25, 18], [18, 25]), ([22, 26, 18, 18], [18, 22, 26]), ([18, 27, 14], [14, 18, 27]), ([14, 28], [14, 28]), ([29, 27, 0, 1, 2, 3, 4, 5, 6, 7, 8, 9, 10, 11, 12, 13, 14, 15, 16, 17, 18, 19, 20, 21, 22, 23, 24, 25, 26, 27, 28, 29], [29])])
def as80bs.B : List Nat := [0, 1, 0, 4, 15, 31, 63, 127, 255, 63, 575, 1599, 4095, 8191, 16383, 32767, 65535, 131071, 262143, 524287, 1048575, 2097151, 4194303, 524287, 8912895, 25690111, 59244543, 134217727, 268435455, 536870911, 1073741823]
theorem as80bs.tab : rtab .any (opsOf Tryd.f80 1) = as80bs.T := by kernel_rfl
theorem as80bs.bits : waitsOk as80bs.T.2 as80bs.B = true := by kernel_rfl
set_option maxRecDepth 100000 in
set_option maxHeartbeats 4000000 in
theorem as80bs (w0 : World) (t1 t2 : ByteArray) (hq : (t1.toList == t2.toList) = true) (b1 o1 : Nat) (a0 : Act) (s2 : a0.tmps[2]? = some (.pointer (some ⟨w0.heap.size, 0, none⟩))) (s3 : a0.tmps[3]? = some (.pointer (some ⟨w0.heap.size + 1, 0, none⟩))) (hsz : a0.tmps.size = Tryd.f80.ntmps) (W : World) (hI : ElI w0 t1 (some ⟨b1, o1, none⟩) t2 none W.drew) (Q : Exit → Act → World → Prop) (hend : ∀ (a9 : Act) w', ElI w0 t1 (some ⟨b1, o1, none⟩) t2 none w' → a9 = putSel a0 (fun _ => true) [(0, 5, .pointer (some ⟨w0.heap.size, 0, none⟩)), (1, 6, .string t1), (2, 7, .pointer (some ⟨w0.heap.size + 1, 0, none⟩)), (3, 8, .string t2), (4, 9, .bool true), (5, 10, .bool true), (6, 11, .pointer (some ⟨w0.heap.size, 1, none⟩)), (7, 12, .pointer (some ⟨b1, o1, none⟩)), (8, 13, .bool false), (9, 14, .pointer (some ⟨w0.heap.size + 1, 1, none⟩)), (10, 15, .pointer none), (11, 16, .bool true), (12, 17, .bool false), (13, 18, .bool false), (14, 19, .bool false), (15, 20, undef), (16, 21, undef), (17, 22, undef), (18, 23, undef), (19, 24, undef), (20, 25, undef), (21, 26, undef), (22, 27, undef), (23, 28, undef), (24, 29, undef), (25, 30, undef), (26, 31, undef), (27, 32, undef), (28, 33, undef), (29, 34, .bool false), (30, 4, .bool false)] → a9.defers = a0.defers → a9.tmps[4]? = some (.bool false) → Q .normal a9 w') :
    (Code.region 1 #[{ dst := some 5, op := Op.fieldAddr 42 (Operand.tmp 2) 0, type := 0, pos := "ast.go:88", after := #[], guard := none }, { dst := some 6, op := Op.load 9 (Operand.tmp 5), type := 9, pos := "ast.go:88", after := #[{ on := 0, ground := Ground.data }], guard := none }, { dst := some 7, op := Op.fieldAddr 42 (Operand.tmp 3) 0, type := 0, pos := "ast.go:88", after := #[], guard := none }, { dst := some 8, op := Op.load 9 (Operand.tmp 7), type := 9, pos := "ast.go:88", after := #[{ on := 2, ground := Ground.data }], guard := none }, { dst := some 9, op := Op.binOp BinOp.eql 9 (Operand.tmp 6) (Operand.tmp 8) 9, type := 4, pos := "ast.go:88", after := #[{ on := 1, ground := Ground.data }, { on := 3, ground := Ground.data }], guard := none }, { dst := some 10, op := Op.move (Operand.tmp 9), type := 4, pos := "ast.go:88", after := #[{ on := 4, ground := Ground.data }], guard := none }, { dst := some 11, op := Op.fieldAddr 42 (Operand.tmp 2) 1, type := 0, pos := "ast.go:88", after := #[{ on := 5, ground := Ground.guard }], guard := some (5, true) }, { dst := some 12, op := Op.load 37 (Operand.tmp 11), type := 37, pos := "ast.go:88", after := #[{ on := 6, ground := Ground.data }, { on := 5, ground := Ground.guard }], guard := some (5, true) }, { dst := some 13, op := Op.binOp BinOp.eql 37 (Operand.tmp 12) (Operand.const (Value.pointer none)) 37, type := 4, pos := "ast.go:88", after := #[{ on := 7, ground := Ground.data }, { on := 5, ground := Ground.guard }], guard := some (5, true) }, { dst := some 14, op := Op.fieldAddr 42 (Operand.tmp 3) 1, type := 0, pos := "ast.go:88", after := #[{ on := 5, ground := Ground.guard }], guard := some (5, true) }, { dst := some 15, op := Op.load 37 (Operand.tmp 14), type := 37, pos := "ast.go:88", after := #[{ on := 9, ground := Ground.data }, { on := 5, ground := Ground.guard }], guard := some (5, true) }, { dst := some 16, op := Op.binOp BinOp.eql 37 (Operand.tmp 15) (Operand.const (Value.pointer none)) 37, type := 4, pos := "ast.go:88", after := #[{ on := 10, ground := Ground.data }, { on := 5, ground := Ground.guard }], guard := some (5, true) }, { dst := some 17, op := Op.binOp BinOp.eql 4 (Operand.tmp 13) (Operand.tmp 16) 4, type := 4, pos := "ast.go:88", after := #[{ on := 8, ground := Ground.data }, { on := 11, ground := Ground.data }, { on := 5, ground := Ground.guard }], guard := some (5, true) }, { dst := some 18, op := Op.pick (Operand.tmp 10) (Operand.tmp 17) (Operand.const (Value.bool false)), type := 4, pos := "ast.go:88", after := #[{ on := 5, ground := Ground.data }, { on := 12, ground := Ground.data }], guard := none }, { dst := some 19, op := Op.move (Operand.tmp 18), type := 4, pos := "ast.go:88", after := #[{ on := 13, ground := Ground.data }, { on := 5, ground := Ground.chain }], guard := none }, { dst := some 20, op := Op.fieldAddr 42 (Operand.tmp 2) 1, type := 0, pos := "ast.go:88", after := #[{ on := 14, ground := Ground.guard }], guard := some (14, true) }, { dst := some 21, op := Op.load 37 (Operand.tmp 20), type := 37, pos := "ast.go:88", after := #[{ on := 15, ground := Ground.data }, { on := 14, ground := Ground.guard }], guard := some (14, true) }, { dst := some 22, op := Op.binOp BinOp.eql 37 (Operand.tmp 21) (Operand.const (Value.pointer none)) 37, type := 4, pos := "ast.go:88", after := #[{ on := 16, ground := Ground.data }, { on := 14, ground := Ground.guard }], guard := some (14, true) }, { dst := some 23, op := Op.move (Operand.tmp 22), type := 4, pos := "ast.go:88", after := #[{ on := 17, ground := Ground.data }, { on := 14, ground := Ground.chain }, { on := 14, ground := Ground.guard }], guard := some (14, true) }, { dst := some 24, op := Op.fieldAddr 42 (Operand.tmp 2) 1, type := 0, pos := "ast.go:88", after := #[{ on := 18, ground := Ground.guard }], guard := some (18, false) }, { dst := some 25, op := Op.load 37 (Operand.tmp 24), type := 37, pos := "ast.go:88", after := #[{ on := 19, ground := Ground.data }, { on := 18, ground := Ground.guard }], guard := some (18, false) }, { dst := some 26, op := Op.nilCheck (Operand.tmp 25), type := 0, pos := "ast.go:88", after := #[{ on := 20, ground := Ground.data }, { on := 18, ground := Ground.guard }], guard := some (18, false) }, { dst := some 27, op := Op.load 40 (Operand.tmp 26), type := 40, pos := "ast.go:88", after := #[{ on := 21, ground := Ground.data }, { on := 18, ground := Ground.guard }], guard := some (18, false) }, { dst := some 28, op := Op.fieldAddr 42 (Operand.tmp 3) 1, type := 0, pos := "ast.go:88", after := #[{ on := 18, ground := Ground.guard }], guard := some (18, false) }, { dst := some 29, op := Op.load 37 (Operand.tmp 28), type := 37, pos := "ast.go:88", after := #[{ on := 23, ground := Ground.data }, { on := 18, ground := Ground.guard }], guard := some (18, false) }, { dst := some 30, op := Op.nilCheck (Operand.tmp 29), type := 0, pos := "ast.go:88", after := #[{ on := 24, ground := Ground.data }, { on := 18, ground := Ground.guard }], guard := some (18, false) }, { dst := some 31, op := Op.load 40 (Operand.tmp 30), type := 40, pos := "ast.go:88", after := #[{ on := 25, ground := Ground.data }, { on := 18, ground := Ground.guard }], guard := some (18, false) }, { dst := some 32, op := Op.call { callee := Callee.value (Operand.func 81), args := #[Operand.tmp 27, Operand.tmp 31], argTypes := #[37, 40] }, type := 4, pos := "ast.go:88", after := #[{ on := 22, ground := Ground.data }, { on := 26, ground := Ground.data }, { on := 18, ground := Ground.chain }, { on := 18, ground := Ground.guard }], guard := some (18, false) }, { dst := some 33, op := Op.pick (Operand.tmp 23) (Operand.const (Value.bool true)) (Operand.tmp 32), type := 4, pos := "ast.go:88", after := #[{ on := 18, ground := Ground.data }, { on := 27, ground := Ground.data }, { on := 14, ground := Ground.guard }], guard := some (14, true) }, { dst := some 34, op := Op.pick (Operand.tmp 19) (Operand.tmp 33) (Operand.const (Value.bool false)), type := 4, pos := "ast.go:88", after := #[{ on := 14, ground := Ground.data }, { on := 28, ground := Ground.data }], guard := none }, { dst := some 4, op := Op.assign (Operand.tmp 34), type := 4, pos := "ast.go:88", after := #[{ on := 29, ground := Ground.data }, { on := 27, ground := Ground.chain }, { on := 0, ground := Ground.phase }, { on := 1, ground := Ground.phase }, { on := 2, ground := Ground.phase }, { on := 3, ground := Ground.phase }, { on := 4, ground := Ground.phase }, { on := 5, ground := Ground.phase }, { on := 6, ground := Ground.phase }, { on := 7, ground := Ground.phase }, { on := 8, ground := Ground.phase }, { on := 9, ground := Ground.phase }, { on := 10, ground := Ground.phase }, { on := 11, ground := Ground.phase }, { on := 12, ground := Ground.phase }, { on := 13, ground := Ground.phase }, { on := 14, ground := Ground.phase }, { on := 15, ground := Ground.phase }, { on := 16, ground := Ground.phase }, { on := 17, ground := Ground.phase }, { on := 18, ground := Ground.phase }, { on := 19, ground := Ground.phase }, { on := 20, ground := Ground.phase }, { on := 21, ground := Ground.phase }, { on := 22, ground := Ground.phase }, { on := 23, ground := Ground.phase }, { on := 24, ground := Ground.phase }, { on := 25, ground := Ground.phase }, { on := 26, ground := Ground.phase }, { on := 27, ground := Ground.phase }, { on := 28, ground := Ground.phase }, { on := 29, ground := Ground.phase }], guard := none }] true).wp Tryd.prog Q a0 W := by
  refine start_ (n := 31) (S := fun w' => True) (ds := []) #[false, false, false, false, false, false, false, false, false, false, false, false, false, false, false, false, false, false, false, false, false, false, false, false, false, false, false, false, false, false, false] (by kernel_rfl) rfl rfl trivial (fun hHeld => ?_)
  refine with_tabW as80bs.tab as80bs.bits (fun HT_ HW_ => ?_)
  refine inv_at [0, 1, 2, 3, 4, 5, 6, 7, 8, 9, 10, 11, 12, 13, 14, 15, 16, 17, 18, 19, 20, 21, 22, 23, 24, 25, 26, 27, 28, 29, 30] (fun a0_ b a w' => a = putSel a0_ b [(0, 5, .pointer (some ⟨w0.heap.size, 0, none⟩)), (1, 6, .string t1), (2, 7, .pointer (some ⟨w0.heap.size + 1, 0, none⟩)), (3, 8, .string t2), (4, 9, .bool true), (5, 10, .bool true), (6, 11, .pointer (some ⟨w0.heap.size, 1, none⟩)), (7, 12, .pointer (some ⟨b1, o1, none⟩)), (8, 13, .bool false), (9, 14, .pointer (some ⟨w0.heap.size + 1, 1, none⟩)), (10, 15, .pointer none), (11, 16, .bool true), (12, 17, .bool false), (13, 18, .bool false), (14, 19, .bool false), (15, 20, undef), (16, 21, undef), (17, 22, undef), (18, 23, undef), (19, 24, undef), (20, 25, undef), (21, 26, undef), (22, 27, undef), (23, 28, undef), (24, 29, undef), (25, 30, undef), (26, 31, undef), (27, 32, undef), (28, 33, undef), (29, 34, .bool false), (30, 4, .bool false)] ∧ (ElI w0 t1 (some ⟨b1, o1, none⟩) t2 none w')) HT_.out HW_.out (by kernel_rfl) (by kernel_rfl) ?_ ?_ ?_
  · exact ⟨(by simp only [putSel, Bool.false_eq_true, if_false]), hI⟩
  · clear hI hend hHeld
    refine steps_cons ?_ ?_
    · rintro b a w' ⟨ha, hI⟩ hb_ hon hoff
      refine ⟨_, rfl, fun K hK => ?_⟩
      have e2 : a.tmps[2]? = some (.pointer (some ⟨w0.heap.size, 0, none⟩)) := by rw [ha]; exact (putSel_off rfl).trans s2
      replace ha := Aside0.mk ha
      refine value_ (w1 := w') (v := .pointer (some ⟨w0.heap.size, 0, none⟩)) (by rfl) rfl ?_ ?_
      · go_simp; try rfl
        all_goals (try (simp only [IntKind.wrap_i64]; omega))
      exact hK.out _ _ ⟨(by rw [ha.out]; exact putSel_upk 0 hb_ rfl rfl rfl), hI⟩
    refine steps_cons ?_ ?_
    · rintro b a w' ⟨ha, hI⟩ hb_ hon hoff
      refine ⟨_, rfl, fun K hK => ?_⟩
      have e5 : a.tmps[5]? = some (.pointer (some ⟨w0.heap.size, 0, none⟩)) := by rw [ha]; exact putSel_on (e := (0, 5, .pointer (some ⟨w0.heap.size, 0, none⟩))) 0 rfl rfl (hon 0 (by kernel_rfl)) (by rw [hsz]; rfl)
      replace ha := Aside0.mk ha
      have m0 := Own.c hI 1 0 rfl rfl
      refine value_ (w1 := w') (v := .string t1) (by rfl) rfl ?_ ?_
      · go_simp; try rfl
        all_goals (try (simp only [IntKind.wrap_i64]; omega))
      exact hK.out _ _ ⟨(by rw [ha.out]; exact putSel_upk 1 hb_ rfl rfl rfl), hI⟩
    refine steps_cons ?_ ?_
    · rintro b a w' ⟨ha, hI⟩ hb_ hon hoff
      refine ⟨_, rfl, fun K hK => ?_⟩
      have e3 : a.tmps[3]? = some (.pointer (some ⟨w0.heap.size + 1, 0, none⟩)) := by rw [ha]; exact (putSel_off rfl).trans s3
      replace ha := Aside0.mk ha
      refine value_ (w1 := w') (v := .pointer (some ⟨w0.heap.size + 1, 0, none⟩)) (by rfl) rfl ?_ ?_
      · go_simp; try rfl
        all_goals (try (simp only [IntKind.wrap_i64]; omega))
      exact hK.out _ _ ⟨(by rw [ha.out]; exact putSel_upk 2 hb_ rfl rfl rfl), hI⟩
    refine steps_cons ?_ ?_
    · rintro b a w' ⟨ha, hI⟩ hb_ hon hoff
      refine ⟨_, rfl, fun K hK => ?_⟩
      have e7 : a.tmps[7]? = some (.pointer (some ⟨w0.heap.size + 1, 0, none⟩)) := by rw [ha]; exact putSel_on (e := (2, 7, .pointer (some ⟨w0.heap.size + 1, 0, none⟩))) 2 rfl rfl (hon 2 (by kernel_rfl)) (by rw [hsz]; rfl)
      replace ha := Aside0.mk ha
      have m0 := Own.c hI 0 0 rfl rfl
      refine value_ (w1 := w') (v := .string t2) (by rfl) rfl ?_ ?_
      · go_simp; try rfl
        all_goals (try (simp only [IntKind.wrap_i64]; omega))
      exact hK.out _ _ ⟨(by rw [ha.out]; exact putSel_upk 3 hb_ rfl rfl rfl), hI⟩
    refine steps_cons ?_ ?_
    · rintro b a w' ⟨ha, hI⟩ hb_ hon hoff
      refine ⟨_, rfl, fun K hK => ?_⟩
      have e6 : a.tmps[6]? = some (.string t1) := by rw [ha]; exact putSel_on (e := (1, 6, .string t1)) 1 rfl rfl (hon 1 (by kernel_rfl)) (by rw [hsz]; rfl)
      have e8 : a.tmps[8]? = some (.string t2) := by rw [ha]; exact putSel_on (e := (3, 8, .string t2)) 3 rfl rfl (hon 3 (by kernel_rfl)) (by rw [hsz]; rfl)
      replace ha := Aside0.mk ha
      refine value_ (w1 := w') (v := .bool true) (by rfl) rfl ?_ ?_
      · go_simp; try rfl
        all_goals (try (simp only [IntKind.wrap_i64]; omega))
      exact hK.out _ _ ⟨(by rw [ha.out]; exact putSel_upk 4 hb_ rfl rfl rfl), hI⟩
    refine steps_cons ?_ ?_
    · rintro b a w' ⟨ha, hI⟩ hb_ hon hoff
      refine ⟨_, rfl, fun K hK => ?_⟩
      have e9 : a.tmps[9]? = some (.bool true) := by rw [ha]; exact putSel_on (e := (4, 9, .bool true)) 4 rfl rfl (hon 4 (by kernel_rfl)) (by rw [hsz]; rfl)
      replace ha := Aside0.mk ha
      refine value_ (w1 := w') (v := .bool true) (by rfl) rfl ?_ ?_
      · go_simp; try rfl
        all_goals (try (simp only [IntKind.wrap_i64]; omega))
      exact hK.out _ _ ⟨(by rw [ha.out]; exact putSel_upk 5 hb_ rfl rfl rfl), hI⟩
    refine steps_cons ?_ ?_
    · rintro b a w' ⟨ha, hI⟩ hb_ hon hoff
      refine ⟨_, rfl, fun K hK => ?_⟩
      have e2 : a.tmps[2]? = some (.pointer (some ⟨w0.heap.size, 0, none⟩)) := by rw [ha]; exact (putSel_off rfl).trans s2
      have e10 : a.tmps[10]? = some (.bool true) := by rw [ha]; exact putSel_on (e := (5, 10, .bool true)) 5 rfl rfl (hon 5 (by kernel_rfl)) (by rw [hsz]; rfl)
      replace ha := Aside0.mk ha
      refine value_ (w1 := w') (v := .pointer (some ⟨w0.heap.size, 1, none⟩)) (wanted_on rfl rfl rfl e10) rfl ?_ ?_
      · go_simp; try rfl
        all_goals (try (simp only [IntKind.wrap_i64]; omega))
      exact hK.out _ _ ⟨(by rw [ha.out]; exact putSel_upk 6 hb_ rfl rfl rfl), hI⟩
    refine steps_cons ?_ ?_
    · rintro b a w' ⟨ha, hI⟩ hb_ hon hoff
      refine ⟨_, rfl, fun K hK => ?_⟩
      have e11 : a.tmps[11]? = some (.pointer (some ⟨w0.heap.size, 1, none⟩)) := by rw [ha]; exact putSel_on (e := (6, 11, .pointer (some ⟨w0.heap.size, 1, none⟩))) 6 rfl rfl (hon 6 (by kernel_rfl)) (by rw [hsz]; rfl)
      have e10 : a.tmps[10]? = some (.bool true) := by rw [ha]; exact putSel_on (e := (5, 10, .bool true)) 5 rfl rfl (hon 5 (by kernel_rfl)) (by rw [hsz]; rfl)
      replace ha := Aside0.mk ha
      have m0 := Own.c hI 1 1 rfl rfl
      refine value_ (w1 := w') (v := .pointer (some ⟨b1, o1, none⟩)) (wanted_on rfl rfl rfl e10) rfl ?_ ?_
      · go_simp; try rfl
        all_goals (try (simp only [IntKind.wrap_i64]; omega))
      exact hK.out _ _ ⟨(by rw [ha.out]; exact putSel_upk 7 hb_ rfl rfl rfl), hI⟩
    refine steps_cons ?_ ?_
    · rintro b a w' ⟨ha, hI⟩ hb_ hon hoff
      refine ⟨_, rfl, fun K hK => ?_⟩
      have e12 : a.tmps[12]? = some (.pointer (some ⟨b1, o1, none⟩)) := by rw [ha]; exact putSel_on (e := (7, 12, .pointer (some ⟨b1, o1, none⟩))) 7 rfl rfl (hon 7 (by kernel_rfl)) (by rw [hsz]; rfl)
      have e10 : a.tmps[10]? = some (.bool true) := by rw [ha]; exact putSel_on (e := (5, 10, .bool true)) 5 rfl rfl (hon 5 (by kernel_rfl)) (by rw [hsz]; rfl)
      replace ha := Aside0.mk ha
      refine value_ (w1 := w') (v := .bool false) (wanted_on rfl rfl rfl e10) rfl ?_ ?_
      · go_simp; try rfl
        all_goals (try (simp only [IntKind.wrap_i64]; omega))
      exact hK.out _ _ ⟨(by rw [ha.out]; exact putSel_upk 8 hb_ rfl rfl rfl), hI⟩
    refine steps_cons ?_ ?_
    · rintro b a w' ⟨ha, hI⟩ hb_ hon hoff
      refine ⟨_, rfl, fun K hK => ?_⟩
      have e3 : a.tmps[3]? = some (.pointer (some ⟨w0.heap.size + 1, 0, none⟩)) := by rw [ha]; exact (putSel_off rfl).trans s3
      have e10 : a.tmps[10]? = some (.bool true) := by rw [ha]; exact putSel_on (e := (5, 10, .bool true)) 5 rfl rfl (hon 5 (by kernel_rfl)) (by rw [hsz]; rfl)
      replace ha := Aside0.mk ha
      refine value_ (w1 := w') (v := .pointer (some ⟨w0.heap.size + 1, 1, none⟩)) (wanted_on rfl rfl rfl e10) rfl ?_ ?_
      · go_simp; try rfl
        all_goals (try (simp only [IntKind.wrap_i64]; omega))
      exact hK.out _ _ ⟨(by rw [ha.out]; exact putSel_upk 9 hb_ rfl rfl rfl), hI⟩
    refine steps_cons ?_ ?_
    · rintro b a w' ⟨ha, hI⟩ hb_ hon hoff
      refine ⟨_, rfl, fun K hK => ?_⟩
      have e14 : a.tmps[14]? = some (.pointer (some ⟨w0.heap.size + 1, 1, none⟩)) := by rw [ha]; exact putSel_on (e := (9, 14, .pointer (some ⟨w0.heap.size + 1, 1, none⟩))) 9 rfl rfl (hon 9 (by kernel_rfl)) (by rw [hsz]; rfl)
      have e10 : a.tmps[10]? = some (.bool true) := by rw [ha]; exact putSel_on (e := (5, 10, .bool true)) 5 rfl rfl (hon 5 (by kernel_rfl)) (by rw [hsz]; rfl)
      replace ha := Aside0.mk ha
      have m0 := Own.c hI 0 1 rfl rfl
      refine value_ (w1 := w') (v := .pointer none) (wanted_on rfl rfl rfl e10) rfl ?_ ?_
      · go_simp; try rfl
        all_goals (try (simp only [IntKind.wrap_i64]; omega))
      exact hK.out _ _ ⟨(by rw [ha.out]; exact putSel_upk 10 hb_ rfl rfl rfl), hI⟩
    refine steps_cons ?_ ?_
    · rintro b a w' ⟨ha, hI⟩ hb_ hon hoff
      refine ⟨_, rfl, fun K hK => ?_⟩
      have e15 : a.tmps[15]? = some (.pointer none) := by rw [ha]; exact putSel_on (e := (10, 15, .pointer none)) 10 rfl rfl (hon 10 (by kernel_rfl)) (by rw [hsz]; rfl)
      have e10 : a.tmps[10]? = some (.bool true) := by rw [ha]; exact putSel_on (e := (5, 10, .bool true)) 5 rfl rfl (hon 5 (by kernel_rfl)) (by rw [hsz]; rfl)
      replace ha := Aside0.mk ha
      refine value_ (w1 := w') (v := .bool true) (wanted_on rfl rfl rfl e10) rfl ?_ ?_
      · go_simp; try rfl
        all_goals (try (simp only [IntKind.wrap_i64]; omega))
      exact hK.out _ _ ⟨(by rw [ha.out]; exact putSel_upk 11 hb_ rfl rfl rfl), hI⟩
    refine steps_cons ?_ ?_
    · rintro b a w' ⟨ha, hI⟩ hb_ hon hoff
      refine ⟨_, rfl, fun K hK => ?_⟩
      have e13 : a.tmps[13]? = some (.bool false) := by rw [ha]; exact putSel_on (e := (8, 13, .bool false)) 8 rfl rfl (hon 8 (by kernel_rfl)) (by rw [hsz]; rfl)
      have e16 : a.tmps[16]? = some (.bool true) := by rw [ha]; exact putSel_on (e := (11, 16, .bool true)) 11 rfl rfl (hon 11 (by kernel_rfl)) (by rw [hsz]; rfl)
      have e10 : a.tmps[10]? = some (.bool true) := by rw [ha]; exact putSel_on (e := (5, 10, .bool true)) 5 rfl rfl (hon 5 (by kernel_rfl)) (by rw [hsz]; rfl)
      replace ha := Aside0.mk ha
      refine value_ (w1 := w') (v := .bool false) (wanted_on rfl rfl rfl e10) rfl ?_ ?_
      · go_simp; try rfl
        all_goals (try (simp only [IntKind.wrap_i64]; omega))
      exact hK.out _ _ ⟨(by rw [ha.out]; exact putSel_upk 12 hb_ rfl rfl rfl), hI⟩
    refine steps_cons ?_ ?_
    · rintro b a w' ⟨ha, hI⟩ hb_ hon hoff
      refine ⟨_, rfl, fun K hK => ?_⟩
      have e10 : a.tmps[10]? = some (.bool true) := by rw [ha]; exact putSel_on (e := (5, 10, .bool true)) 5 rfl rfl (hon 5 (by kernel_rfl)) (by rw [hsz]; rfl)
      have e17 : a.tmps[17]? = some (.bool false) := by rw [ha]; exact putSel_on (e := (12, 17, .bool false)) 12 rfl rfl (hon 12 (by kernel_rfl)) (by rw [hsz]; rfl)
      replace ha := Aside0.mk ha
      refine value_ (w1 := w') (v := .bool false) (by rfl) rfl ?_ ?_
      · go_simp; try rfl
        all_goals (try (simp only [IntKind.wrap_i64]; omega))
      exact hK.out _ _ ⟨(by rw [ha.out]; exact putSel_upk 13 hb_ rfl rfl rfl), hI⟩
    refine steps_cons ?_ ?_
    · rintro b a w' ⟨ha, hI⟩ hb_ hon hoff
      refine ⟨_, rfl, fun K hK => ?_⟩
      have e18 : a.tmps[18]? = some (.bool false) := by rw [ha]; exact putSel_on (e := (13, 18, .bool false)) 13 rfl rfl (hon 13 (by kernel_rfl)) (by rw [hsz]; rfl)
      replace ha := Aside0.mk ha
      refine value_ (w1 := w') (v := .bool false) (by rfl) rfl ?_ ?_
      · go_simp; try rfl
        all_goals (try (simp only [IntKind.wrap_i64]; omega))
      exact hK.out _ _ ⟨(by rw [ha.out]; exact putSel_upk 14 hb_ rfl rfl rfl), hI⟩
    refine steps_cons ?_ ?_
    · rintro b a w' ⟨ha, hI⟩ hb_ hon hoff
      refine ⟨_, rfl, fun K hK => ?_⟩
      have e19 : a.tmps[19]? = some (.bool false) := by rw [ha]; exact putSel_on (e := (14, 19, .bool false)) 14 rfl rfl (hon 14 (by kernel_rfl)) (by rw [hsz]; rfl)
      exact off_ (wanted_off rfl rfl rfl e19) (hK.out _ _ ⟨(by rw [ha]; exact putSel_upk 15 hb_ rfl rfl rfl), hI⟩)
    refine steps_cons ?_ ?_
    · rintro b a w' ⟨ha, hI⟩ hb_ hon hoff
      refine ⟨_, rfl, fun K hK => ?_⟩
      have e19 : a.tmps[19]? = some (.bool false) := by rw [ha]; exact putSel_on (e := (14, 19, .bool false)) 14 rfl rfl (hon 14 (by kernel_rfl)) (by rw [hsz]; rfl)
      exact off_ (wanted_off rfl rfl rfl e19) (hK.out _ _ ⟨(by rw [ha]; exact putSel_upk 16 hb_ rfl rfl rfl), hI⟩)
    refine steps_cons ?_ ?_
    · rintro b a w' ⟨ha, hI⟩ hb_ hon hoff
      refine ⟨_, rfl, fun K hK => ?_⟩
      have e19 : a.tmps[19]? = some (.bool false) := by rw [ha]; exact putSel_on (e := (14, 19, .bool false)) 14 rfl rfl (hon 14 (by kernel_rfl)) (by rw [hsz]; rfl)
      exact off_ (wanted_off rfl rfl rfl e19) (hK.out _ _ ⟨(by rw [ha]; exact putSel_upk 17 hb_ rfl rfl rfl), hI⟩)
    refine steps_cons ?_ ?_
    · rintro b a w' ⟨ha, hI⟩ hb_ hon hoff
      refine ⟨_, rfl, fun K hK => ?_⟩
      have e19 : a.tmps[19]? = some (.bool false) := by rw [ha]; exact putSel_on (e := (14, 19, .bool false)) 14 rfl rfl (hon 14 (by kernel_rfl)) (by rw [hsz]; rfl)
      exact off_ (wanted_off rfl rfl rfl e19) (hK.out _ _ ⟨(by rw [ha]; exact putSel_upk 18 hb_ rfl rfl rfl), hI⟩)
    refine steps_cons ?_ ?_
    · rintro b a w' ⟨ha, hI⟩ hb_ hon hoff
      refine ⟨_, rfl, fun K hK => ?_⟩
      have e23 : a.tmps[23]? = some (undef) := by rw [ha]; exact putSel_on (e := (18, 23, undef)) 18 rfl rfl (hon 18 (by kernel_rfl)) (by rw [hsz]; rfl)
      exact off_ (wanted_und rfl rfl rfl e23) (hK.out _ _ ⟨(by rw [ha]; exact putSel_upk 19 hb_ rfl rfl rfl), hI⟩)
    refine steps_cons ?_ ?_
    · rintro b a w' ⟨ha, hI⟩ hb_ hon hoff
      refine ⟨_, rfl, fun K hK => ?_⟩
      have e23 : a.tmps[23]? = some (undef) := by rw [ha]; exact putSel_on (e := (18, 23, undef)) 18 rfl rfl (hon 18 (by kernel_rfl)) (by rw [hsz]; rfl)
      exact off_ (wanted_und rfl rfl rfl e23) (hK.out _ _ ⟨(by rw [ha]; exact putSel_upk 20 hb_ rfl rfl rfl), hI⟩)
    refine steps_cons ?_ ?_
    · rintro b a w' ⟨ha, hI⟩ hb_ hon hoff
      refine ⟨_, rfl, fun K hK => ?_⟩
      have e23 : a.tmps[23]? = some (undef) := by rw [ha]; exact putSel_on (e := (18, 23, undef)) 18 rfl rfl (hon 18 (by kernel_rfl)) (by rw [hsz]; rfl)
      exact off_ (wanted_und rfl rfl rfl e23) (hK.out _ _ ⟨(by rw [ha]; exact putSel_upk 21 hb_ rfl rfl rfl), hI⟩)
    refine steps_cons ?_ ?_
    · rintro b a w' ⟨ha, hI⟩ hb_ hon hoff
      refine ⟨_, rfl, fun K hK => ?_⟩
      have e23 : a.tmps[23]? = some (undef) := by rw [ha]; exact putSel_on (e := (18, 23, undef)) 18 rfl rfl (hon 18 (by kernel_rfl)) (by rw [hsz]; rfl)
      exact off_ (wanted_und rfl rfl rfl e23) (hK.out _ _ ⟨(by rw [ha]; exact putSel_upk 22 hb_ rfl rfl rfl), hI⟩)
    refine steps_cons ?_ ?_
    · rintro b a w' ⟨ha, hI⟩ hb_ hon hoff
      refine ⟨_, rfl, fun K hK => ?_⟩
      have e23 : a.tmps[23]? = some (undef) := by rw [ha]; exact putSel_on (e := (18, 23, undef)) 18 rfl rfl (hon 18 (by kernel_rfl)) (by rw [hsz]; rfl)
      exact off_ (wanted_und rfl rfl rfl e23) (hK.out _ _ ⟨(by rw [ha]; exact putSel_upk 23 hb_ rfl rfl rfl), hI⟩)
    refine steps_cons ?_ ?_
    · rintro b a w' ⟨ha, hI⟩ hb_ hon hoff
      refine ⟨_, rfl, fun K hK => ?_⟩
      have e23 : a.tmps[23]? = some (undef) := by rw [ha]; exact putSel_on (e := (18, 23, undef)) 18 rfl rfl (hon 18 (by kernel_rfl)) (by rw [hsz]; rfl)
      exact off_ (wanted_und rfl rfl rfl e23) (hK.out _ _ ⟨(by rw [ha]; exact putSel_upk 24 hb_ rfl rfl rfl), hI⟩)
    refine steps_cons ?_ ?_
    · rintro b a w' ⟨ha, hI⟩ hb_ hon hoff
      refine ⟨_, rfl, fun K hK => ?_⟩
      have e23 : a.tmps[23]? = some (undef) := by rw [ha]; exact putSel_on (e := (18, 23, undef)) 18 rfl rfl (hon 18 (by kernel_rfl)) (by rw [hsz]; rfl)
      exact off_ (wanted_und rfl rfl rfl e23) (hK.out _ _ ⟨(by rw [ha]; exact putSel_upk 25 hb_ rfl rfl rfl), hI⟩)
    refine steps_cons ?_ ?_
    · rintro b a w' ⟨ha, hI⟩ hb_ hon hoff
      refine ⟨_, rfl, fun K hK => ?_⟩
      have e23 : a.tmps[23]? = some (undef) := by rw [ha]; exact putSel_on (e := (18, 23, undef)) 18 rfl rfl (hon 18 (by kernel_rfl)) (by rw [hsz]; rfl)
      exact off_ (wanted_und rfl rfl rfl e23) (hK.out _ _ ⟨(by rw [ha]; exact putSel_upk 26 hb_ rfl rfl rfl), hI⟩)
    refine steps_cons ?_ ?_
    · rintro b a w' ⟨ha, hI⟩ hb_ hon hoff
      refine ⟨_, rfl, fun K hK => ?_⟩
      have e23 : a.tmps[23]? = some (undef) := by rw [ha]; exact putSel_on (e := (18, 23, undef)) 18 rfl rfl (hon 18 (by kernel_rfl)) (by rw [hsz]; rfl)
      exact off_ (wanted_und rfl rfl rfl e23) (hK.out _ _ ⟨(by rw [ha]; exact putSel_upk 27 hb_ rfl rfl rfl), hI⟩)
    refine steps_cons ?_ ?_
    · rintro b a w' ⟨ha, hI⟩ hb_ hon hoff
      refine ⟨_, rfl, fun K hK => ?_⟩
      have e19 : a.tmps[19]? = some (.bool false) := by rw [ha]; exact putSel_on (e := (14, 19, .bool false)) 14 rfl rfl (hon 14 (by kernel_rfl)) (by rw [hsz]; rfl)
      exact off_ (wanted_off rfl rfl rfl e19) (hK.out _ _ ⟨(by rw [ha]; exact putSel_upk 28 hb_ rfl rfl rfl), hI⟩)
    refine steps_cons ?_ ?_
    · rintro b a w' ⟨ha, hI⟩ hb_ hon hoff
      refine ⟨_, rfl, fun K hK => ?_⟩
      have e19 : a.tmps[19]? = some (.bool false) := by rw [ha]; exact putSel_on (e := (14, 19, .bool false)) 14 rfl rfl (hon 14 (by kernel_rfl)) (by rw [hsz]; rfl)
      have e33 : a.tmps[33]? = some (undef) := by rw [ha]; exact putSel_on (e := (28, 33, undef)) 28 rfl rfl (hon 28 (by kernel_rfl)) (by rw [hsz]; rfl)
      replace ha := Aside0.mk ha
      refine value_ (w1 := w') (v := .bool false) (by rfl) rfl ?_ ?_
      · go_simp; try rfl
        all_goals (try (simp only [IntKind.wrap_i64]; omega))
      exact hK.out _ _ ⟨(by rw [ha.out]; exact putSel_upk 29 hb_ rfl rfl rfl), hI⟩
    refine steps_cons ?_ ?_
    · rintro b a w' ⟨ha, hI⟩ hb_ hon hoff
      refine ⟨_, rfl, fun K hK => ?_⟩
      have e34 : a.tmps[34]? = some (.bool false) := by rw [ha]; exact putSel_on (e := (29, 34, .bool false)) 29 rfl rfl (hon 29 (by kernel_rfl)) (by rw [hsz]; rfl)
      replace ha := Aside0.mk ha
      refine value_ (w1 := w') (v := .bool false) (by rfl) rfl ?_ ?_
      · go_simp; try rfl
        all_goals (try (simp only [IntKind.wrap_i64]; omega))
      exact hK.out _ _ ⟨(by rw [ha.out]; exact putSel_upk 30 hb_ rfl rfl rfl), hI⟩
    exact steps_nil
  rintro b a w1 hall ⟨ha, hI1⟩
  exact hend a w1 hI1 (by rw [ha]; simp only [putSel, if_true, hall 0 (by kernel_rfl), hall 1 (by kernel_rfl), hall 2 (by kernel_rfl), hall 3 (by kernel_rfl), hall 4 (by kernel_rfl), hall 5 (by kernel_rfl), hall 6 (by kernel_rfl), hall 7 (by kernel_rfl), hall 8 (by kernel_rfl), hall 9 (by kernel_rfl), hall 10 (by kernel_rfl), hall 11 (by kernel_rfl), hall 12 (by kernel_rfl), hall 13 (by kernel_rfl), hall 14 (by kernel_rfl), hall 15 (by kernel_rfl), hall 16 (by kernel_rfl), hall 17 (by kernel_rfl), hall 18 (by kernel_rfl), hall 19 (by kernel_rfl), hall 20 (by kernel_rfl), hall 21 (by kernel_rfl), hall 22 (by kernel_rfl), hall 23 (by kernel_rfl), hall 24 (by kernel_rfl), hall 25 (by kernel_rfl), hall 26 (by kernel_rfl), hall 27 (by kernel_rfl), hall 28 (by kernel_rfl), hall 29 (by kernel_rfl), hall 30 (by kernel_rfl)]) (by rw [ha]; exact (putSel_size b _ a0).2) (by rw [ha]; exact putSel_on (e := (30, 4, .bool false)) 30 rfl rfl (hall 30 (by kernel_rfl)) (by rw [hsz]; rfl))
end Go.Proofs.YtipmphgkdomebaaDoor
namespace Go.Proofs.YtipmphgkdomebaaDoor
open Go.RowKit Go.Proofs.YtipmphgkdomebaaDoorW.PrintWords Go.Proofs.YtipmphgkdomebaaDoorW.PrintLast
set_option linter.unusedVariables false
set_option linter.unusedSimpArgs false
def as80c.T : Bool × List (List Nat × List Nat) := (true, [([], []), ([0], [0]), ([], []), ([2], [2]), ([1, 3], [1, 3]), ([4], [4]), ([5], [5]), ([6, 5], [5, 6]), ([7, 5], [5, 7]), ([5], [5]), ([9, 5], [5, 9]), ([10, 5], [5, 10]), ([8, 11, 5], [5, 8, 11]), ([5, 12], [5, 12]), ([13, 5], [13]), ([14], [14]), ([15, 14], [14, 15]), ([16, 14], [14, 16]), ([17, 14, 14], [14, 17]), ([18], [18]), ([19, 18], [18, 19]), ([20, 18], [18, 20]), ([21, 18], [18, 21]), ([18], [18]), ([23, 18], [18, 23]), ([24, 18], [18, 24]), ([25, 18], [18, 25]), ([22, 26, 18, 18], [18, 22, 26]), ([18, 27, 14], [14, 18, 27]), ([14, 28], [14, 28]), ([29, 27, 0, 1, 2, 3, 4, 5, 6, 7, 8, 9, 10, 11, 12, 13, 14, 15, 16, 17, 18, 19, 20, 21, 22, 23, 24, 25, 26, 27, 28, 29], [29])])
def as80c.B : List Nat := [0, 1, 0, 4, 15, 31, 63, 127, 255, 63, 575, 1599, 4095, 8191, 16383, 32767, 65535, 131071, 262143, 524287, 1048575, 2097151, 4194303, 524287, 8912895, 25690111, 59244543, 134217727, 268435455, 536870911, 1073741823]
theorem as80c.tab : rtab .any (opsOf Tryd.f80 1) = as80c.T := by kernel_rfl
theorem as80c.bits : waitsOk as80c.T.2 as80c.B = true := by kernel_rfl
set_option maxRecDepth 100000 in
set_option maxHeartbeats 4000000 in
theorem as80c (w0 : World) (t1 t2 : ByteArray) (hq : (t1.toList == t2.toList) = true) (a0 : Act) (s2 : a0.tmps[2]? = some (.pointer (some ⟨w0.heap.size, 0, none⟩))) (s3 : a0.tmps[3]? = some (.pointer (some ⟨w0.heap.size + 1, 0, none⟩))) (hsz : a0.tmps.size = Tryd.f80.ntmps) (W : World) (hI : ElI w0 t1 none t2 none W.drew) (Q : Exit → Act → World → Prop) (hend : ∀ (a9 : Act) w', ElI w0 t1 none t2 none w' → a9 = putSel a0 (fun _ => true) [(0, 5, .pointer (some ⟨w0.heap.size, 0, none⟩)), (1, 6, .string t1), (2, 7, .pointer (some ⟨w0.heap.size + 1, 0, none⟩)), (3, 8, .string t2), (4, 9, .bool true), (5, 10, .bool true), (6, 11, .pointer (some ⟨w0.heap.size, 1, none⟩)), (7, 12, .pointer none), (8, 13, .bool true), (9, 14, .pointer (some ⟨w0.heap.size + 1, 1, none⟩)), (10, 15, .pointer none), (11, 16, .bool true), (12, 17, .bool true), (13, 18, .bool true), (14, 19, .bool true), (15, 20, .pointer (some ⟨w0.heap.size, 1, none⟩)), (16, 21, .pointer none), (17, 22, .bool true), (18, 23, .bool true), (19, 24, undef), (20, 25, undef), (21, 26, undef), (22, 27, undef), (23, 28, undef), (24, 29, undef), (25, 30, undef), (26, 31, undef), (27, 32, undef), (28, 33, .bool true), (29, 34, .bool true), (30, 4, .bool true)] → a9.defers = a0.defers → a9.tmps[4]? = some (.bool true) → Q .normal a9 w') :
    (Code.region 1 #[{ dst := some 5, op := Op.fieldAddr 42 (Operand.tmp 2) 0, type := 0, pos := "ast.go:88", after := #[], guard := none }, { dst := some 6, op := Op.load 9 (Operand.tmp 5), type := 9, pos := "ast.go:88", after := #[{ on := 0, ground := Ground.data }], guard := none }, { dst := some 7, op := Op.fieldAddr 42 (Operand.tmp 3) 0, type := 0, pos := "ast.go:88", after := #[], guard := none }, { dst := some 8, op := Op.load 9 (Operand.tmp 7), type := 9, pos := "ast.go:88", after := #[{ on := 2, ground := Ground.data }], guard := none }, { dst := some 9, op := Op.binOp BinOp.eql 9 (Operand.tmp 6) (Operand.tmp 8) 9, type := 4, pos := "ast.go:88", after := #[{ on := 1, ground := Ground.data }, { on := 3, ground := Ground.data }], guard := none }, { dst := some 10, op := Op.move (Operand.tmp 9), type := 4, pos := "ast.go:88", after := #[{ on := 4, ground := Ground.data }], guard := none }, { dst := some 11, op := Op.fieldAddr 42 (Operand.tmp 2) 1, type := 0, pos := "ast.go:88", after := #[{ on := 5, ground := Ground.guard }], guard := some (5, true) }, { dst := some 12, op := Op.load 37 (Operand.tmp 11), type := 37, pos := "ast.go:88", after := #[{ on := 6, ground := Ground.data }, { on := 5, ground := Ground.guard }], guard := some (5, true) }, { dst := some 13, op := Op.binOp BinOp.eql 37 (Operand.tmp 12) (Operand.const (Value.pointer none)) 37, type := 4, pos := "ast.go:88", after := #[{ on := 7, ground := Ground.data }, { on := 5, ground := Ground.guard }], guard := some (5, true) }, { dst := some 14, op := Op.fieldAddr 42 (Operand.tmp 3) 1, type := 0, pos := "ast.go:88", after := #[{ on := 5, ground := Ground.guard }], guard := some (5, true) }, { dst := some 15, op := Op.load 37 (Operand.tmp 14), type := 37, pos := "ast.go:88", after := #[{ on := 9, ground := Ground.data }, { on := 5, ground := Ground.guard }], guard := some (5, true) }, { dst := some 16, op := Op.binOp BinOp.eql 37 (Operand.tmp 15) (Operand.const (Value.pointer none)) 37, type := 4, pos := "ast.go:88", after := #[{ on := 10, ground := Ground.data }, { on := 5, ground := Ground.guard }], guard := some (5, true) }, { dst := some 17, op := Op.binOp BinOp.eql 4 (Operand.tmp 13) (Operand.tmp 16) 4, type := 4, pos := "ast.go:88", after := #[{ on := 8, ground := Ground.data }, { on := 11, ground := Ground.data }, { on := 5, ground := Ground.guard }], guard := some (5, true) }, { dst := some 18, op := Op.pick (Operand.tmp 10) (Operand.tmp 17) (Operand.const (Value.bool false)), type := 4, pos := "ast.go:88", after := #[{ on := 5, ground := Ground.data }, { on := 12, ground := Ground.data }], guard := none }, { dst := some 19, op := Op.move (Operand.tmp 18), type := 4, pos := "ast.go:88", after := #[{ on := 13, ground := Ground.data }, { on := 5, ground := Ground.chain }], guard := none }, { dst := some 20, op := Op.fieldAddr 42 (Operand.tmp 2) 1, type := 0, pos := "ast.go:88", after := #[{ on := 14, ground := Ground.guard }], guard := some (14, true) }, { dst := some 21, op := Op.load 37 (Operand.tmp 20), type := 37, pos := "ast.go:88", after := #[{ on := 15, ground := Ground.data }, { on := 14, ground := Ground.guard }], guard := some (14, true) }, { dst := some 22, op := Op.binOp BinOp.eql 37 (Operand.tmp 21) (Operand.const (Value.pointer none)) 37, type := 4, pos := "ast.go:88", after := #[{ on := 16, ground := Ground.data }, { on := 14, ground := Ground.guard }], guard := some (14, true) }, { dst := some 23, op := Op.move (Operand.tmp 22), type := 4, pos := "ast.go:88", after := #[{ on := 17, ground := Ground.data }, { on := 14, ground := Ground.chain }, { on := 14, ground := Ground.guard }], guard := some (14, true) }, { dst := some 24, op := Op.fieldAddr 42 (Operand.tmp 2) 1, type := 0, pos := "ast.go:88", after := #[{ on := 18, ground := Ground.guard }], guard := some (18, false) }, { dst := some 25, op := Op.load 37 (Operand.tmp 24), type := 37, pos := "ast.go:88", after := #[{ on := 19, ground := Ground.data }, { on := 18, ground := Ground.guard }], guard := some (18, false) }, { dst := some 26, op := Op.nilCheck (Operand.tmp 25), type := 0, pos := "ast.go:88", after := #[{ on := 20, ground := Ground.data }, { on := 18, ground := Ground.guard }], guard := some (18, false) }, { dst := some 27, op := Op.load 40 (Operand.tmp 26), type := 40, pos := "ast.go:88", after := #[{ on := 21, ground := Ground.data }, { on := 18, ground := Ground.guard }], guard := some (18, false) }, { dst := some 28, op := Op.fieldAddr 42 (Operand.tmp 3) 1, type := 0, pos := "ast.go:88", after := #[{ on := 18, ground := Ground.guard }], guard := some (18, false) }, { dst := some 29, op := Op.load 37 (Operand.tmp 28), type := 37, pos := "ast.go:88", after := #[{ on := 23, ground := Ground.data }, { on := 18, ground := Ground.guard }], guard := some (18, false) }, { dst := some 30, op := Op.nilCheck (Operand.tmp 29), type := 0, pos := "ast.go:88", after := #[{ on := 24, ground := Ground.data }, { on := 18, ground := Ground.guard }], guard := some (18, false) }, { dst := some 31, op := Op.load 40 (Operand.tmp 30), type := 40, pos := "ast.go:88", after := #[{ on := 25, ground := Ground.data }, { on := 18, ground := Ground.guard }], guard := some (18, false) }, { dst := some 32, op := Op.call { callee := Callee.value (Operand.func 81), args := #[Operand.tmp 27, Operand.tmp 31], argTypes := #[37, 40] }, type := 4, pos := "ast.go:88", after := #[{ on := 22, ground := Ground.data }, { on := 26, ground := Ground.data }, { on := 18, ground := Ground.chain }, { on := 18, ground := Ground.guard }], guard := some (18, false) }, { dst := some 33, op := Op.pick (Operand.tmp 23) (Operand.const (Value.bool true)) (Operand.tmp 32), type := 4, pos := "ast.go:88", after := #[{ on := 18, ground := Ground.data }, { on := 27, ground := Ground.data }, { on := 14, ground := Ground.guard }], guard := some (14, true) }, { dst := some 34, op := Op.pick (Operand.tmp 19) (Operand.tmp 33) (Operand.const (Value.bool false)), type := 4, pos := "ast.go:88", after := #[{ on := 14, ground := Ground.data }, { on := 28, ground := Ground.data }], guard := none }, { dst := some 4, op := Op.assign (Operand.tmp 34), type := 4, pos := "ast.go:88", after := #[{ on := 29, ground := Ground.data }, { on := 27, ground := Ground.chain }, { on := 0, ground := Ground.phase }, { on := 1, ground := Ground.phase }, { on := 2, ground := Ground.phase }, { on := 3, ground := Ground.phase }, { on := 4, ground := Ground.phase }, { on := 5, ground := Ground.phase }, { on := 6, ground := Ground.phase }, { on := 7, ground := Ground.phase }, { on := 8, ground := Ground.phase }, { on := 9, ground := Ground.phase }, { on := 10, ground := Ground.phase }, { on := 11, ground := Ground.phase }, { on := 12, ground := Ground.phase }, { on := 13, ground := Ground.phase }, { on := 14, ground := Ground.phase }, { on := 15, ground := Ground.phase }, { on := 16, ground := Ground.phase }, { on := 17, ground := Ground.phase }, { on := 18, ground := Ground.phase }, { on := 19, ground := Ground.phase }, { on := 20, ground := Ground.phase }, { on := 21, ground := Ground.phase }, { on := 22, ground := Ground.phase }, { on := 23, ground := Ground.phase }, { on := 24, ground := Ground.phase }, { on := 25, ground := Ground.phase }, { on := 26, ground := Ground.phase }, { on := 27, ground := Ground.phase }, { on := 28, ground := Ground.phase }, { on := 29, ground := Ground.phase }], guard := none }] true).wp Tryd.prog Q a0 W := by
  refine start_ (n := 31) (S := fun w' => True) (ds := []) #[false, false, false, false, false, false, false, false, false, false, false, false, false, false, false, false, false, false, false, false, false, false, false, false, false, false, false, false, false, false, false] (by kernel_rfl) rfl rfl trivial (fun hHeld => ?_)
  refine with_tabW as80c.tab as80c.bits (fun HT_ HW_ => ?_)
  refine inv_at [0, 1, 2, 3, 4, 5, 6, 7, 8, 9, 10, 11, 12, 13, 14, 15, 16, 17, 18, 19, 20, 21, 22, 23, 24, 25, 26, 27, 28, 29, 30] (fun a0_ b a w' => a = putSel a0_ b [(0, 5, .pointer (some ⟨w0.heap.size, 0, none⟩)), (1, 6, .string t1), (2, 7, .pointer (some ⟨w0.heap.size + 1, 0, none⟩)), (3, 8, .string t2), (4, 9, .bool true), (5, 10, .bool true), (6, 11, .pointer (some ⟨w0.heap.size, 1, none⟩)), (7, 12, .pointer none), (8, 13, .bool true), (9, 14, .pointer (some ⟨w0.heap.size + 1, 1, none⟩)), (10, 15, .pointer none), (11, 16, .bool true), (12, 17, .bool true), (13, 18, .bool true), (14, 19, .bool true), (15, 20, .pointer (some ⟨w0.heap.size, 1, none⟩)), (16, 21, .pointer none), (17, 22, .bool true), (18, 23, .bool true), (19, 24, undef), (20, 25, undef), (21, 26, undef), (22, 27, undef), (23, 28, undef), (24, 29, undef), (25, 30, undef), (26, 31, undef), (27, 32, undef), (28, 33, .bool true), (29, 34, .bool true), (30, 4, .bool true)] ∧ (ElI w0 t1 none t2 none w')) HT_.out HW_.out (by kernel_rfl) (by kernel_rfl) ?_ ?_ ?_
  · exact ⟨(by simp only [putSel, Bool.false_eq_true, if_false]), hI⟩
  · clear hI hend hHeld
    refine steps_cons ?_ ?_
    · rintro b a w' ⟨ha, hI⟩ hb_ hon hoff
      refine ⟨_, rfl, fun K hK => ?_⟩
      have e2 : a.tmps[2]? = some (.pointer (some ⟨w0.heap.size, 0, none⟩)) := by rw [ha]; exact (putSel_off rfl).trans s2
      replace ha := Aside0.mk ha
      refine value_ (w1 := w') (v := .pointer (some ⟨w0.heap.size, 0, none⟩)) (by rfl) rfl ?_ ?_
      · go_simp; try rfl
        all_goals (try (simp only [IntKind.wrap_i64]; omega))
      exact hK.out _ _ ⟨(by rw [ha.out]; exact putSel_upk 0 hb_ rfl rfl rfl), hI⟩
    refine steps_cons ?_ ?_
    · rintro b a w' ⟨ha, hI⟩ hb_ hon hoff
      refine ⟨_, rfl, fun K hK => ?_⟩
      have e5 : a.tmps[5]? = some (.pointer (some ⟨w0.heap.size, 0, none⟩)) := by rw [ha]; exact putSel_on (e := (0, 5, .pointer (some ⟨w0.heap.size, 0, none⟩))) 0 rfl rfl (hon 0 (by kernel_rfl)) (by rw [hsz]; rfl)
      replace ha := Aside0.mk ha
      have m0 := Own.c hI 1 0 rfl rfl
      refine value_ (w1 := w') (v := .string t1) (by rfl) rfl ?_ ?_
      · go_simp; try rfl
        all_goals (try (simp only [IntKind.wrap_i64]; omega))
      exact hK.out _ _ ⟨(by rw [ha.out]; exact putSel_upk 1 hb_ rfl rfl rfl), hI⟩
    refine steps_cons ?_ ?_
    · rintro b a w' ⟨ha, hI⟩ hb_ hon hoff
      refine ⟨_, rfl, fun K hK => ?_⟩
      have e3 : a.tmps[3]? = some (.pointer (some ⟨w0.heap.size + 1, 0, none⟩)) := by rw [ha]; exact (putSel_off rfl).trans s3
      replace ha := Aside0.mk ha
      refine value_ (w1 := w') (v := .pointer (some ⟨w0.heap.size + 1, 0, none⟩)) (by rfl) rfl ?_ ?_
      · go_simp; try rfl
        all_goals (try (simp only [IntKind.wrap_i64]; omega))
      exact hK.out _ _ ⟨(by rw [ha.out]; exact putSel_upk 2 hb_ rfl rfl rfl), hI⟩
    refine steps_cons ?_ ?_
    · rintro b a w' ⟨ha, hI⟩ hb_ hon hoff
      refine ⟨_, rfl, fun K hK => ?_⟩
      have e7 : a.tmps[7]? = some (.pointer (some ⟨w0.heap.size + 1, 0, none⟩)) := by rw [ha]; exact putSel_on (e := (2, 7, .pointer (some ⟨w0.heap.size + 1, 0, none⟩))) 2 rfl rfl (hon 2 (by kernel_rfl)) (by rw [hsz]; rfl)
      replace ha := Aside0.mk ha
      have m0 := Own.c hI 0 0 rfl rfl
      refine value_ (w1 := w') (v := .string t2) (by rfl) rfl ?_ ?_
      · go_simp; try rfl
        all_goals (try (simp only [IntKind.wrap_i64]; omega))
      exact hK.out _ _ ⟨(by rw [ha.out]; exact putSel_upk 3 hb_ rfl rfl rfl), hI⟩
    refine steps_cons ?_ ?_
    · rintro b a w' ⟨ha, hI⟩ hb_ hon hoff
      refine ⟨_, rfl, fun K hK => ?_⟩
      have e6 : a.tmps[6]? = some (.string t1) := by rw [ha]; exact putSel_on (e := (1, 6, .string t1)) 1 rfl rfl (hon 1 (by kernel_rfl)) (by rw [hsz]; rfl)
      have e8 : a.tmps[8]? = some (.string t2) := by rw [ha]; exact putSel_on (e := (3, 8, .string t2)) 3 rfl rfl (hon 3 (by kernel_rfl)) (by rw [hsz]; rfl)
      replace ha := Aside0.mk ha
      refine value_ (w1 := w') (v := .bool true) (by rfl) rfl ?_ ?_
      · go_simp; try rfl
        all_goals (try (simp only [IntKind.wrap_i64]; omega))
      exact hK.out _ _ ⟨(by rw [ha.out]; exact putSel_upk 4 hb_ rfl rfl rfl), hI⟩
    refine steps_cons ?_ ?_
    · rintro b a w' ⟨ha, hI⟩ hb_ hon hoff
      refine ⟨_, rfl, fun K hK => ?_⟩
      have e9 : a.tmps[9]? = some (.bool true) := by rw [ha]; exact putSel_on (e := (4, 9, .bool true)) 4 rfl rfl (hon 4 (by kernel_rfl)) (by rw [hsz]; rfl)
      replace ha := Aside0.mk ha
      refine value_ (w1 := w') (v := .bool true) (by rfl) rfl ?_ ?_
      · go_simp; try rfl
        all_goals (try (simp only [IntKind.wrap_i64]; omega))
      exact hK.out _ _ ⟨(by rw [ha.out]; exact putSel_upk 5 hb_ rfl rfl rfl), hI⟩
    refine steps_cons ?_ ?_
    · rintro b a w' ⟨ha, hI⟩ hb_ hon hoff
      refine ⟨_, rfl, fun K hK => ?_⟩
      have e2 : a.tmps[2]? = some (.pointer (some ⟨w0.heap.size, 0, none⟩)) := by rw [ha]; exact (putSel_off rfl).trans s2
      have e10 : a.tmps[10]? = some (.bool true) := by rw [ha]; exact putSel_on (e := (5, 10, .bool true)) 5 rfl rfl (hon 5 (by kernel_rfl)) (by rw [hsz]; rfl)
      replace ha := Aside0.mk ha
      refine value_ (w1 := w') (v := .pointer (some ⟨w0.heap.size, 1, none⟩)) (wanted_on rfl rfl rfl e10) rfl ?_ ?_
      · go_simp; try rfl
        all_goals (try (simp only [IntKind.wrap_i64]; omega))
      exact hK.out _ _ ⟨(by rw [ha.out]; exact putSel_upk 6 hb_ rfl rfl rfl), hI⟩
    refine steps_cons ?_ ?_
    · rintro b a w' ⟨ha, hI⟩ hb_ hon hoff
      refine ⟨_, rfl, fun K hK => ?_⟩
      have e11 : a.tmps[11]? = some (.pointer (some ⟨w0.heap.size, 1, none⟩)) := by rw [ha]; exact putSel_on (e := (6, 11, .pointer (some ⟨w0.heap.size, 1, none⟩))) 6 rfl rfl (hon 6 (by kernel_rfl)) (by rw [hsz]; rfl)
      have e10 : a.tmps[10]? = some (.bool true) := by rw [ha]; exact putSel_on (e := (5, 10, .bool true)) 5 rfl rfl (hon 5 (by kernel_rfl)) (by rw [hsz]; rfl)
      replace ha := Aside0.mk ha
      have m0 := Own.c hI 1 1 rfl rfl
      refine value_ (w1 := w') (v := .pointer none) (wanted_on rfl rfl rfl e10) rfl ?_ ?_
      · go_simp; try rfl
        all_goals (try (simp only [IntKind.wrap_i64]; omega))
      exact hK.out _ _ ⟨(by rw [ha.out]; exact putSel_upk 7 hb_ rfl rfl rfl), hI⟩
    refine steps_cons ?_ ?_
    · rintro b a w' ⟨ha, hI⟩ hb_ hon hoff
      refine ⟨_, rfl, fun K hK => ?_⟩
      have e12 : a.tmps[12]? = some (.pointer none) := by rw [ha]; exact putSel_on (e := (7, 12, .pointer none)) 7 rfl rfl (hon 7 (by kernel_rfl)) (by rw [hsz]; rfl)
      have e10 : a.tmps[10]? = some (.bool true) := by rw [ha]; exact putSel_on (e := (5, 10, .bool true)) 5 rfl rfl (hon 5 (by kernel_rfl)) (by rw [hsz]; rfl)
      replace ha := Aside0.mk ha
      refine value_ (w1 := w') (v := .bool true) (wanted_on rfl rfl rfl e10) rfl ?_ ?_
      · go_simp; try rfl
        all_goals (try (simp only [IntKind.wrap_i64]; omega))
      exact hK.out _ _ ⟨(by rw [ha.out]; exact putSel_upk 8 hb_ rfl rfl rfl), hI⟩
    refine steps_cons ?_ ?_
    · rintro b a w' ⟨ha, hI⟩ hb_ hon hoff
      refine ⟨_, rfl, fun K hK => ?_⟩
      have e3 : a.tmps[3]? = some (.pointer (some ⟨w0.heap.size + 1, 0, none⟩)) := by rw [ha]; exact (putSel_off rfl).trans s3
      have e10 : a.tmps[10]? = some (.bool true) := by rw [ha]; exact putSel_on (e := (5, 10, .bool true)) 5 rfl rfl (hon 5 (by kernel_rfl)) (by rw [hsz]; rfl)
      replace ha := Aside0.mk ha
      refine value_ (w1 := w') (v := .pointer (some ⟨w0.heap.size + 1, 1, none⟩)) (wanted_on rfl rfl rfl e10) rfl ?_ ?_
      · go_simp; try rfl
        all_goals (try (simp only [IntKind.wrap_i64]; omega))
      exact hK.out _ _ ⟨(by rw [ha.out]; exact putSel_upk 9 hb_ rfl rfl rfl), hI⟩
    refine steps_cons ?_ ?_
    · rintro b a w' ⟨ha, hI⟩ hb_ hon hoff
      refine ⟨_, rfl, fun K hK => ?_⟩
      have e14 : a.tmps[14]? = some (.pointer (some ⟨w0.heap.size + 1, 1, none⟩)) := by rw [ha]; exact putSel_on (e := (9, 14, .pointer (some ⟨w0.heap.size + 1, 1, none⟩))) 9 rfl rfl (hon 9 (by kernel_rfl)) (by rw [hsz]; rfl)
      have e10 : a.tmps[10]? = some (.bool true) := by rw [ha]; exact putSel_on (e := (5, 10, .bool true)) 5 rfl rfl (hon 5 (by kernel_rfl)) (by rw [hsz]; rfl)
      replace ha := Aside0.mk ha
      have m0 := Own.c hI 0 1 rfl rfl
      refine value_ (w1 := w') (v := .pointer none) (wanted_on rfl rfl rfl e10) rfl ?_ ?_
      · go_simp; try rfl
        all_goals (try (simp only [IntKind.wrap_i64]; omega))
      exact hK.out _ _ ⟨(by rw [ha.out]; exact putSel_upk 10 hb_ rfl rfl rfl), hI⟩
    refine steps_cons ?_ ?_
    · rintro b a w' ⟨ha, hI⟩ hb_ hon hoff
      refine ⟨_, rfl, fun K hK => ?_⟩
      have e15 : a.tmps[15]? = some (.pointer none) := by rw [ha]; exact putSel_on (e := (10, 15, .pointer none)) 10 rfl rfl (hon 10 (by kernel_rfl)) (by rw [hsz]; rfl)
      have e10 : a.tmps[10]? = some (.bool true) := by rw [ha]; exact putSel_on (e := (5, 10, .bool true)) 5 rfl rfl (hon 5 (by kernel_rfl)) (by rw [hsz]; rfl)
      replace ha := Aside0.mk ha
      refine value_ (w1 := w') (v := .bool true) (wanted_on rfl rfl rfl e10) rfl ?_ ?_
      · go_simp; try rfl
        all_goals (try (simp only [IntKind.wrap_i64]; omega))
      exact hK.out _ _ ⟨(by rw [ha.out]; exact putSel_upk 11 hb_ rfl rfl rfl), hI⟩
    refine steps_cons ?_ ?_
    · rintro b a w' ⟨ha, hI⟩ hb_ hon hoff
      refine ⟨_, rfl, fun K hK => ?_⟩
      have e13 : a.tmps[13]? = some (.bool true) := by rw [ha]; exact putSel_on (e := (8, 13, .bool true)) 8 rfl rfl (hon 8 (by kernel_rfl)) (by rw [hsz]; rfl)
      have e16 : a.tmps[16]? = some (.bool true) := by rw [ha]; exact putSel_on (e := (11, 16, .bool true)) 11 rfl rfl (hon 11 (by kernel_rfl)) (by rw [hsz]; rfl)
      have e10 : a.tmps[10]? = some (.bool true) := by rw [ha]; exact putSel_on (e := (5, 10, .bool true)) 5 rfl rfl (hon 5 (by kernel_rfl)) (by rw [hsz]; rfl)
      replace ha := Aside0.mk ha
      refine value_ (w1 := w') (v := .bool true) (wanted_on rfl rfl rfl e10) rfl ?_ ?_
      · go_simp; try rfl
        all_goals (try (simp only [IntKind.wrap_i64]; omega))
      exact hK.out _ _ ⟨(by rw [ha.out]; exact putSel_upk 12 hb_ rfl rfl rfl), hI⟩
    refine steps_cons ?_ ?_
    · rintro b a w' ⟨ha, hI⟩ hb_ hon hoff
      refine ⟨_, rfl, fun K hK => ?_⟩
      have e10 : a.tmps[10]? = some (.bool true) := by rw [ha]; exact putSel_on (e := (5, 10, .bool true)) 5 rfl rfl (hon 5 (by kernel_rfl)) (by rw [hsz]; rfl)
      have e17 : a.tmps[17]? = some (.bool true) := by rw [ha]; exact putSel_on (e := (12, 17, .bool true)) 12 rfl rfl (hon 12 (by kernel_rfl)) (by rw [hsz]; rfl)
      replace ha := Aside0.mk ha
      refine value_ (w1 := w') (v := .bool true) (by rfl) rfl ?_ ?_
      · go_simp; try rfl
        all_goals (try (simp only [IntKind.wrap_i64]; omega))
      exact hK.out _ _ ⟨(by rw [ha.out]; exact putSel_upk 13 hb_ rfl rfl rfl), hI⟩
    refine steps_cons ?_ ?_
    · rintro b a w' ⟨ha, hI⟩ hb_ hon hoff
      refine ⟨_, rfl, fun K hK => ?_⟩
      have e18 : a.tmps[18]? = some (.bool true) := by rw [ha]; exact putSel_on (e := (13, 18, .bool true)) 13 rfl rfl (hon 13 (by kernel_rfl)) (by rw [hsz]; rfl)
      replace ha := Aside0.mk ha
      refine value_ (w1 := w') (v := .bool true) (by rfl) rfl ?_ ?_
      · go_simp; try rfl
        all_goals (try (simp only [IntKind.wrap_i64]; omega))
      exact hK.out _ _ ⟨(by rw [ha.out]; exact putSel_upk 14 hb_ rfl rfl rfl), hI⟩
    refine steps_cons ?_ ?_
    · rintro b a w' ⟨ha, hI⟩ hb_ hon hoff
      refine ⟨_, rfl, fun K hK => ?_⟩
      have e2 : a.tmps[2]? = some (.pointer (some ⟨w0.heap.size, 0, none⟩)) := by rw [ha]; exact (putSel_off rfl).trans s2
      have e19 : a.tmps[19]? = some (.bool true) := by rw [ha]; exact putSel_on (e := (14, 19, .bool true)) 14 rfl rfl (hon 14 (by kernel_rfl)) (by rw [hsz]; rfl)
      replace ha := Aside0.mk ha
      refine value_ (w1 := w') (v := .pointer (some ⟨w0.heap.size, 1, none⟩)) (wanted_on rfl rfl rfl e19) rfl ?_ ?_
      · go_simp; try rfl
        all_goals (try (simp only [IntKind.wrap_i64]; omega))
      exact hK.out _ _ ⟨(by rw [ha.out]; exact putSel_upk 15 hb_ rfl rfl rfl), hI⟩
    refine steps_cons ?_ ?_
    · rintro b a w' ⟨ha, hI⟩ hb_ hon hoff
      refine ⟨_, rfl, fun K hK => ?_⟩
      have e20 : a.tmps[20]? = some (.pointer (some ⟨w0.heap.size, 1, none⟩)) := by rw [ha]; exact putSel_on (e := (15, 20, .pointer (some ⟨w0.heap.size, 1, none⟩))) 15 rfl rfl (hon 15 (by kernel_rfl)) (by rw [hsz]; rfl)
      have e19 : a.tmps[19]? = some (.bool true) := by rw [ha]; exact putSel_on (e := (14, 19, .bool true)) 14 rfl rfl (hon 14 (by kernel_rfl)) (by rw [hsz]; rfl)
      replace ha := Aside0.mk ha
      have m0 := Own.c hI 1 1 rfl rfl
      refine value_ (w1 := w') (v := .pointer none) (wanted_on rfl rfl rfl e19) rfl ?_ ?_
      · go_simp; try rfl
        all_goals (try (simp only [IntKind.wrap_i64]; omega))
      exact hK.out _ _ ⟨(by rw [ha.out]; exact putSel_upk 16 hb_ rfl rfl rfl), hI⟩
    refine steps_cons ?_ ?_
    · rintro b a w' ⟨ha, hI⟩ hb_ hon hoff
      refine ⟨_, rfl, fun K hK => ?_⟩
      have e21 : a.tmps[21]? = some (.pointer none) := by rw [ha]; exact putSel_on (e := (16, 21, .pointer none)) 16 rfl rfl (hon 16 (by kernel_rfl)) (by rw [hsz]; rfl)
      have e19 : a.tmps[19]? = some (.bool true) := by rw [ha]; exact putSel_on (e := (14, 19, .bool true)) 14 rfl rfl (hon 14 (by kernel_rfl)) (by rw [hsz]; rfl)
      replace ha := Aside0.mk ha
      refine value_ (w1 := w') (v := .bool true) (wanted_on rfl rfl rfl e19) rfl ?_ ?_
      · go_simp; try rfl
        all_goals (try (simp only [IntKind.wrap_i64]; omega))
      exact hK.out _ _ ⟨(by rw [ha.out]; exact putSel_upk 17 hb_ rfl rfl rfl), hI⟩
    refine steps_cons ?_ ?_
    · rintro b a w' ⟨ha, hI⟩ hb_ hon hoff
      refine ⟨_, rfl, fun K hK => ?_⟩
      have e22 : a.tmps[22]? = some (.bool true) := by rw [ha]; exact putSel_on (e := (17, 22, .bool true)) 17 rfl rfl (hon 17 (by kernel_rfl)) (by rw [hsz]; rfl)
      have e19 : a.tmps[19]? = some (.bool true) := by rw [ha]; exact putSel_on (e := (14, 19, .bool true)) 14 rfl rfl (hon 14 (by kernel_rfl)) (by rw [hsz]; rfl)
      replace ha := Aside0.mk ha
      refine value_ (w1 := w') (v := .bool true) (wanted_on rfl rfl rfl e19) rfl ?_ ?_
      · go_simp; try rfl
        all_goals (try (simp only [IntKind.wrap_i64]; omega))
      exact hK.out _ _ ⟨(by rw [ha.out]; exact putSel_upk 18 hb_ rfl rfl rfl), hI⟩
    refine steps_cons ?_ ?_
    · rintro b a w' ⟨ha, hI⟩ hb_ hon hoff
      refine ⟨_, rfl, fun K hK => ?_⟩
      have e23 : a.tmps[23]? = some (.bool true) := by rw [ha]; exact putSel_on (e := (18, 23, .bool true)) 18 rfl rfl (hon 18 (by kernel_rfl)) (by rw [hsz]; rfl)
      exact off_ (wanted_off rfl rfl rfl e23) (hK.out _ _ ⟨(by rw [ha]; exact putSel_upk 19 hb_ rfl rfl rfl), hI⟩)
    refine steps_cons ?_ ?_
    · rintro b a w' ⟨ha, hI⟩ hb_ hon hoff
      refine ⟨_, rfl, fun K hK => ?_⟩
      have e23 : a.tmps[23]? = some (.bool true) := by rw [ha]; exact putSel_on (e := (18, 23, .bool true)) 18 rfl rfl (hon 18 (by kernel_rfl)) (by rw [hsz]; rfl)
      exact off_ (wanted_off rfl rfl rfl e23) (hK.out _ _ ⟨(by rw [ha]; exact putSel_upk 20 hb_ rfl rfl rfl), hI⟩)
    refine steps_cons ?_ ?_
    · rintro b a w' ⟨ha, hI⟩ hb_ hon hoff
      refine ⟨_, rfl, fun K hK => ?_⟩
      have e23 : a.tmps[23]? = some (.bool true) := by rw [ha]; exact putSel_on (e := (18, 23, .bool true)) 18 rfl rfl (hon 18 (by kernel_rfl)) (by rw [hsz]; rfl)
      exact off_ (wanted_off rfl rfl rfl e23) (hK.out _ _ ⟨(by rw [ha]; exact putSel_upk 21 hb_ rfl rfl rfl), hI⟩)
    refine steps_cons ?_ ?_
    · rintro b a w' ⟨ha, hI⟩ hb_ hon hoff
      refine ⟨_, rfl, fun K hK => ?_⟩
      have e23 : a.tmps[23]? = some (.bool true) := by rw [ha]; exact putSel_on (e := (18, 23, .bool true)) 18 rfl rfl (hon 18 (by kernel_rfl)) (by rw [hsz]; rfl)
      exact off_ (wanted_off rfl rfl rfl e23) (hK.out _ _ ⟨(by rw [ha]; exact putSel_upk 22 hb_ rfl rfl rfl), hI⟩)
    refine steps_cons ?_ ?_
    · rintro b a w' ⟨ha, hI⟩ hb_ hon hoff
      refine ⟨_, rfl, fun K hK => ?_⟩
      have e23 : a.tmps[23]? = some (.bool true) := by rw [ha]; exact putSel_on (e := (18, 23, .bool true)) 18 rfl rfl (hon 18 (by kernel_rfl)) (by rw [hsz]; rfl)
      exact off_ (wanted_off rfl rfl rfl e23) (hK.out _ _ ⟨(by rw [ha]; exact putSel_upk 23 hb_ rfl rfl rfl), hI⟩)
    refine steps_cons ?_ ?_
    · rintro b a w' ⟨ha, hI⟩ hb_ hon hoff
      refine ⟨_, rfl, fun K hK => ?_⟩
      have e23 : a.tmps[23]? = some (.bool true) := by rw [ha]; exact putSel_on (e := (18, 23, .bool true)) 18 rfl rfl (hon 18 (by kernel_rfl)) (by rw [hsz]; rfl)
      exact off_ (wanted_off rfl rfl rfl e23) (hK.out _ _ ⟨(by rw [ha]; exact putSel_upk 24 hb_ rfl rfl rfl), hI⟩)
    refine steps_cons ?_ ?_
    · rintro b a w' ⟨ha, hI⟩ hb_ hon hoff
      refine ⟨_, rfl, fun K hK => ?_⟩
      have e23 : a.tmps[23]? = some (.bool true) := by rw [ha]; exact putSel_on (e := (18, 23, .bool true)) 18 rfl rfl (hon 18 (by kernel_rfl)) (by rw [hsz]; rfl)
      exact off_ (wanted_off rfl rfl rfl e23) (hK.out _ _ ⟨(by rw [ha]; exact putSel_upk 25 hb_ rfl rfl rfl), hI⟩)
    refine steps_cons ?_ ?_
    · rintro b a w' ⟨ha, hI⟩ hb_ hon hoff
      refine ⟨_, rfl, fun K hK => ?_⟩
      have e23 : a.tmps[23]? = some (.bool true) := by rw [ha]; exact putSel_on (e := (18, 23, .bool true)) 18 rfl rfl (hon 18 (by kernel_rfl)) (by rw [hsz]; rfl)
      exact off_ (wanted_off rfl rfl rfl e23) (hK.out _ _ ⟨(by rw [ha]; exact putSel_upk 26 hb_ rfl rfl rfl), hI⟩)
    refine steps_cons ?_ ?_
    · rintro b a w' ⟨ha, hI⟩ hb_ hon hoff
      refine ⟨_, rfl, fun K hK => ?_⟩
      have e23 : a.tmps[23]? = some (.bool true) := by rw [ha]; exact putSel_on (e := (18, 23, .bool true)) 18 rfl rfl (hon 18 (by kernel_rfl)) (by rw [hsz]; rfl)
      exact off_ (wanted_off rfl rfl rfl e23) (hK.out _ _ ⟨(by rw [ha]; exact putSel_upk 27 hb_ rfl rfl rfl), hI⟩)
    refine steps_cons ?_ ?_
    · rintro b a w' ⟨ha, hI⟩ hb_ hon hoff
      refine ⟨_, rfl, fun K hK => ?_⟩
      have e23 : a.tmps[23]? = some (.bool true) := by rw [ha]; exact putSel_on (e := (18, 23, .bool true)) 18 rfl rfl (hon 18 (by kernel_rfl)) (by rw [hsz]; rfl)
      have e32 : a.tmps[32]? = some (undef) := by rw [ha]; exact putSel_on (e := (27, 32, undef)) 27 rfl rfl (hon 27 (by kernel_rfl)) (by rw [hsz]; rfl)
      have e19 : a.tmps[19]? = some (.bool true) := by rw [ha]; exact putSel_on (e := (14, 19, .bool true)) 14 rfl rfl (hon 14 (by kernel_rfl)) (by rw [hsz]; rfl)
      replace ha := Aside0.mk ha
      refine value_ (w1 := w') (v := .bool true) (wanted_on rfl rfl rfl e19) rfl ?_ ?_
      · go_simp; try rfl
        all_goals (try (simp only [IntKind.wrap_i64]; omega))
      exact hK.out _ _ ⟨(by rw [ha.out]; exact putSel_upk 28 hb_ rfl rfl rfl), hI⟩
    refine steps_cons ?_ ?_
    · rintro b a w' ⟨ha, hI⟩ hb_ hon hoff
      refine ⟨_, rfl, fun K hK => ?_⟩
      have e19 : a.tmps[19]? = some (.bool true) := by rw [ha]; exact putSel_on (e := (14, 19, .bool true)) 14 rfl rfl (hon 14 (by kernel_rfl)) (by rw [hsz]; rfl)
      have e33 : a.tmps[33]? = some (.bool true) := by rw [ha]; exact putSel_on (e := (28, 33, .bool true)) 28 rfl rfl (hon 28 (by kernel_rfl)) (by rw [hsz]; rfl)
      replace ha := Aside0.mk ha
      refine value_ (w1 := w') (v := .bool true) (by rfl) rfl ?_ ?_
      · go_simp; try rfl
        all_goals (try (simp only [IntKind.wrap_i64]; omega))
      exact hK.out _ _ ⟨(by rw [ha.out]; exact putSel_upk 29 hb_ rfl rfl rfl), hI⟩
    refine steps_cons ?_ ?_
    · rintro b a w' ⟨ha, hI⟩ hb_ hon hoff
      refine ⟨_, rfl, fun K hK => ?_⟩
      have e34 : a.tmps[34]? = some (.bool true) := by rw [ha]; exact putSel_on (e := (29, 34, .bool true)) 29 rfl rfl (hon 29 (by kernel_rfl)) (by rw [hsz]; rfl)
      replace ha := Aside0.mk ha
      refine value_ (w1 := w') (v := .bool true) (by rfl) rfl ?_ ?_
      · go_simp; try rfl
        all_goals (try (simp only [IntKind.wrap_i64]; omega))
      exact hK.out _ _ ⟨(by rw [ha.out]; exact putSel_upk 30 hb_ rfl rfl rfl), hI⟩
    exact steps_nil
  rintro b a w1 hall ⟨ha, hI1⟩
  exact hend a w1 hI1 (by rw [ha]; simp only [putSel, if_true, hall 0 (by kernel_rfl), hall 1 (by kernel_rfl), hall 2 (by kernel_rfl), hall 3 (by kernel_rfl), hall 4 (by kernel_rfl), hall 5 (by kernel_rfl), hall 6 (by kernel_rfl), hall 7 (by kernel_rfl), hall 8 (by kernel_rfl), hall 9 (by kernel_rfl), hall 10 (by kernel_rfl), hall 11 (by kernel_rfl), hall 12 (by kernel_rfl), hall 13 (by kernel_rfl), hall 14 (by kernel_rfl), hall 15 (by kernel_rfl), hall 16 (by kernel_rfl), hall 17 (by kernel_rfl), hall 18 (by kernel_rfl), hall 19 (by kernel_rfl), hall 20 (by kernel_rfl), hall 21 (by kernel_rfl), hall 22 (by kernel_rfl), hall 23 (by kernel_rfl), hall 24 (by kernel_rfl), hall 25 (by kernel_rfl), hall 26 (by kernel_rfl), hall 27 (by kernel_rfl), hall 28 (by kernel_rfl), hall 29 (by kernel_rfl), hall 30 (by kernel_rfl)]) (by rw [ha]; exact (putSel_size b _ a0).2) (by rw [ha]; exact putSel_on (e := (30, 4, .bool true)) 30 rfl rfl (hall 30 (by kernel_rfl)) (by rw [hsz]; rfl))
end Go.Proofs.YtipmphgkdomebaaDoor
namespace Go.Proofs.YtipmphgkdomebaaDoor
open Go.RowKit Go.Proofs.YtipmphgkdomebaaDoorW.PrintWords Go.Proofs.YtipmphgkdomebaaDoorW.PrintLast
set_option linter.unusedVariables false
set_option linter.unusedSimpArgs false
def as80d.T : Bool × List (List Nat × List Nat) := (true, [([], []), ([0], [0]), ([], []), ([2], [2]), ([1, 3], [1, 3]), ([4], [4]), ([5], [5]), ([6, 5], [5, 6]), ([7, 5], [5, 7]), ([5], [5]), ([9, 5], [5, 9]), ([10, 5], [5, 10]), ([8, 11, 5], [5, 8, 11]), ([5, 12], [5, 12]), ([13, 5], [13]), ([14], [14]), ([15, 14], [14, 15]), ([16, 14], [14, 16]), ([17, 14, 14], [14, 17]), ([18], [18]), ([19, 18], [18, 19]), ([20, 18], [18, 20]), ([21, 18], [18, 21]), ([18], [18]), ([23, 18], [18, 23]), ([24, 18], [18, 24]), ([25, 18], [18, 25]), ([22, 26, 18, 18], [18, 22, 26]), ([18, 27, 14], [14, 18, 27]), ([14, 28], [14, 28]), ([29, 27, 0, 1, 2, 3, 4, 5, 6, 7, 8, 9, 10, 11, 12, 13, 14, 15, 16, 17, 18, 19, 20, 21, 22, 23, 24, 25, 26, 27, 28, 29], [29])])
def as80d.B : List Nat := [0, 1, 0, 4, 15, 31, 63, 127, 255, 63, 575, 1599, 4095, 8191, 16383, 32767, 65535, 131071, 262143, 524287, 1048575, 2097151, 4194303, 524287, 8912895, 25690111, 59244543, 134217727, 268435455, 536870911, 1073741823]
theorem as80d.tab : rtab .any (opsOf Tryd.f80 1) = as80d.T := by kernel_rfl
theorem as80d.bits : waitsOk as80d.T.2 as80d.B = true := by kernel_rfl
set_option maxRecDepth 100000 in
set_option maxHeartbeats 4000000 in
theorem as80d (w0 : World) (t1 t2 : ByteArray) (hq : (t1.toList == t2.toList) = true) (b1 o1 b2 o2 : Nat) (x1 x2 : EX) (r1 r2 : Tri) (E1 : ExAt w0 ⟨b1, o1, none⟩ x1 r1) (E2 : ExAt w0 ⟨b2, o2, none⟩ x2 r2) (s : Bool) (cS : ∀ W, Below w0.heap.size w0 W → Calls Tryd.prog 81 #[.agg #[.int .i64 x1.kind, .string x1.text, .string x1.name, .string x1.attr, .slice r1.A x1.na r1.ca, .pointer r1.P, .slice r1.V x1.nv r1.cv], .agg #[.int .i64 x2.kind, .string x2.text, .string x2.name, .string x2.attr, .slice r2.A x2.na r2.ca, .pointer r2.P, .slice r2.V x2.nv r2.cv]] W fun e w' => e = .returned (.bool s) ∧ Below W.heap.size W w') (a0 : Act) (s2 : a0.tmps[2]? = some (.pointer (some ⟨w0.heap.size, 0, none⟩))) (s3 : a0.tmps[3]? = some (.pointer (some ⟨w0.heap.size + 1, 0, none⟩))) (hsz : a0.tmps.size = Tryd.f80.ntmps) (W : World) (hI : ElI w0 t1 (some ⟨b1, o1, none⟩) t2 (some ⟨b2, o2, none⟩) W.drew) (Q : Exit → Act → World → Prop) (hend : ∀ (a9 : Act) w', ElI w0 t1 (some ⟨b1, o1, none⟩) t2 (some ⟨b2, o2, none⟩) w' → a9 = putSel a0 (fun _ => true) [(0, 5, .pointer (some ⟨w0.heap.size, 0, none⟩)), (1, 6, .string t1), (2, 7, .pointer (some ⟨w0.heap.size + 1, 0, none⟩)), (3, 8, .string t2), (4, 9, .bool true), (5, 10, .bool true), (6, 11, .pointer (some ⟨w0.heap.size, 1, none⟩)), (7, 12, .pointer (some ⟨b1, o1, none⟩)), (8, 13, .bool false), (9, 14, .pointer (some ⟨w0.heap.size + 1, 1, none⟩)), (10, 15, .pointer (some ⟨b2, o2, none⟩)), (11, 16, .bool false), (12, 17, .bool true), (13, 18, .bool true), (14, 19, .bool true), (15, 20, .pointer (some ⟨w0.heap.size, 1, none⟩)), (16, 21, .pointer (some ⟨b1, o1, none⟩)), (17, 22, .bool false), (18, 23, .bool false), (19, 24, .pointer (some ⟨w0.heap.size, 1, none⟩)), (20, 25, .pointer (some ⟨b1, o1, none⟩)), (21, 26, .pointer (some ⟨b1, o1, none⟩)), (22, 27, .agg #[.int .i64 x1.kind, .string x1.text, .string x1.name, .string x1.attr, .slice r1.A x1.na r1.ca, .pointer r1.P, .slice r1.V x1.nv r1.cv]), (23, 28, .pointer (some ⟨w0.heap.size + 1, 1, none⟩)), (24, 29, .pointer (some ⟨b2, o2, none⟩)), (25, 30, .pointer (some ⟨b2, o2, none⟩)), (26, 31, .agg #[.int .i64 x2.kind, .string x2.text, .string x2.name, .string x2.attr, .slice r2.A x2.na r2.ca, .pointer r2.P, .slice r2.V x2.nv r2.cv]), (27, 32, .bool s), (28, 33, .bool s), (29, 34, .bool s), (30, 4, .bool s)] → a9.defers = a0.defers → a9.tmps[4]? = some (.bool s) → Q .normal a9 w') :
    (Code.region 1 #[{ dst := some 5, op := Op.fieldAddr 42 (Operand.tmp 2) 0, type := 0, pos := "ast.go:88", after := #[], guard := none }, { dst := some 6, op := Op.load 9 (Operand.tmp 5), type := 9, pos := "ast.go:88", after := #[{ on := 0, ground := Ground.data }], guard := none }, { dst := some 7, op := Op.fieldAddr 42 (Operand.tmp 3) 0, type := 0, pos := "ast.go:88", after := #[], guard := none }, { dst := some 8, op := Op.load 9 (Operand.tmp 7), type := 9, pos := "ast.go:88", after := #[{ on := 2, ground := Ground.data }], guard := none }, { dst := some 9, op := Op.binOp BinOp.eql 9 (Operand.tmp 6) (Operand.tmp 8) 9, type := 4, pos := "ast.go:88", after := #[{ on := 1, ground := Ground.data }, { on := 3, ground := Ground.data }], guard := none }, { dst := some 10, op := Op.move (Operand.tmp 9), type := 4, pos := "ast.go:88", after := #[{ on := 4, ground := Ground.data }], guard := none }, { dst := some 11, op := Op.fieldAddr 42 (Operand.tmp 2) 1, type := 0, pos := "ast.go:88", after := #[{ on := 5, ground := Ground.guard }], guard := some (5, true) }, { dst := some 12, op := Op.load 37 (Operand.tmp 11), type := 37, pos := "ast.go:88", after := #[{ on := 6, ground := Ground.data }, { on := 5, ground := Ground.guard }], guard := some (5, true) }, { dst := some 13, op := Op.binOp BinOp.eql 37 (Operand.tmp 12) (Operand.const (Value.pointer none)) 37, type := 4, pos := "ast.go:88", after := #[{ on := 7, ground := Ground.data }, { on := 5, ground := Ground.guard }], guard := some (5, true) }, { dst := some 14, op := Op.fieldAddr 42 (Operand.tmp 3) 1, type := 0, pos := "ast.go:88", after := #[{ on := 5, ground := Ground.guard }], guard := some (5, true) }, { dst := some 15, op := Op.load 37 (Operand.tmp 14), type := 37, pos := "ast.go:88", after := #[{ on := 9, ground := Ground.data }, { on := 5, ground := Ground.guard }], guard := some (5, true) }, { dst := some 16, op := Op.binOp BinOp.eql 37 (Operand.tmp 15) (Operand.const (Value.pointer none)) 37, type := 4, pos := "ast.go:88", after := #[{ on := 10, ground := Ground.data }, { on := 5, ground := Ground.guard }], guard := some (5, true) }, { dst := some 17, op := Op.binOp BinOp.eql 4 (Operand.tmp 13) (Operand.tmp 16) 4, type := 4, pos := "ast.go:88", after := #[{ on := 8, ground := Ground.data }, { on := 11, ground := Ground.data }, { on := 5, ground := Ground.guard }], guard := some (5, true) }, { dst := some 18, op := Op.pick (Operand.tmp 10) (Operand.tmp 17) (Operand.const (Value.bool false)), type := 4, pos := "ast.go:88", after := #[{ on := 5, ground := Ground.data }, { on := 12, ground := Ground.data }], guard := none }, { dst := some 19, op := Op.move (Operand.tmp 18), type := 4, pos := "ast.go:88", after := #[{ on := 13, ground := Ground.data }, { on := 5, ground := Ground.chain }], guard := none }, { dst := some 20, op := Op.fieldAddr 42 (Operand.tmp 2) 1, type := 0, pos := "ast.go:88", after := #[{ on := 14, ground := Ground.guard }], guard := some (14, true) }, { dst := some 21, op := Op.load 37 (Operand.tmp 20), type := 37, pos := "ast.go:88", after := #[{ on := 15, ground := Ground.data }, { on := 14, ground := Ground.guard }], guard := some (14, true) }, { dst := some 22, op := Op.binOp BinOp.eql 37 (Operand.tmp 21) (Operand.const (Value.pointer none)) 37, type := 4, pos := "ast.go:88", after := #[{ on := 16, ground := Ground.data }, { on := 14, ground := Ground.guard }], guard := some (14, true) }, { dst := some 23, op := Op.move (Operand.tmp 22), type := 4, pos := "ast.go:88", after := #[{ on := 17, ground := Ground.data }, { on := 14, ground := Ground.chain }, { on := 14, ground := Ground.guard }], guard := some (14, true) }, { dst := some 24, op := Op.fieldAddr 42 (Operand.tmp 2) 1, type := 0, pos := "ast.go:88", after := #[{ on := 18, ground := Ground.guard }], guard := some (18, false) }, { dst := some 25, op := Op.load 37 (Operand.tmp 24), type := 37, pos := "ast.go:88", after := #[{ on := 19, ground := Ground.data }, { on := 18, ground := Ground.guard }], guard := some (18, false) }, { dst := some 26, op := Op.nilCheck (Operand.tmp 25), type := 0, pos := "ast.go:88", after := #[{ on := 20, ground := Ground.data }, { on := 18, ground := Ground.guard }], guard := some (18, false) }, { dst := some 27, op := Op.load 40 (Operand.tmp 26), type := 40, pos := "ast.go:88", after := #[{ on := 21, ground := Ground.data }, { on := 18, ground := Ground.guard }], guard := some (18, false) }, { dst := some 28, op := Op.fieldAddr 42 (Operand.tmp 3) 1, type := 0, pos := "ast.go:88", after := #[{ on := 18, ground := Ground.guard }], guard := some (18, false) }, { dst := some 29, op := Op.load 37 (Operand.tmp 28), type := 37, pos := "ast.go:88", after := #[{ on := 23, ground := Ground.data }, { on := 18, ground := Ground.guard }], guard := some (18, false) }, { dst := some 30, op := Op.nilCheck (Operand.tmp 29), type := 0, pos := "ast.go:88", after := #[{ on := 24, ground := Ground.data }, { on := 18, ground := Ground.guard }], guard := some (18, false) }, { dst := some 31, op := Op.load 40 (Operand.tmp 30), type := 40, pos := "ast.go:88", after := #[{ on := 25, ground := Ground.data }, { on := 18, ground := Ground.guard }], guard := some (18, false) }, { dst := some 32, op := Op.call { callee := Callee.value (Operand.func 81), args := #[Operand.tmp 27, Operand.tmp 31], argTypes := #[37, 40] }, type := 4, pos := "ast.go:88", after := #[{ on := 22, ground := Ground.data }, { on := 26, ground := Ground.data }, { on := 18, ground := Ground.chain }, { on := 18, ground := Ground.guard }], guard := some (18, false) }, { dst := some 33, op := Op.pick (Operand.tmp 23) (Operand.const (Value.bool true)) (Operand.tmp 32), type := 4, pos := "ast.go:88", after := #[{ on := 18, ground := Ground.data }, { on := 27, ground := Ground.data }, { on := 14, ground := Ground.guard }], guard := some (14, true) }, { dst := some 34, op := Op.pick (Operand.tmp 19) (Operand.tmp 33) (Operand.const (Value.bool false)), type := 4, pos := "ast.go:88", after := #[{ on := 14, ground := Ground.data }, { on := 28, ground := Ground.data }], guard := none }, { dst := some 4, op := Op.assign (Operand.tmp 34), type := 4, pos := "ast.go:88", after := #[{ on := 29, ground := Ground.data }, { on := 27, ground := Ground.chain }, { on := 0, ground := Ground.phase }, { on := 1, ground := Ground.phase }, { on := 2, ground := Ground.phase }, { on := 3, ground := Ground.phase }, { on := 4, ground := Ground.phase }, { on := 5, ground := Ground.phase }, { on := 6, ground := Ground.phase }, { on := 7, ground := Ground.phase }, { on := 8, ground := Ground.phase }, { on := 9, ground := Ground.phase }, { on := 10, ground := Ground.phase }, { on := 11, ground := Ground.phase }, { on := 12, ground := Ground.phase }, { on := 13, ground := Ground.phase }, { on := 14, ground := Ground.phase }, { on := 15, ground := Ground.phase }, { on := 16, ground := Ground.phase }, { on := 17, ground := Ground.phase }, { on := 18, ground := Ground.phase }, { on := 19, ground := Ground.phase }, { on := 20, ground := Ground.phase }, { on := 21, ground := Ground.phase }, { on := 22, ground := Ground.phase }, { on := 23, ground := Ground.phase }, { on := 24, ground := Ground.phase }, { on := 25, ground := Ground.phase }, { on := 26, ground := Ground.phase }, { on := 27, ground := Ground.phase }, { on := 28, ground := Ground.phase }, { on := 29, ground := Ground.phase }], guard := none }] true).wp Tryd.prog Q a0 W := by
  refine start_ (n := 31) (S := fun w' => True) (ds := []) #[false, false, false, false, false, false, false, false, false, false, false, false, false, false, false, false, false, false, false, false, false, false, false, false, false, false, false, false, false, false, false] (by kernel_rfl) rfl rfl trivial (fun hHeld => ?_)
  refine with_tabW as80d.tab as80d.bits (fun HT_ HW_ => ?_)
  refine inv_at [0, 1, 2, 3, 4, 5, 6, 7, 8, 9, 10, 11, 12, 13, 14, 15, 16, 17, 18, 19, 20, 21, 22, 23, 24, 25, 26, 27, 28, 29, 30] (fun a0_ b a w' => a = putSel a0_ b [(0, 5, .pointer (some ⟨w0.heap.size, 0, none⟩)), (1, 6, .string t1), (2, 7, .pointer (some ⟨w0.heap.size + 1, 0, none⟩)), (3, 8, .string t2), (4, 9, .bool true), (5, 10, .bool true), (6, 11, .pointer (some ⟨w0.heap.size, 1, none⟩)), (7, 12, .pointer (some ⟨b1, o1, none⟩)), (8, 13, .bool false), (9, 14, .pointer (some ⟨w0.heap.size + 1, 1, none⟩)), (10, 15, .pointer (some ⟨b2, o2, none⟩)), (11, 16, .bool false), (12, 17, .bool true), (13, 18, .bool true), (14, 19, .bool true), (15, 20, .pointer (some ⟨w0.heap.size, 1, none⟩)), (16, 21, .pointer (some ⟨b1, o1, none⟩)), (17, 22, .bool false), (18, 23, .bool false), (19, 24, .pointer (some ⟨w0.heap.size, 1, none⟩)), (20, 25, .pointer (some ⟨b1, o1, none⟩)), (21, 26, .pointer (some ⟨b1, o1, none⟩)), (22, 27, .agg #[.int .i64 x1.kind, .string x1.text, .string x1.name, .string x1.attr, .slice r1.A x1.na r1.ca, .pointer r1.P, .slice r1.V x1.nv r1.cv]), (23, 28, .pointer (some ⟨w0.heap.size + 1, 1, none⟩)), (24, 29, .pointer (some ⟨b2, o2, none⟩)), (25, 30, .pointer (some ⟨b2, o2, none⟩)), (26, 31, .agg #[.int .i64 x2.kind, .string x2.text, .string x2.name, .string x2.attr, .slice r2.A x2.na r2.ca, .pointer r2.P, .slice r2.V x2.nv r2.cv]), (27, 32, .bool s), (28, 33, .bool s), (29, 34, .bool s), (30, 4, .bool s)] ∧ (ElI w0 t1 (some ⟨b1, o1, none⟩) t2 (some ⟨b2, o2, none⟩) w')) HT_.out HW_.out (by kernel_rfl) (by kernel_rfl) ?_ ?_ ?_
  · exact ⟨(by simp only [putSel, Bool.false_eq_true, if_false]), hI⟩
  · clear hI hend hHeld
    refine steps_cons ?_ ?_
    · rintro b a w' ⟨ha, hI⟩ hb_ hon hoff
      refine ⟨_, rfl, fun K hK => ?_⟩
      have e2 : a.tmps[2]? = some (.pointer (some ⟨w0.heap.size, 0, none⟩)) := by rw [ha]; exact (putSel_off rfl).trans s2
      replace ha := Aside0.mk ha
      refine value_ (w1 := w') (v := .pointer (some ⟨w0.heap.size, 0, none⟩)) (by rfl) rfl ?_ ?_
      · go_simp; try rfl
        all_goals (try (simp only [IntKind.wrap_i64]; omega))
      exact hK.out _ _ ⟨(by rw [ha.out]; exact putSel_upk 0 hb_ rfl rfl rfl), hI⟩
    refine steps_cons ?_ ?_
    · rintro b a w' ⟨ha, hI⟩ hb_ hon hoff
      refine ⟨_, rfl, fun K hK => ?_⟩
      have e5 : a.tmps[5]? = some (.pointer (some ⟨w0.heap.size, 0, none⟩)) := by rw [ha]; exact putSel_on (e := (0, 5, .pointer (some ⟨w0.heap.size, 0, none⟩))) 0 rfl rfl (hon 0 (by kernel_rfl)) (by rw [hsz]; rfl)
      replace ha := Aside0.mk ha
      have m0 := Own.c hI 1 0 rfl rfl
      refine value_ (w1 := w') (v := .string t1) (by rfl) rfl ?_ ?_
      · go_simp; try rfl
        all_goals (try (simp only [IntKind.wrap_i64]; omega))
      exact hK.out _ _ ⟨(by rw [ha.out]; exact putSel_upk 1 hb_ rfl rfl rfl), hI⟩
    refine steps_cons ?_ ?_
    · rintro b a w' ⟨ha, hI⟩ hb_ hon hoff
      refine ⟨_, rfl, fun K hK => ?_⟩
      have e3 : a.tmps[3]? = some (.pointer (some ⟨w0.heap.size + 1, 0, none⟩)) := by rw [ha]; exact (putSel_off rfl).trans s3
      replace ha := Aside0.mk ha
      refine value_ (w1 := w') (v := .pointer (some ⟨w0.heap.size + 1, 0, none⟩)) (by rfl) rfl ?_ ?_
      · go_simp; try rfl
        all_goals (try (simp only [IntKind.wrap_i64]; omega))
      exact hK.out _ _ ⟨(by rw [ha.out]; exact putSel_upk 2 hb_ rfl rfl rfl), hI⟩
    refine steps_cons ?_ ?_
    · rintro b a w' ⟨ha, hI⟩ hb_ hon hoff
      refine ⟨_, rfl, fun K hK => ?_⟩
      have e7 : a.tmps[7]? = some (.pointer (some ⟨w0.heap.size + 1, 0, none⟩)) := by rw [ha]; exact putSel_on (e := (2, 7, .pointer (some ⟨w0.heap.size + 1, 0, none⟩))) 2 rfl rfl (hon 2 (by kernel_rfl)) (by rw [hsz]; rfl)
      replace ha := Aside0.mk ha
      have m0 := Own.c hI 0 0 rfl rfl
      refine value_ (w1 := w') (v := .string t2) (by rfl) rfl ?_ ?_
      · go_simp; try rfl
        all_goals (try (simp only [IntKind.wrap_i64]; omega))
      exact hK.out _ _ ⟨(by rw [ha.out]; exact putSel_upk 3 hb_ rfl rfl rfl), hI⟩
    refine steps_cons ?_ ?_
    · rintro b a w' ⟨ha, hI⟩ hb_ hon hoff
      refine ⟨_, rfl, fun K hK => ?_⟩
      have e6 : a.tmps[6]? = some (.string t1) := by rw [ha]; exact putSel_on (e := (1, 6, .string t1)) 1 rfl rfl (hon 1 (by kernel_rfl)) (by rw [hsz]; rfl)
      have e8 : a.tmps[8]? = some (.string t2) := by rw [ha]; exact putSel_on (e := (3, 8, .string t2)) 3 rfl rfl (hon 3 (by kernel_rfl)) (by rw [hsz]; rfl)
      replace ha := Aside0.mk ha
      refine value_ (w1 := w') (v := .bool true) (by rfl) rfl ?_ ?_
      · go_simp; try rfl
        all_goals (try (simp only [IntKind.wrap_i64]; omega))
      exact hK.out _ _ ⟨(by rw [ha.out]; exact putSel_upk 4 hb_ rfl rfl rfl), hI⟩
    refine steps_cons ?_ ?_
    · rintro b a w' ⟨ha, hI⟩ hb_ hon hoff
      refine ⟨_, rfl, fun K hK => ?_⟩
      have e9 : a.tmps[9]? = some (.bool true) := by rw [ha]; exact putSel_on (e := (4, 9, .bool true)) 4 rfl rfl (hon 4 (by kernel_rfl)) (by rw [hsz]; rfl)
      replace ha := Aside0.mk ha
      refine value_ (w1 := w') (v := .bool true) (by rfl) rfl ?_ ?_
      · go_simp; try rfl
        all_goals (try (simp only [IntKind.wrap_i64]; omega))
      exact hK.out _ _ ⟨(by rw [ha.out]; exact putSel_upk 5 hb_ rfl rfl rfl), hI⟩
    refine steps_cons ?_ ?_
    · rintro b a w' ⟨ha, hI⟩ hb_ hon hoff
      refine ⟨_, rfl, fun K hK => ?_⟩
      have e2 : a.tmps[2]? = some (.pointer (some ⟨w0.heap.size, 0, none⟩)) := by rw [ha]; exact (putSel_off rfl).trans s2
      have e10 : a.tmps[10]? = some (.bool true) := by rw [ha]; exact putSel_on (e := (5, 10, .bool true)) 5 rfl rfl (hon 5 (by kernel_rfl)) (by rw [hsz]; rfl)
      replace ha := Aside0.mk ha
      refine value_ (w1 := w') (v := .pointer (some ⟨w0.heap.size, 1, none⟩)) (wanted_on rfl rfl rfl e10) rfl ?_ ?_
      · go_simp; try rfl
        all_goals (try (simp only [IntKind.wrap_i64]; omega))
      exact hK.out _ _ ⟨(by rw [ha.out]; exact putSel_upk 6 hb_ rfl rfl rfl), hI⟩
    refine steps_cons ?_ ?_
    · rintro b a w' ⟨ha, hI⟩ hb_ hon hoff
      refine ⟨_, rfl, fun K hK => ?_⟩
      have e11 : a.tmps[11]? = some (.pointer (some ⟨w0.heap.size, 1, none⟩)) := by rw [ha]; exact putSel_on (e := (6, 11, .pointer (some ⟨w0.heap.size, 1, none⟩))) 6 rfl rfl (hon 6 (by kernel_rfl)) (by rw [hsz]; rfl)
      have e10 : a.tmps[10]? = some (.bool true) := by rw [ha]; exact putSel_on (e := (5, 10, .bool true)) 5 rfl rfl (hon 5 (by kernel_rfl)) (by rw [hsz]; rfl)
      replace ha := Aside0.mk ha
      have m0 := Own.c hI 1 1 rfl rfl
      refine value_ (w1 := w') (v := .pointer (some ⟨b1, o1, none⟩)) (wanted_on rfl rfl rfl e10) rfl ?_ ?_
      · go_simp; try rfl
        all_goals (try (simp only [IntKind.wrap_i64]; omega))
      exact hK.out _ _ ⟨(by rw [ha.out]; exact putSel_upk 7 hb_ rfl rfl rfl), hI⟩
    refine steps_cons ?_ ?_
    · rintro b a w' ⟨ha, hI⟩ hb_ hon hoff
      refine ⟨_, rfl, fun K hK => ?_⟩
      have e12 : a.tmps[12]? = some (.pointer (some ⟨b1, o1, none⟩)) := by rw [ha]; exact putSel_on (e := (7, 12, .pointer (some ⟨b1, o1, none⟩))) 7 rfl rfl (hon 7 (by kernel_rfl)) (by rw [hsz]; rfl)
      have e10 : a.tmps[10]? = some (.bool true) := by rw [ha]; exact putSel_on (e := (5, 10, .bool true)) 5 rfl rfl (hon 5 (by kernel_rfl)) (by rw [hsz]; rfl)
      replace ha := Aside0.mk ha
      refine value_ (w1 := w') (v := .bool false) (wanted_on rfl rfl rfl e10) rfl ?_ ?_
      · go_simp; try rfl
        all_goals (try (simp only [IntKind.wrap_i64]; omega))
      exact hK.out _ _ ⟨(by rw [ha.out]; exact putSel_upk 8 hb_ rfl rfl rfl), hI⟩
    refine steps_cons ?_ ?_
    · rintro b a w' ⟨ha, hI⟩ hb_ hon hoff
      refine ⟨_, rfl, fun K hK => ?_⟩
      have e3 : a.tmps[3]? = some (.pointer (some ⟨w0.heap.size + 1, 0, none⟩)) := by rw [ha]; exact (putSel_off rfl).trans s3
      have e10 : a.tmps[10]? = some (.bool true) := by rw [ha]; exact putSel_on (e := (5, 10, .bool true)) 5 rfl rfl (hon 5 (by kernel_rfl)) (by rw [hsz]; rfl)
      replace ha := Aside0.mk ha
      refine value_ (w1 := w') (v := .pointer (some ⟨w0.heap.size + 1, 1, none⟩)) (wanted_on rfl rfl rfl e10) rfl ?_ ?_
      · go_simp; try rfl
        all_goals (try (simp only [IntKind.wrap_i64]; omega))
      exact hK.out _ _ ⟨(by rw [ha.out]; exact putSel_upk 9 hb_ rfl rfl rfl), hI⟩
    refine steps_cons ?_ ?_
    · rintro b a w' ⟨ha, hI⟩ hb_ hon hoff
      refine ⟨_, rfl, fun K hK => ?_⟩
      have e14 : a.tmps[14]? = some (.pointer (some ⟨w0.heap.size + 1, 1, none⟩)) := by rw [ha]; exact putSel_on (e := (9, 14, .pointer (some ⟨w0.heap.size + 1, 1, none⟩))) 9 rfl rfl (hon 9 (by kernel_rfl)) (by rw [hsz]; rfl)
      have e10 : a.tmps[10]? = some (.bool true) := by rw [ha]; exact putSel_on (e := (5, 10, .bool true)) 5 rfl rfl (hon 5 (by kernel_rfl)) (by rw [hsz]; rfl)
      replace ha := Aside0.mk ha
      have m0 := Own.c hI 0 1 rfl rfl
      refine value_ (w1 := w') (v := .pointer (some ⟨b2, o2, none⟩)) (wanted_on rfl rfl rfl e10) rfl ?_ ?_
      · go_simp; try rfl
        all_goals (try (simp only [IntKind.wrap_i64]; omega))
      exact hK.out _ _ ⟨(by rw [ha.out]; exact putSel_upk 10 hb_ rfl rfl rfl), hI⟩
    refine steps_cons ?_ ?_
    · rintro b a w' ⟨ha, hI⟩ hb_ hon hoff
      refine ⟨_, rfl, fun K hK => ?_⟩
      have e15 : a.tmps[15]? = some (.pointer (some ⟨b2, o2, none⟩)) := by rw [ha]; exact putSel_on (e := (10, 15, .pointer (some ⟨b2, o2, none⟩))) 10 rfl rfl (hon 10 (by kernel_rfl)) (by rw [hsz]; rfl)
      have e10 : a.tmps[10]? = some (.bool true) := by rw [ha]; exact putSel_on (e := (5, 10, .bool true)) 5 rfl rfl (hon 5 (by kernel_rfl)) (by rw [hsz]; rfl)
      replace ha := Aside0.mk ha
      refine value_ (w1 := w') (v := .bool false) (wanted_on rfl rfl rfl e10) rfl ?_ ?_
      · go_simp; try rfl
        all_goals (try (simp only [IntKind.wrap_i64]; omega))
      exact hK.out _ _ ⟨(by rw [ha.out]; exact putSel_upk 11 hb_ rfl rfl rfl), hI⟩
    refine steps_cons ?_ ?_
    · rintro b a w' ⟨ha, hI⟩ hb_ hon hoff
      refine ⟨_, rfl, fun K hK => ?_⟩
      have e13 : a.tmps[13]? = some (.bool false) := by rw [ha]; exact putSel_on (e := (8, 13, .bool false)) 8 rfl rfl (hon 8 (by kernel_rfl)) (by rw [hsz]; rfl)
      have e16 : a.tmps[16]? = some (.bool false) := by rw [ha]; exact putSel_on (e := (11, 16, .bool false)) 11 rfl rfl (hon 11 (by kernel_rfl)) (by rw [hsz]; rfl)
      have e10 : a.tmps[10]? = some (.bool true) := by rw [ha]; exact putSel_on (e := (5, 10, .bool true)) 5 rfl rfl (hon 5 (by kernel_rfl)) (by rw [hsz]; rfl)
      replace ha := Aside0.mk ha
      refine value_ (w1 := w') (v := .bool true) (wanted_on rfl rfl rfl e10) rfl ?_ ?_
      · go_simp; try rfl
        all_goals (try (simp only [IntKind.wrap_i64]; omega))
      exact hK.out _ _ ⟨(by rw [ha.out]; exact putSel_upk 12 hb_ rfl rfl rfl), hI⟩
    refine steps_cons ?_ ?_
    · rintro b a w' ⟨ha, hI⟩ hb_ hon hoff
      refine ⟨_, rfl, fun K hK => ?_⟩
      have e10 : a.tmps[10]? = some (.bool true) := by rw [ha]; exact putSel_on (e := (5, 10, .bool true)) 5 rfl rfl (hon 5 (by kernel_rfl)) (by rw [hsz]; rfl)
      have e17 : a.tmps[17]? = some (.bool true) := by rw [ha]; exact putSel_on (e := (12, 17, .bool true)) 12 rfl rfl (hon 12 (by kernel_rfl)) (by rw [hsz]; rfl)
      replace ha := Aside0.mk ha
      refine value_ (w1 := w') (v := .bool true) (by rfl) rfl ?_ ?_
      · go_simp; try rfl
        all_goals (try (simp only [IntKind.wrap_i64]; omega))
      exact hK.out _ _ ⟨(by rw [ha.out]; exact putSel_upk 13 hb_ rfl rfl rfl), hI⟩
    refine steps_cons ?_ ?_
    · rintro b a w' ⟨ha, hI⟩ hb_ hon hoff
      refine ⟨_, rfl, fun K hK => ?_⟩
      have e18 : a.tmps[18]? = some (.bool true) := by rw [ha]; exact putSel_on (e := (13, 18, .bool true)) 13 rfl rfl (hon 13 (by kernel_rfl)) (by rw [hsz]; rfl)
      replace ha := Aside0.mk ha
      refine value_ (w1 := w') (v := .bool true) (by rfl) rfl ?_ ?_
      · go_simp; try rfl
        all_goals (try (simp only [IntKind.wrap_i64]; omega))
      exact hK.out _ _ ⟨(by rw [ha.out]; exact putSel_upk 14 hb_ rfl rfl rfl), hI⟩
    refine steps_cons ?_ ?_
    · rintro b a w' ⟨ha, hI⟩ hb_ hon hoff
      refine ⟨_, rfl, fun K hK => ?_⟩
      have e2 : a.tmps[2]? = some (.pointer (some ⟨w0.heap.size, 0, none⟩)) := by rw [ha]; exact (putSel_off rfl).trans s2
      have e19 : a.tmps[19]? = some (.bool true) := by rw [ha]; exact putSel_on (e := (14, 19, .bool true)) 14 rfl rfl (hon 14 (by kernel_rfl)) (by rw [hsz]; rfl)
      replace ha := Aside0.mk ha
      refine value_ (w1 := w') (v := .pointer (some ⟨w0.heap.size, 1, none⟩)) (wanted_on rfl rfl rfl e19) rfl ?_ ?_
      · go_simp; try rfl
        all_goals (try (simp only [IntKind.wrap_i64]; omega))
      exact hK.out _ _ ⟨(by rw [ha.out]; exact putSel_upk 15 hb_ rfl rfl rfl), hI⟩
    refine steps_cons ?_ ?_
    · rintro b a w' ⟨ha, hI⟩ hb_ hon hoff
      refine ⟨_, rfl, fun K hK => ?_⟩
      have e20 : a.tmps[20]? = some (.pointer (some ⟨w0.heap.size, 1, none⟩)) := by rw [ha]; exact putSel_on (e := (15, 20, .pointer (some ⟨w0.heap.size, 1, none⟩))) 15 rfl rfl (hon 15 (by kernel_rfl)) (by rw [hsz]; rfl)
      have e19 : a.tmps[19]? = some (.bool true) := by rw [ha]; exact putSel_on (e := (14, 19, .bool true)) 14 rfl rfl (hon 14 (by kernel_rfl)) (by rw [hsz]; rfl)
      replace ha := Aside0.mk ha
      have m0 := Own.c hI 1 1 rfl rfl
      refine value_ (w1 := w') (v := .pointer (some ⟨b1, o1, none⟩)) (wanted_on rfl rfl rfl e19) rfl ?_ ?_
      · go_simp; try rfl
        all_goals (try (simp only [IntKind.wrap_i64]; omega))
      exact hK.out _ _ ⟨(by rw [ha.out]; exact putSel_upk 16 hb_ rfl rfl rfl), hI⟩
    refine steps_cons ?_ ?_
    · rintro b a w' ⟨ha, hI⟩ hb_ hon hoff
      refine ⟨_, rfl, fun K hK => ?_⟩
      have e21 : a.tmps[21]? = some (.pointer (some ⟨b1, o1, none⟩)) := by rw [ha]; exact putSel_on (e := (16, 21, .pointer (some ⟨b1, o1, none⟩))) 16 rfl rfl (hon 16 (by kernel_rfl)) (by rw [hsz]; rfl)
      have e19 : a.tmps[19]? = some (.bool true) := by rw [ha]; exact putSel_on (e := (14, 19, .bool true)) 14 rfl rfl (hon 14 (by kernel_rfl)) (by rw [hsz]; rfl)
      replace ha := Aside0.mk ha
      refine value_ (w1 := w') (v := .bool false) (wanted_on rfl rfl rfl e19) rfl ?_ ?_
      · go_simp; try rfl
        all_goals (try (simp only [IntKind.wrap_i64]; omega))
      exact hK.out _ _ ⟨(by rw [ha.out]; exact putSel_upk 17 hb_ rfl rfl rfl), hI⟩
    refine steps_cons ?_ ?_
    · rintro b a w' ⟨ha, hI⟩ hb_ hon hoff
      refine ⟨_, rfl, fun K hK => ?_⟩
      have e22 : a.tmps[22]? = some (.bool false) := by rw [ha]; exact putSel_on (e := (17, 22, .bool false)) 17 rfl rfl (hon 17 (by kernel_rfl)) (by rw [hsz]; rfl)
      have e19 : a.tmps[19]? = some (.bool true) := by rw [ha]; exact putSel_on (e := (14, 19, .bool true)) 14 rfl rfl (hon 14 (by kernel_rfl)) (by rw [hsz]; rfl)
      replace ha := Aside0.mk ha
      refine value_ (w1 := w') (v := .bool false) (wanted_on rfl rfl rfl e19) rfl ?_ ?_
      · go_simp; try rfl
        all_goals (try (simp only [IntKind.wrap_i64]; omega))
      exact hK.out _ _ ⟨(by rw [ha.out]; exact putSel_upk 18 hb_ rfl rfl rfl), hI⟩
    refine steps_cons ?_ ?_
    · rintro b a w' ⟨ha, hI⟩ hb_ hon hoff
      refine ⟨_, rfl, fun K hK => ?_⟩
      have e2 : a.tmps[2]? = some (.pointer (some ⟨w0.heap.size, 0, none⟩)) := by rw [ha]; exact (putSel_off rfl).trans s2
      have e23 : a.tmps[23]? = some (.bool false) := by rw [ha]; exact putSel_on (e := (18, 23, .bool false)) 18 rfl rfl (hon 18 (by kernel_rfl)) (by rw [hsz]; rfl)
      replace ha := Aside0.mk ha
      refine value_ (w1 := w') (v := .pointer (some ⟨w0.heap.size, 1, none⟩)) (wanted_on rfl rfl rfl e23) rfl ?_ ?_
      · go_simp; try rfl
        all_goals (try (simp only [IntKind.wrap_i64]; omega))
      exact hK.out _ _ ⟨(by rw [ha.out]; exact putSel_upk 19 hb_ rfl rfl rfl), hI⟩
    refine steps_cons ?_ ?_
    · rintro b a w' ⟨ha, hI⟩ hb_ hon hoff
      refine ⟨_, rfl, fun K hK => ?_⟩
      have e24 : a.tmps[24]? = some (.pointer (some ⟨w0.heap.size, 1, none⟩)) := by rw [ha]; exact putSel_on (e := (19, 24, .pointer (some ⟨w0.heap.size, 1, none⟩))) 19 rfl rfl (hon 19 (by kernel_rfl)) (by rw [hsz]; rfl)
      have e23 : a.tmps[23]? = some (.bool false) := by rw [ha]; exact putSel_on (e := (18, 23, .bool false)) 18 rfl rfl (hon 18 (by kernel_rfl)) (by rw [hsz]; rfl)
      replace ha := Aside0.mk ha
      have m0 := Own.c hI 1 1 rfl rfl
      refine value_ (w1 := w') (v := .pointer (some ⟨b1, o1, none⟩)) (wanted_on rfl rfl rfl e23) rfl ?_ ?_
      · go_simp; try rfl
        all_goals (try (simp only [IntKind.wrap_i64]; omega))
      exact hK.out _ _ ⟨(by rw [ha.out]; exact putSel_upk 20 hb_ rfl rfl rfl), hI⟩
    refine steps_cons ?_ ?_
    · rintro b a w' ⟨ha, hI⟩ hb_ hon hoff
      refine ⟨_, rfl, fun K hK => ?_⟩
      have e25 : a.tmps[25]? = some (.pointer (some ⟨b1, o1, none⟩)) := by rw [ha]; exact putSel_on (e := (20, 25, .pointer (some ⟨b1, o1, none⟩))) 20 rfl rfl (hon 20 (by kernel_rfl)) (by rw [hsz]; rfl)
      have e23 : a.tmps[23]? = some (.bool false) := by rw [ha]; exact putSel_on (e := (18, 23, .bool false)) 18 rfl rfl (hon 18 (by kernel_rfl)) (by rw [hsz]; rfl)
      replace ha := Aside0.mk ha
      refine value_ (w1 := w') (v := .pointer (some ⟨b1, o1, none⟩)) (wanted_on rfl rfl rfl e23) rfl ?_ ?_
      · go_simp; try rfl
        all_goals (try (simp only [IntKind.wrap_i64]; omega))
      exact hK.out _ _ ⟨(by rw [ha.out]; exact putSel_upk 21 hb_ rfl rfl rfl), hI⟩
    refine steps_cons ?_ ?_
    · rintro b a w' ⟨ha, hI⟩ hb_ hon hoff
      refine ⟨_, rfl, fun K hK => ?_⟩
      have e26 : a.tmps[26]? = some (.pointer (some ⟨b1, o1, none⟩)) := by rw [ha]; exact putSel_on (e := (21, 26, .pointer (some ⟨b1, o1, none⟩))) 21 rfl rfl (hon 21 (by kernel_rfl)) (by rw [hsz]; rfl)
      have e23 : a.tmps[23]? = some (.bool false) := by rw [ha]; exact putSel_on (e := (18, 23, .bool false)) 18 rfl rfl (hon 18 (by kernel_rfl)) (by rw [hsz]; rfl)
      replace ha := Aside0.mk ha
      have m0 := Kept.of (Own.bel hI) _ _ _ E1.c0
      have m1 := Kept.of (Own.bel hI) _ _ _ E1.c1
      have m2 := Kept.of (Own.bel hI) _ _ _ E1.c2
      have m3 := Kept.of (Own.bel hI) _ _ _ E1.c3
      have m4 := Kept.of (Own.bel hI) _ _ _ E1.c4
      have m5 := Kept.of (Own.bel hI) _ _ _ E1.c5
      have m6 := Kept.of (Own.bel hI) _ _ _ E1.c6
      refine value_ (w1 := w') (v := .agg #[.int .i64 x1.kind, .string x1.text, .string x1.name, .string x1.attr, .slice r1.A x1.na r1.ca, .pointer r1.P, .slice r1.V x1.nv r1.cv]) (wanted_on rfl rfl rfl e23) rfl ?_ ?_
      · go_simp; try rfl
        all_goals (try (simp only [IntKind.wrap_i64]; omega))
      exact hK.out _ _ ⟨(by rw [ha.out]; exact putSel_upk 22 hb_ rfl rfl rfl), hI⟩
    refine steps_cons ?_ ?_
    · rintro b a w' ⟨ha, hI⟩ hb_ hon hoff
      refine ⟨_, rfl, fun K hK => ?_⟩
      have e3 : a.tmps[3]? = some (.pointer (some ⟨w0.heap.size + 1, 0, none⟩)) := by rw [ha]; exact (putSel_off rfl).trans s3
      have e23 : a.tmps[23]? = some (.bool false) := by rw [ha]; exact putSel_on (e := (18, 23, .bool false)) 18 rfl rfl (hon 18 (by kernel_rfl)) (by rw [hsz]; rfl)
      replace ha := Aside0.mk ha
      refine value_ (w1 := w') (v := .pointer (some ⟨w0.heap.size + 1, 1, none⟩)) (wanted_on rfl rfl rfl e23) rfl ?_ ?_
      · go_simp; try rfl
        all_goals (try (simp only [IntKind.wrap_i64]; omega))
      exact hK.out _ _ ⟨(by rw [ha.out]; exact putSel_upk 23 hb_ rfl rfl rfl), hI⟩
    refine steps_cons ?_ ?_
    · rintro b a w' ⟨ha, hI⟩ hb_ hon hoff
      refine ⟨_, rfl, fun K hK => ?_⟩
      have e28 : a.tmps[28]? = some (.pointer (some ⟨w0.heap.size + 1, 1, none⟩)) := by rw [ha]; exact putSel_on (e := (23, 28, .pointer (some ⟨w0.heap.size + 1, 1, none⟩))) 23 rfl rfl (hon 23 (by kernel_rfl)) (by rw [hsz]; rfl)
      have e23 : a.tmps[23]? = some (.bool false) := by rw [ha]; exact putSel_on (e := (18, 23, .bool false)) 18 rfl rfl (hon 18 (by kernel_rfl)) (by rw [hsz]; rfl)
      replace ha := Aside0.mk ha
      have m0 := Own.c hI 0 1 rfl rfl
      refine value_ (w1 := w') (v := .pointer (some ⟨b2, o2, none⟩)) (wanted_on rfl rfl rfl e23) rfl ?_ ?_
      · go_simp; try rfl
        all_goals (try (simp only [IntKind.wrap_i64]; omega))
      exact hK.out _ _ ⟨(by rw [ha.out]; exact putSel_upk 24 hb_ rfl rfl rfl), hI⟩
    refine steps_cons ?_ ?_
    · rintro b a w' ⟨ha, hI⟩ hb_ hon hoff
      refine ⟨_, rfl, fun K hK => ?_⟩
      have e29 : a.tmps[29]? = some (.pointer (some ⟨b2, o2, none⟩)) := by rw [ha]; exact putSel_on (e := (24, 29, .pointer (some ⟨b2, o2, none⟩))) 24 rfl rfl (hon 24 (by kernel_rfl)) (by rw [hsz]; rfl)
      have e23 : a.tmps[23]? = some (.bool false) := by rw [ha]; exact putSel_on (e := (18, 23, .bool false)) 18 rfl rfl (hon 18 (by kernel_rfl)) (by rw [hsz]; rfl)
      replace ha := Aside0.mk ha
      refine value_ (w1 := w') (v := .pointer (some ⟨b2, o2, none⟩)) (wanted_on rfl rfl rfl e23) rfl ?_ ?_
      · go_simp; try rfl
        all_goals (try (simp only [IntKind.wrap_i64]; omega))
      exact hK.out _ _ ⟨(by rw [ha.out]; exact putSel_upk 25 hb_ rfl rfl rfl), hI⟩
    refine steps_cons ?_ ?_
    · rintro b a w' ⟨ha, hI⟩ hb_ hon hoff
      refine ⟨_, rfl, fun K hK => ?_⟩
      have e30 : a.tmps[30]? = some (.pointer (some ⟨b2, o2, none⟩)) := by rw [ha]; exact putSel_on (e := (25, 30, .pointer (some ⟨b2, o2, none⟩))) 25 rfl rfl (hon 25 (by kernel_rfl)) (by rw [hsz]; rfl)
      have e23 : a.tmps[23]? = some (.bool false) := by rw [ha]; exact putSel_on (e := (18, 23, .bool false)) 18 rfl rfl (hon 18 (by kernel_rfl)) (by rw [hsz]; rfl)
      replace ha := Aside0.mk ha
      have m0 := Kept.of (Own.bel hI) _ _ _ E2.c0
      have m1 := Kept.of (Own.bel hI) _ _ _ E2.c1
      have m2 := Kept.of (Own.bel hI) _ _ _ E2.c2
      have m3 := Kept.of (Own.bel hI) _ _ _ E2.c3
      have m4 := Kept.of (Own.bel hI) _ _ _ E2.c4
      have m5 := Kept.of (Own.bel hI) _ _ _ E2.c5
      have m6 := Kept.of (Own.bel hI) _ _ _ E2.c6
      refine value_ (w1 := w') (v := .agg #[.int .i64 x2.kind, .string x2.text, .string x2.name, .string x2.attr, .slice r2.A x2.na r2.ca, .pointer r2.P, .slice r2.V x2.nv r2.cv]) (wanted_on rfl rfl rfl e23) rfl ?_ ?_
      · go_simp; try rfl
        all_goals (try (simp only [IntKind.wrap_i64]; omega))
      exact hK.out _ _ ⟨(by rw [ha.out]; exact putSel_upk 26 hb_ rfl rfl rfl), hI⟩
    refine steps_cons ?_ ?_
    · rintro b a w' ⟨ha, hI⟩ hb_ hon hoff
      refine ⟨_, rfl, fun K hK => ?_⟩
      have e27 : a.tmps[27]? = some (.agg #[.int .i64 x1.kind, .string x1.text, .string x1.name, .string x1.attr, .slice r1.A x1.na r1.ca, .pointer r1.P, .slice r1.V x1.nv r1.cv]) := by rw [ha]; exact putSel_on (e := (22, 27, .agg #[.int .i64 x1.kind, .string x1.text, .string x1.name, .string x1.attr, .slice r1.A x1.na r1.ca, .pointer r1.P, .slice r1.V x1.nv r1.cv])) 22 rfl rfl (hon 22 (by kernel_rfl)) (by rw [hsz]; rfl)
      have e31 : a.tmps[31]? = some (.agg #[.int .i64 x2.kind, .string x2.text, .string x2.name, .string x2.attr, .slice r2.A x2.na r2.ca, .pointer r2.P, .slice r2.V x2.nv r2.cv]) := by rw [ha]; exact putSel_on (e := (26, 31, .agg #[.int .i64 x2.kind, .string x2.text, .string x2.name, .string x2.attr, .slice r2.A x2.na r2.ca, .pointer r2.P, .slice r2.V x2.nv r2.cv])) 26 rfl rfl (hon 26 (by kernel_rfl)) (by rw [hsz]; rfl)
      have e23 : a.tmps[23]? = some (.bool false) := by rw [ha]; exact putSel_on (e := (18, 23, .bool false)) 18 rfl rfl (hon 18 (by kernel_rfl)) (by rw [hsz]; rfl)
      replace ha := Aside0.mk ha
      refine goes_ Tryd.func81 (by kernel_rfl) rfl #[.agg #[.int .i64 x1.kind, .string x1.text, .string x1.name, .string x1.attr, .slice r1.A x1.na r1.ca, .pointer r1.P, .slice r1.V x1.nv r1.cv], .agg #[.int .i64 x2.kind, .string x2.text, .string x2.name, .string x2.attr, .slice r2.A x2.na r2.ca, .pointer r2.P, .slice r2.V x2.nv r2.cv]] (wanted_on rfl rfl rfl e23) rfl rfl (by first | (simp only [List.map_toArray, List.map_cons, List.map_nil, Act.eval, Array.getD_eq_getD_getElem?, Option.getD_some, e27, e31]; done) | (simp only [List.map_toArray, List.map_cons, List.map_nil, Act.eval, Array.getD_eq_getD_getElem?, Option.getD_some, e27, e31]; rfl)) ?_
      refine (cS w' (Own.bel hI)).mono ?_
      rintro e w1 ⟨rfl, b1⟩; have hI1 := ElI.step hI b1
      exact ⟨_, rfl, hK.out _ _ ⟨(by rw [ha.out]; exact putSel_upk 27 hb_ rfl rfl rfl), hI1⟩⟩
    refine steps_cons ?_ ?_
    · rintro b a w' ⟨ha, hI⟩ hb_ hon hoff
      refine ⟨_, rfl, fun K hK => ?_⟩
      have e23 : a.tmps[23]? = some (.bool false) := by rw [ha]; exact putSel_on (e := (18, 23, .bool false)) 18 rfl rfl (hon 18 (by kernel_rfl)) (by rw [hsz]; rfl)
      have e32 : a.tmps[32]? = some (.bool s) := by rw [ha]; exact putSel_on (e := (27, 32, .bool s)) 27 rfl rfl (hon 27 (by kernel_rfl)) (by rw [hsz]; rfl)
      have e19 : a.tmps[19]? = some (.bool true) := by rw [ha]; exact putSel_on (e := (14, 19, .bool true)) 14 rfl rfl (hon 14 (by kernel_rfl)) (by rw [hsz]; rfl)
      replace ha := Aside0.mk ha
      refine value_ (w1 := w') (v := .bool s) (wanted_on rfl rfl rfl e19) rfl ?_ ?_
      · go_simp; try rfl
        all_goals (try (simp only [IntKind.wrap_i64]; omega))
      exact hK.out _ _ ⟨(by rw [ha.out]; exact putSel_upk 28 hb_ rfl rfl rfl), hI⟩
    refine steps_cons ?_ ?_
    · rintro b a w' ⟨ha, hI⟩ hb_ hon hoff
      refine ⟨_, rfl, fun K hK => ?_⟩
      have e19 : a.tmps[19]? = some (.bool true) := by rw [ha]; exact putSel_on (e := (14, 19, .bool true)) 14 rfl rfl (hon 14 (by kernel_rfl)) (by rw [hsz]; rfl)
      have e33 : a.tmps[33]? = some (.bool s) := by rw [ha]; exact putSel_on (e := (28, 33, .bool s)) 28 rfl rfl (hon 28 (by kernel_rfl)) (by rw [hsz]; rfl)
      replace ha := Aside0.mk ha
      refine value_ (w1 := w') (v := .bool s) (by rfl) rfl ?_ ?_
      · go_simp; try rfl
        all_goals (try (simp only [IntKind.wrap_i64]; omega))
      exact hK.out _ _ ⟨(by rw [ha.out]; exact putSel_upk 29 hb_ rfl rfl rfl), hI⟩
    refine steps_cons ?_ ?_
    · rintro b a w' ⟨ha, hI⟩ hb_ hon hoff
      refine ⟨_, rfl, fun K hK => ?_⟩
      have e34 : a.tmps[34]? = some (.bool s) := by rw [ha]; exact putSel_on (e := (29, 34, .bool s)) 29 rfl rfl (hon 29 (by kernel_rfl)) (by rw [hsz]; rfl)
      replace ha := Aside0.mk ha
      refine value_ (w1 := w') (v := .bool s) (by rfl) rfl ?_ ?_
      · go_simp; try rfl
        all_goals (try (simp only [IntKind.wrap_i64]; omega))
      exact hK.out _ _ ⟨(by rw [ha.out]; exact putSel_upk 30 hb_ rfl rfl rfl), hI⟩
    exact steps_nil
  rintro b a w1 hall ⟨ha, hI1⟩
  exact hend a w1 hI1 (by rw [ha]; simp only [putSel, if_true, hall 0 (by kernel_rfl), hall 1 (by kernel_rfl), hall 2 (by kernel_rfl), hall 3 (by kernel_rfl), hall 4 (by kernel_rfl), hall 5 (by kernel_rfl), hall 6 (by kernel_rfl), hall 7 (by kernel_rfl), hall 8 (by kernel_rfl), hall 9 (by kernel_rfl), hall 10 (by kernel_rfl), hall 11 (by kernel_rfl), hall 12 (by kernel_rfl), hall 13 (by kernel_rfl), hall 14 (by kernel_rfl), hall 15 (by kernel_rfl), hall 16 (by kernel_rfl), hall 17 (by kernel_rfl), hall 18 (by kernel_rfl), hall 19 (by kernel_rfl), hall 20 (by kernel_rfl), hall 21 (by kernel_rfl), hall 22 (by kernel_rfl), hall 23 (by kernel_rfl), hall 24 (by kernel_rfl), hall 25 (by kernel_rfl), hall 26 (by kernel_rfl), hall 27 (by kernel_rfl), hall 28 (by kernel_rfl), hall 29 (by kernel_rfl), hall 30 (by kernel_rfl)]) (by rw [ha]; exact (putSel_size b _ a0).2) (by rw [ha]; exact putSel_on (e := (30, 4, .bool s)) 30 rfl rfl (hall 30 (by kernel_rfl)) (by rw [hsz]; rfl))
end Go.Proofs.YtipmphgkdomebaaDoor
namespace Go.Proofs.YtipmphgkdomebaaDoor
open Go.RowKit Go.Proofs.YtipmphgkdomebaaDoorW.PrintWords Go.Proofs.YtipmphgkdomebaaDoorW.PrintLast
set_option linter.unusedVariables false
set_option linter.unusedSimpArgs false
theorem ret_b {x y : Bool} (h : x = y) : (Ending.returned (.bool x)) = .returned (.bool y) := by rw [h]
theorem EX.no_of {w : World} {T : EX} {q : Tri} (h : T.R w q) : T.isNo = false := by
  cases T with
  | no => exact h.elim
  | mk => rfl
def SameOk (x1 x2 : EX) : Prop := ∀ (w : World) (r1 r2 : Tri), x1.R w r1 → x2.R w r2 → Calls Tryd.prog 81 #[.agg #[.int .i64 x1.kind, .string x1.text, .string x1.name, .string x1.attr, .slice r1.A x1.na r1.ca, .pointer r1.P, .slice r1.V x1.nv r1.cv], .agg #[.int .i64 x2.kind, .string x2.text, .string x2.name, .string x2.attr, .slice r2.A x2.na r2.ca, .pointer r2.P, .slice r2.V x2.nv r2.cv]] w fun e w' => e = .returned (.bool (x1.same x2)) ∧ Below w.heap.size w w'
set_option maxRecDepth 100000 in
set_option maxHeartbeats 4000000 in
theorem el_any (t1 t2 : ByteArray) (x1 x2 : EX) (p1 p2 : Option Addr) (w : World) (h1 : x1.Ptr w p1) (h2 : x2.Ptr w p2) (cS : SameOk x1 x2) :
    Calls Tryd.prog 80 #[.agg #[.string t1, .pointer p1], .agg #[.string t2, .pointer p2]] w fun e w' => e = .returned (.bool (elS t1 t2 x1 x2)) ∧ Below w.heap.size w w' := by
  have h0 : ElI w t1 p1 t2 p2 _ := Own.two w (.cells #[.string t1, .pointer p1] 42) (.cells #[.string t2, .pointer p2] 42)
  cases hq : (t1.toList == t2.toList) with
  | false =>
    go_enter Tryd.func80, Tryd.ntmps80
    go_upto_region 1 with (fail)
    generalize World.alloc (World.alloc w _) _ = W0 at *
    refine as80a w t1 t2 hq p1 p2 _ rfl rfl rfl _ (Own.drew h0) _ ?_
    intro a9 w9 h9 ha9 hd9 e4
    have bel := Own.bel h9
    clear ha9 h9 h0
    go_wp2
    exact bodyPost_ret (results_tmp rfl _ _ _) hd9 ⟨by rw [Array.getD_eq_getD_getElem?, e4]; exact ret_b (by unfold elS; rw [hq]; rfl), bel⟩
  | true =>
    rcases h1 with ⟨rfl, rfl⟩ | ⟨b1, o1, r1, rfl, E1, R1⟩
    · rcases h2 with ⟨rfl, rfl⟩ | ⟨b2, o2, r2, rfl, E2, R2⟩
      · go_enter Tryd.func80, Tryd.ntmps80
        go_upto_region 1 with (fail)
        generalize World.alloc (World.alloc w _) _ = W0 at *
        refine as80c w t1 t2 hq  _ rfl rfl rfl _ (Own.drew h0) _ ?_
        intro a9 w9 h9 ha9 hd9 e4
        have bel := Own.bel h9
        clear ha9 h9 h0
        go_wp2
        exact bodyPost_ret (results_tmp rfl _ _ _) hd9 ⟨by rw [Array.getD_eq_getD_getElem?, e4]; exact ret_b (by unfold elS; rw [hq]; rfl), bel⟩
      · have z2 := EX.no_of R2
        go_enter Tryd.func80, Tryd.ntmps80
        go_upto_region 1 with (fail)
        generalize World.alloc (World.alloc w _) _ = W0 at *
        refine as80bn w t1 t2 hq b2 o2 _ rfl rfl rfl _ (Own.drew h0) _ ?_
        intro a9 w9 h9 ha9 hd9 e4
        have bel := Own.bel h9
        clear ha9 h9 h0
        go_wp2
        exact bodyPost_ret (results_tmp rfl _ _ _) hd9 ⟨by rw [Array.getD_eq_getD_getElem?, e4]; exact ret_b (by unfold elS; rw [hq, z2]; rfl), bel⟩
    · have z1 := EX.no_of R1
      rcases h2 with ⟨rfl, rfl⟩ | ⟨b2, o2, r2, rfl, E2, R2⟩
      · skip
        go_enter Tryd.func80, Tryd.ntmps80
        go_upto_region 1 with (fail)
        generalize World.alloc (World.alloc w _) _ = W0 at *
        refine as80bs w t1 t2 hq b1 o1 _ rfl rfl rfl _ (Own.drew h0) _ ?_
        intro a9 w9 h9 ha9 hd9 e4
        have bel := Own.bel h9
        clear ha9 h9 h0
        go_wp2
        exact bodyPost_ret (results_tmp rfl _ _ _) hd9 ⟨by rw [Array.getD_eq_getD_getElem?, e4]; exact ret_b (by unfold elS; rw [hq, z1]; rfl), bel⟩
      · have z2 := EX.no_of R2
        have cS2 := fun W (hW : Below w.heap.size w W) => cS W r1 r2 (EX.keep (Kept.of hW) R1) (EX.keep (Kept.of hW) R2)
        go_enter Tryd.func80, Tryd.ntmps80
        go_upto_region 1 with (fail)
        generalize World.alloc (World.alloc w _) _ = W0 at *
        refine as80d w t1 t2 hq b1 o1 b2 o2 x1 x2 r1 r2 E1 E2 (x1.same x2) cS2 _ rfl rfl rfl _ (Own.drew h0) _ ?_
        intro a9 w9 h9 ha9 hd9 e4
        have bel := Own.bel h9
        clear ha9 h9 h0
        go_wp2
        exact bodyPost_ret (results_tmp rfl _ _ _) hd9 ⟨by rw [Array.getD_eq_getD_getElem?, e4]; exact ret_b (by unfold elS; rw [hq, z1, z2]; simp), bel⟩
set_option maxRecDepth 100000 in
set_option maxHeartbeats 4000000 in
theorem attr_any (m1 m2 : ByteArray) (A1 A2 : Option Addr) (n1 n2 d1 d2 : Nat) (s : Bool) (w : World) (cC : ∀ W, Below w.heap.size w W → Calls Tryd.prog 44 #[.slice A1 n1 d1, .slice A2 n2 d2] W fun e w' => e = .returned (.bool s) ∧ Below W.heap.size W w') :
    Calls Tryd.prog 46 #[.agg #[.string m1, .slice A1 n1 d1], .agg #[.string m2, .slice A2 n2 d2]] w fun e w' => e = .returned (.bool ((m1.toList == m2.toList) && s)) ∧ Below w.heap.size w w' := by
  have h0 := Own.two w (.cells #[.string m1, .slice A1 n1 d1] 44) (.cells #[.string m2, .slice A2 n2 d2] 44)
  cases q0 : (m1.toList == m2.toList) with
  | false =>
    go_enter Tryd.func46, Tryd.ntmps46
    go_upto_region 1 with (fail)
    generalize World.alloc (World.alloc w _) _ = W0 at *
    have a0 := Own.c h0 1 0 rfl rfl
    have a1 := Own.c h0 1 1 rfl rfl
    have b0 := Own.c h0 0 0 rfl rfl
    have b1 := Own.c h0 0 1 rfl rfl
    go_wp2
    go_ret
    exact ⟨by first | rfl | exact ret_b (by simp), h0.bel⟩
  | true =>
    go_enter Tryd.func46, Tryd.ntmps46
    go_upto_region 1 with (fail)
    generalize World.alloc (World.alloc w _) _ = W0 at *
    have a0 := Own.c h0 1 0 rfl rfl
    have a1 := Own.c h0 1 1 rfl rfl
    have b0 := Own.c h0 0 0 rfl rfl
    have b1 := Own.c h0 0 1 rfl rfl
    go_wp2_with (go_at_call 44; refine (cC _ h0.bel).mono ?_; rintro e W1 ⟨rfl, b1⟩; have h1 := h0.step b1)
    go_ret
    exact ⟨by first | rfl | exact ret_b (by simp), h1.bel⟩
set_option maxRecDepth 100000 in
set_option maxHeartbeats 4000000 in
theorem var_any (m1 m2 : ByteArray) (e1 e2 : Bool) (A1 A2 : Option Addr) (n1 n2 d1 d2 : Nat) (s : Bool) (w : World) (cC : ∀ W, Below w.heap.size w W → Calls Tryd.prog 44 #[.slice A1 n1 d1, .slice A2 n2 d2] W fun e w' => e = .returned (.bool s) ∧ Below W.heap.size W w') :
    Calls Tryd.prog 122 #[.agg #[.string m1, .bool e1, .slice A1 n1 d1], .agg #[.string m2, .bool e2, .slice A2 n2 d2]] w fun e w' => e = .returned (.bool ((m1.toList == m2.toList) && ((e1 == e2) && s))) ∧ Below w.heap.size w w' := by
  have h0 := Own.two w (.cells #[.string m1, .bool e1, .slice A1 n1 d1] 136) (.cells #[.string m2, .bool e2, .slice A2 n2 d2] 136)
  cases q0 : (m1.toList == m2.toList) with
  | false =>
    go_enter Tryd.func122, Tryd.ntmps122
    go_upto_region 1 with (fail)
    generalize World.alloc (World.alloc w _) _ = W0 at *
    have a0 := Own.c h0 1 0 rfl rfl
    have a1 := Own.c h0 1 1 rfl rfl
    have a2 := Own.c h0 1 2 rfl rfl
    have b0 := Own.c h0 0 0 rfl rfl
    have b1 := Own.c h0 0 1 rfl rfl
    have b2 := Own.c h0 0 2 rfl rfl
    go_wp2
    go_ret
    exact ⟨by first | rfl | exact ret_b (by simp), h0.bel⟩
  | true =>
    cases q1 : (e1 == e2) with
    | false =>
      go_enter Tryd.func122, Tryd.ntmps122
      go_upto_region 1 with (fail)
      generalize World.alloc (World.alloc w _) _ = W0 at *
      have a0 := Own.c h0 1 0 rfl rfl
      have a1 := Own.c h0 1 1 rfl rfl
      have a2 := Own.c h0 1 2 rfl rfl
      have b0 := Own.c h0 0 0 rfl rfl
      have b1 := Own.c h0 0 1 rfl rfl
      have b2 := Own.c h0 0 2 rfl rfl
      go_wp2
      go_ret
      exact ⟨by first | rfl | exact ret_b (by simp), h0.bel⟩
    | true =>
      go_enter Tryd.func122, Tryd.ntmps122
      go_upto_region 1 with (fail)
      generalize World.alloc (World.alloc w _) _ = W0 at *
      have a0 := Own.c h0 1 0 rfl rfl
      have a1 := Own.c h0 1 1 rfl rfl
      have a2 := Own.c h0 1 2 rfl rfl
      have b0 := Own.c h0 0 0 rfl rfl
      have b1 := Own.c h0 0 1 rfl rfl
      have b2 := Own.c h0 0 2 rfl rfl
      go_wp2_with (go_at_call 44; refine (cC _ h0.bel).mono ?_; rintro e W1 ⟨rfl, b1⟩; have h1 := h0.step b1)
      go_ret
      exact ⟨by first | rfl | exact ret_b (by simp), h1.bel⟩
set_option maxRecDepth 100000 in
set_option maxHeartbeats 4000000 in
theorem arg_any (m1 m2 : ByteArray) (k1 k2 : Int) (t1 t2 u1 u2 v1 v2 : ByteArray) (A1 A2 : Option Addr) (n1 n2 d1 d2 : Nat) (p1 p2 V1 V2 : Option Addr) (l1 l2 c1 c2 : Nat) (s : Bool) (w : World) (cC : ∀ W, Below w.heap.size w W → Calls Tryd.prog 81 #[.agg #[.int .i64 k1, .string t1, .string u1, .string v1, .slice A1 n1 d1, .pointer p1, .slice V1 l1 c1], .agg #[.int .i64 k2, .string t2, .string u2, .string v2, .slice A2 n2 d2, .pointer p2, .slice V2 l2 c2]] W fun e w' => e = .returned (.bool s) ∧ Below W.heap.size W w') :
    Calls Tryd.prog 120 #[.agg #[.string m1, .int .i64 k1, .string t1, .string u1, .string v1, .slice A1 n1 d1, .pointer p1, .slice V1 l1 c1], .agg #[.string m2, .int .i64 k2, .string t2, .string u2, .string v2, .slice A2 n2 d2, .pointer p2, .slice V2 l2 c2]] w fun e w' => e = .returned (.bool ((m1.toList == m2.toList) && s)) ∧ Below w.heap.size w w' := by
  have h0 := Own.two w (.cells #[.string m1, .int .i64 k1, .string t1, .string u1, .string v1, .slice A1 n1 d1, .pointer p1, .slice V1 l1 c1] 77) (.cells #[.string m2, .int .i64 k2, .string t2, .string u2, .string v2, .slice A2 n2 d2, .pointer p2, .slice V2 l2 c2] 77)
  cases q0 : (m1.toList == m2.toList) with
  | false =>
    go_enter Tryd.func120, Tryd.ntmps120
    go_upto_region 1 with (fail)
    generalize World.alloc (World.alloc w _) _ = W0 at *
    have a0 := Own.c h0 1 0 rfl rfl
    have a1 := Own.c h0 1 1 rfl rfl
    have a2 := Own.c h0 1 2 rfl rfl
    have a3 := Own.c h0 1 3 rfl rfl
    have a4 := Own.c h0 1 4 rfl rfl
    have a5 := Own.c h0 1 5 rfl rfl
    have a6 := Own.c h0 1 6 rfl rfl
    have a7 := Own.c h0 1 7 rfl rfl
    have b0 := Own.c h0 0 0 rfl rfl
    have b1 := Own.c h0 0 1 rfl rfl
    have b2 := Own.c h0 0 2 rfl rfl
    have b3 := Own.c h0 0 3 rfl rfl
    have b4 := Own.c h0 0 4 rfl rfl
    have b5 := Own.c h0 0 5 rfl rfl
    have b6 := Own.c h0 0 6 rfl rfl
    have b7 := Own.c h0 0 7 rfl rfl
    go_wp2
    go_ret
    exact ⟨by first | rfl | exact ret_b (by simp), h0.bel⟩
  | true =>
    go_enter Tryd.func120, Tryd.ntmps120
    go_upto_region 1 with (fail)
    generalize World.alloc (World.alloc w _) _ = W0 at *
    have a0 := Own.c h0 1 0 rfl rfl
    have a1 := Own.c h0 1 1 rfl rfl
    have a2 := Own.c h0 1 2 rfl rfl
    have a3 := Own.c h0 1 3 rfl rfl
    have a4 := Own.c h0 1 4 rfl rfl
    have a5 := Own.c h0 1 5 rfl rfl
    have a6 := Own.c h0 1 6 rfl rfl
    have a7 := Own.c h0 1 7 rfl rfl
    have b0 := Own.c h0 0 0 rfl rfl
    have b1 := Own.c h0 0 1 rfl rfl
    have b2 := Own.c h0 0 2 rfl rfl
    have b3 := Own.c h0 0 3 rfl rfl
    have b4 := Own.c h0 0 4 rfl rfl
    have b5 := Own.c h0 0 5 rfl rfl
    have b6 := Own.c h0 0 6 rfl rfl
    have b7 := Own.c h0 0 7 rfl rfl
    go_wp2_with (go_at_call 81; refine (cC _ h0.bel).mono ?_; rintro e W1 ⟨rfl, b1⟩; have h1 := h0.step b1)
    go_ret
    exact ⟨by first | rfl | exact ret_b (by simp), h1.bel⟩
end Go.Proofs.YtipmphgkdomebaaDoor
namespace Go.Proofs.YtipmphgkdomebaaDoor
open Go.RowKit
set_option linter.unusedVariables false
set_option linter.unusedSimpArgs false
def bareV (ft fn fa fg : Bool) (tx nm at_ : ByteArray) (na : Nat) (P : Option Addr) (nv : Nat) : Bool := (ft || (tx.toList == [])) && ((fn || (nm.toList == [])) && ((fa || (at_.toList == [])) && ((fg || decide (na = 0)) && (P.isNone && decide (nv = 0)))))
set_option maxRecDepth 100000 in
set_option maxHeartbeats 1000000 in
theorem bare_ftff (kd : Int) (tx nm at_ : ByteArray) (A : Option Addr) (na ca : Nat) (P V : Option Addr) (nv cv : Nat) (w : World) :
    Calls Tryd.prog 147 #[.agg #[.int .i64 kd, .string tx, .string nm, .string at_, .slice A na ca, .pointer P, .slice V nv cv], .bool false, .bool true, .bool false, .bool false] w fun e w' => e = .returned (.bool (bareV false true false false tx nm at_ na P nv)) ∧ Below w.heap.size w w' := by
  have h0 := Own.one w (.cells #[.int .i64 kd, .string tx, .string nm, .string at_, .slice A na ca, .pointer P, .slice V nv cv] 40)
  unfold bareV
  cases q0 : (tx.toList == []) with
  | false =>
    go_enter Tryd.func147, Tryd.ntmps147
    go_upto_region 1 with (fail)
    generalize w.alloc _ = W0 at *
    have a1 := h0.c 0 1 rfl rfl
    have a2 := h0.c 0 2 rfl rfl
    have a3 := h0.c 0 3 rfl rfl
    have a4 := h0.c 0 4 rfl rfl
    have a5 := h0.c 0 5 rfl rfl
    have a6 := h0.c 0 6 rfl rfl
    go_wp2
    go_ret
    exact ⟨by first | rfl | exact ret_b (by simp), h0.bel⟩
  | true =>
    cases q2 : (at_.toList == []) with
    | false =>
      go_enter Tryd.func147, Tryd.ntmps147
      go_upto_region 1 with (fail)
      generalize w.alloc _ = W0 at *
      have a1 := h0.c 0 1 rfl rfl
      have a2 := h0.c 0 2 rfl rfl
      have a3 := h0.c 0 3 rfl rfl
      have a4 := h0.c 0 4 rfl rfl
      have a5 := h0.c 0 5 rfl rfl
      have a6 := h0.c 0 6 rfl rfl
      go_wp2
      go_ret
      exact ⟨by first | rfl | exact ret_b (by simp), h0.bel⟩
    | true =>
      by_cases z3 : na = 0
      case neg =>
        have q3 : ((na : Int) == 0) = false := beq_eq_false_iff_ne.2 (by omega)
        rw [decide_eq_false z3]
        clear z3
        go_enter Tryd.func147, Tryd.ntmps147
        go_upto_region 1 with (fail)
        generalize w.alloc _ = W0 at *
        have a1 := h0.c 0 1 rfl rfl
        have a2 := h0.c 0 2 rfl rfl
        have a3 := h0.c 0 3 rfl rfl
        have a4 := h0.c 0 4 rfl rfl
        have a5 := h0.c 0 5 rfl rfl
        have a6 := h0.c 0 6 rfl rfl
        go_wp2
        go_ret
        exact ⟨by first | rfl | exact ret_b (by simp), h0.bel⟩
      have q3 : ((na : Int) == 0) = true := beq_iff_eq.2 (by omega)
      rw [decide_eq_true z3]
      clear z3
      cases P with
      | some p =>
        go_enter Tryd.func147, Tryd.ntmps147
        go_upto_region 1 with (fail)
        generalize w.alloc _ = W0 at *
        have a1 := h0.c 0 1 rfl rfl
        have a2 := h0.c 0 2 rfl rfl
        have a3 := h0.c 0 3 rfl rfl
        have a4 := h0.c 0 4 rfl rfl
        have a5 := h0.c 0 5 rfl rfl
        have a6 := h0.c 0 6 rfl rfl
        go_wp2
        go_ret
        exact ⟨by first | rfl | exact ret_b (by simp), h0.bel⟩
      | none =>
        by_cases z4 : nv = 0
        · have q4 : ((nv : Int) == 0) = true := beq_iff_eq.2 (by omega)
          rw [decide_eq_true z4]
          clear z4
          go_enter Tryd.func147, Tryd.ntmps147
          go_upto_region 1 with (fail)
          generalize w.alloc _ = W0 at *
          have a1 := h0.c 0 1 rfl rfl
          have a2 := h0.c 0 2 rfl rfl
          have a3 := h0.c 0 3 rfl rfl
          have a4 := h0.c 0 4 rfl rfl
          have a5 := h0.c 0 5 rfl rfl
          have a6 := h0.c 0 6 rfl rfl
          go_wp2
          go_ret
          exact ⟨by first | rfl | exact ret_b (by simp), h0.bel⟩
        · have q4 : ((nv : Int) == 0) = false := beq_eq_false_iff_ne.2 (by omega)
          rw [decide_eq_false z4]
          clear z4
          go_enter Tryd.func147, Tryd.ntmps147
          go_upto_region 1 with (fail)
          generalize w.alloc _ = W0 at *
          have a1 := h0.c 0 1 rfl rfl
          have a2 := h0.c 0 2 rfl rfl
          have a3 := h0.c 0 3 rfl rfl
          have a4 := h0.c 0 4 rfl rfl
          have a5 := h0.c 0 5 rfl rfl
          have a6 := h0.c 0 6 rfl rfl
          go_wp2
          go_ret
          exact ⟨by first | rfl | exact ret_b (by simp), h0.bel⟩
set_option maxRecDepth 100000 in
set_option maxHeartbeats 1000000 in
theorem bare_ffff (kd : Int) (tx nm at_ : ByteArray) (A : Option Addr) (na ca : Nat) (P V : Option Addr) (nv cv : Nat) (w : World) :
    Calls Tryd.prog 147 #[.agg #[.int .i64 kd, .string tx, .string nm, .string at_, .slice A na ca, .pointer P, .slice V nv cv], .bool false, .bool false, .bool false, .bool false] w fun e w' => e = .returned (.bool (bareV false false false false tx nm at_ na P nv)) ∧ Below w.heap.size w w' := by
  have h0 := Own.one w (.cells #[.int .i64 kd, .string tx, .string nm, .string at_, .slice A na ca, .pointer P, .slice V nv cv] 40)
  unfold bareV
  cases q0 : (tx.toList == []) with
  | false =>
    go_enter Tryd.func147, Tryd.ntmps147
    go_upto_region 1 with (fail)
    generalize w.alloc _ = W0 at *
    have a1 := h0.c 0 1 rfl rfl
    have a2 := h0.c 0 2 rfl rfl
    have a3 := h0.c 0 3 rfl rfl
    have a4 := h0.c 0 4 rfl rfl
    have a5 := h0.c 0 5 rfl rfl
    have a6 := h0.c 0 6 rfl rfl
    go_wp2
    go_ret
    exact ⟨by first | rfl | exact ret_b (by simp), h0.bel⟩
  | true =>
    cases q1 : (nm.toList == []) with
    | false =>
      go_enter Tryd.func147, Tryd.ntmps147
      go_upto_region 1 with (fail)
      generalize w.alloc _ = W0 at *
      have a1 := h0.c 0 1 rfl rfl
      have a2 := h0.c 0 2 rfl rfl
      have a3 := h0.c 0 3 rfl rfl
      have a4 := h0.c 0 4 rfl rfl
      have a5 := h0.c 0 5 rfl rfl
      have a6 := h0.c 0 6 rfl rfl
      go_wp2
      go_ret
      exact ⟨by first | rfl | exact ret_b (by simp), h0.bel⟩
    | true =>
      cases q2 : (at_.toList == []) with
      | false =>
        go_enter Tryd.func147, Tryd.ntmps147
        go_upto_region 1 with (fail)
        generalize w.alloc _ = W0 at *
        have a1 := h0.c 0 1 rfl rfl
        have a2 := h0.c 0 2 rfl rfl
        have a3 := h0.c 0 3 rfl rfl
        have a4 := h0.c 0 4 rfl rfl
        have a5 := h0.c 0 5 rfl rfl
        have a6 := h0.c 0 6 rfl rfl
        go_wp2
        go_ret
        exact ⟨by first | rfl | exact ret_b (by simp), h0.bel⟩
      | true =>
        by_cases z3 : na = 0
        case neg =>
          have q3 : ((na : Int) == 0) = false := beq_eq_false_iff_ne.2 (by omega)
          rw [decide_eq_false z3]
          clear z3
          go_enter Tryd.func147, Tryd.ntmps147
          go_upto_region 1 with (fail)
          generalize w.alloc _ = W0 at *
          have a1 := h0.c 0 1 rfl rfl
          have a2 := h0.c 0 2 rfl rfl
          have a3 := h0.c 0 3 rfl rfl
          have a4 := h0.c 0 4 rfl rfl
          have a5 := h0.c 0 5 rfl rfl
          have a6 := h0.c 0 6 rfl rfl
          go_wp2
          go_ret
          exact ⟨by first | rfl | exact ret_b (by simp), h0.bel⟩
        have q3 : ((na : Int) == 0) = true := beq_iff_eq.2 (by omega)
        rw [decide_eq_true z3]
        clear z3
        cases P with
        | some p =>
          go_enter Tryd.func147, Tryd.ntmps147
          go_upto_region 1 with (fail)
          generalize w.alloc _ = W0 at *
          have a1 := h0.c 0 1 rfl rfl
          have a2 := h0.c 0 2 rfl rfl
          have a3 := h0.c 0 3 rfl rfl
          have a4 := h0.c 0 4 rfl rfl
          have a5 := h0.c 0 5 rfl rfl
          have a6 := h0.c 0 6 rfl rfl
          go_wp2
          go_ret
          exact ⟨by first | rfl | exact ret_b (by simp), h0.bel⟩
        | none =>
          by_cases z4 : nv = 0
          · have q4 : ((nv : Int) == 0) = true := beq_iff_eq.2 (by omega)
            rw [decide_eq_true z4]
            clear z4
            go_enter Tryd.func147, Tryd.ntmps147
            go_upto_region 1 with (fail)
            generalize w.alloc _ = W0 at *
            have a1 := h0.c 0 1 rfl rfl
            have a2 := h0.c 0 2 rfl rfl
            have a3 := h0.c 0 3 rfl rfl
            have a4 := h0.c 0 4 rfl rfl
            have a5 := h0.c 0 5 rfl rfl
            have a6 := h0.c 0 6 rfl rfl
            go_wp2
            go_ret
            exact ⟨by first | rfl | exact ret_b (by simp), h0.bel⟩
          · have q4 : ((nv : Int) == 0) = false := beq_eq_false_iff_ne.2 (by omega)
            rw [decide_eq_false z4]
            clear z4
            go_enter Tryd.func147, Tryd.ntmps147
            go_upto_region 1 with (fail)
            generalize w.alloc _ = W0 at *
            have a1 := h0.c 0 1 rfl rfl
            have a2 := h0.c 0 2 rfl rfl
            have a3 := h0.c 0 3 rfl rfl
            have a4 := h0.c 0 4 rfl rfl
            have a5 := h0.c 0 5 rfl rfl
            have a6 := h0.c 0 6 rfl rfl
            go_wp2
            go_ret
            exact ⟨by first | rfl | exact ret_b (by simp), h0.bel⟩
end Go.Proofs.YtipmphgkdomebaaDoor
namespace Go.Proofs.YtipmphgkdomebaaDoor
open Go.RowKit Go.Proofs.YtipmphgkdomebaaDoorW.PrintWords
set_option linter.unusedVariables false
set_option linter.unusedSimpArgs false
def whN (p : Int → Bool) (s : ByteArray) (i : Nat) : Nat := i + ((s.data.toList.drop i).takeWhile (fun c => p (c.toNat : Int))).length
def whI (p : Int → Bool) (s : ByteArray) (i : Int) : Int := if i < 0 then i else (whN p s i.toNat : Nat)
theorem whN_end {p : Int → Bool} {s : ByteArray} {i : Nat} (h : s.size ≤ i) : whN p s i = i := by
  unfold whN
  rw [List.drop_eq_nil_of_le (by rw [← Lib.size_eq]; exact h)]
  rfl
theorem whN_step {p : Int → Bool} {s : ByteArray} {i : Nat} (h : i < s.size) : whN p s i = if p (s[i].toNat : Int) = true then whN p s (i + 1) else i := by
  have hl : i < s.data.toList.length := by rw [← Lib.size_eq]; exact h
  unfold whN
  rw [List.drop_eq_getElem_cons hl, List.takeWhile_cons]
  have e : s.data.toList[i] = s[i] := rfl
  rw [e]
  by_cases c : p (s[i].toNat : Int) = true
  · rw [if_pos c, if_pos c, List.length_cons]; omega
  · rw [if_neg c, if_neg c]; rfl
set_option maxRecDepth 100000 in
set_option maxHeartbeats 4000000 in
theorem while_name (p : Int → Bool) (cg : ∀ c W, 0 ≤ c → c < 256 → Calls Tryd.prog 108 #[.int .u8 c] W fun e w' => e = .returned (.bool (p c)) ∧ Below W.heap.size W w') (s : ByteArray) (i : Int) (w : World) (hs : s.size ≤ 4611686018427387904) :
    Calls Tryd.prog 89 #[.string s, .int .i64 i, .func (.func 108) #[] #[]] w fun e w' => e = .returned (.int .i64 (whI p s i)) ∧ Below w.heap.size w w' := by
  by_cases h0 : i < 0
  · unfold whI
    rw [if_pos h0]
    have q0 : decide (i ≥ 0) = false := decide_eq_false (by omega)
    have q1 : decide (0 ≤ i) = false := decide_eq_false (by omega)
    have CG := Lib.hid cg; clear cg
    go_enter Tryd.func89, Tryd.ntmps89
    go_wp2
    go_loopg [1] 1 (fun gk v1 wx => v1 = .int .i64 i ∧ wx = w)
    case atStart => exact ⟨rfl, rfl⟩
    case round =>
      obtain ⟨rfl, rfl⟩ := hrel
      go_wp2
      go_ret
      exact ⟨rfl, Below.refl _ _⟩
  · obtain ⟨j, rfl⟩ : ∃ j : Nat, i = j := ⟨i.toNat, by omega⟩
    have he : whI p s (j : Int) = (whN p s j : Nat) := by unfold whI; rw [if_neg h0, Int.toNat_natCast]
    rw [he]
    have CG := Lib.hid cg; clear cg he
    go_enter Tryd.func89, Tryd.ntmps89
    go_wp2
    go_loopg [1] (s.size - j) (fun gk v1 wx => ∃ i : Nat, v1 = .int .i64 i ∧ s.size ≤ i + gk ∧ whN p s i = whN p s j ∧ Below w.heap.size w wx)
    case atStart => exact ⟨j, rfl, by omega, rfl, Below.refl _ _⟩
    case round =>
      obtain ⟨i, rfl, hi, hw, hb⟩ := hrel
      have q1 : decide ((i : Int) ≥ 0) = true := decide_eq_true (by omega)
      have HW := Lib.hid hw; clear hw
      have HI := Lib.hid hi; clear hi
      by_cases hp : i < s.size
      · have q2 : decide ((i : Int) < (s.size : Int)) = true := decide_eq_true (by omega)
        have q3 : (0 : Int) ≤ (i : Int) := by omega
        have q4 : (i : Int) < (s.size : Int) := by omega
        have st := whN_step (p := p) hp
        have cQ := fun W => CG.out (s[i].toNat : Int) W (by omega) (by have := s[i].toNat_lt; omega)
        obtain ⟨f, rfl⟩ : ∃ f, gk = f + 1 := ⟨gk - 1, by have := HI.out; omega⟩
        cases hc : p (s[i].toNat : Int) with
        | true =>
          rw [hc] at cQ
          rw [if_pos hc] at st
          have ST := Lib.hid st; clear st
          go_wp2_with (go_at_call 108; refine (cQ _).mono ?_; rintro e W1 ⟨rfl, b1⟩; have h1 := below_on hb b1 hb.size)
          go_roundg f
          case measure => omega
          case rel => exact ⟨i + 1, by go_num, by have := HI.out; omega, ST.out.symm.trans HW.out, h1⟩
        | false =>
          rw [hc] at cQ
          rw [if_neg (by rw [hc]; decide)] at st
          have ST := Lib.hid st; clear st
          go_wp2_with (go_at_call 108; refine (cQ _).mono ?_; rintro e W1 ⟨rfl, b1⟩; have h1 := below_on hb b1 hb.size)
          go_ret
          exact ⟨by rw [← HW.out, ST.out]; rfl, h1⟩
      · have q2 : decide ((i : Int) < (s.size : Int)) = false := decide_eq_false (by omega)
        have st := whN_end (p := p) (s := s) (i := i) (by omega)
        have ST := Lib.hid st; clear st
        go_wp2
        go_ret
        exact ⟨by rw [← HW.out, ST.out]; rfl, hb⟩
end Go.Proofs.YtipmphgkdomebaaDoor
namespace Go.Proofs
open Go.Shelf
def Tryd.lays169_ren : Go.Shelf.Ren := ⟨fun | 169 => 30 | n => n, fun | 70 => 53 | 9 => 9 | 0 => 0 | 72 => 56 | 37 => 54 | 127 => 97 | 3 => 3 | 5 => 5 | n => n, fun | n => n⟩
theorem Tryd.lays169 : Go.Proofs.Lays.n169 Tryd.prog Tryd.lays169_ren := {
  mixed := by kernel_rfl
  f169 := Tryd.func30.trans (congrArg some (by kernel_rfl))
  t0 := Tryd.underlying0
  a0 := Tryd.isAgg0
  z0 := Tryd.sizeOf0
  v0 := Tryd.zeroValue0
  t3 := Tryd.underlying3
  a3 := Tryd.isAgg3
  z3 := Tryd.sizeOf3
  v3 := Tryd.zeroValue3
  t9 := Tryd.underlying9
  a9 := Tryd.isAgg9
  z9 := Tryd.sizeOf9
  v9 := Tryd.zeroValue9
  t37 := Tryd.underlying54
  a37 := Tryd.isAgg54
  z37 := Tryd.sizeOf54
  v37 := Tryd.zeroValue54
  t70 := Tryd.underlying53
  a70 := Tryd.isAgg53
  z70 := Tryd.sizeOf53
  v70 := Tryd.zeroValue53
  t72 := Tryd.underlying56
  a72 := Tryd.isAgg56
  z72 := Tryd.sizeOf56
  v72 := Tryd.zeroValue56
  t127 := Tryd.underlying97
  a127 := Tryd.isAgg97
  z127 := Tryd.sizeOf97
  v127 := Tryd.zeroValue97 }
theorem Tryd.Builder_Extra_169 : Builder.Extra Tryd.prog Tryd.lays169_ren := {
  sizeBuilder := by kernel_rfl
  liesBuilder := by kernel_rfl
  t5 := Tryd.underlying5
  a5 := Tryd.isAgg5
  z5 := Tryd.sizeOf5
  v5 := Tryd.zeroValue5
  infoByte := by kernel_rfl
  cellsByte := by kernel_rfl
  sizeByte := by kernel_rfl
  neB5 := by decide }
def Tryd.lays161_ren : Go.Shelf.Ren := ⟨fun | 161 => 115 | 231 => 155 | 227 => 153 | 233 => 157 | 235 => 159 | 228 => 154 | 197 => 88 | 151 => 172 | 260 => 132 | 152 => 151 | 137 => 62 | 119 => 171 | 224 => 145 | 225 => 144 | 217 => 102 | 266 => 141 | n => n, fun | 9 => 9 | 4 => 4 | 3 => 3 | 5 => 5 | 117 => 168 | 116 => 167 | 0 => 0 | 124 => 172 | 105 => 122 | 21 => 21 | 119 => 106 | 46 => 92 | 139 => 109 | 138 => 108 | n => n, fun | 3 => 0 | 4 => 1 | n => n⟩
theorem Tryd.lays161 : Go.Proofs.Lays.n161 Tryd.prog Tryd.lays161_ren := {
  mixed := by kernel_rfl
  f119 := Tryd.func171.trans (congrArg some (by kernel_rfl))
  f137 := Tryd.func62.trans (congrArg some (by kernel_rfl))
  f151 := Tryd.func172.trans (congrArg some (by kernel_rfl))
  f152 := Tryd.func151.trans (congrArg some (by kernel_rfl))
  f161 := Tryd.func115.trans (congrArg some (by kernel_rfl))
  f197 := Tryd.func88.trans (congrArg some (by kernel_rfl))
  f217 := Tryd.func102.trans (congrArg some (by kernel_rfl))
  f224 := Tryd.func145.trans (congrArg some (by kernel_rfl))
  f225 := Tryd.func144.trans (congrArg some (by kernel_rfl))
  f227 := Tryd.func153.trans (congrArg some (by kernel_rfl))
  f228 := Tryd.func154.trans (congrArg some (by kernel_rfl))
  f231 := Tryd.func155.trans (congrArg some (by kernel_rfl))
  f233 := Tryd.func157.trans (congrArg some (by kernel_rfl))
  f235 := Tryd.func159.trans (congrArg some (by kernel_rfl))
  f260 := Tryd.func132.trans (congrArg some (by kernel_rfl))
  f266 := Tryd.func141.trans (congrArg some (by kernel_rfl))
  t0 := Tryd.underlying0
  a0 := Tryd.isAgg0
  z0 := Tryd.sizeOf0
  v0 := Tryd.zeroValue0
  t3 := Tryd.underlying3
  a3 := Tryd.isAgg3
  z3 := Tryd.sizeOf3
  v3 := Tryd.zeroValue3
  t4 := Tryd.underlying4
  a4 := Tryd.isAgg4
  z4 := Tryd.sizeOf4
  v4 := Tryd.zeroValue4
  t5 := Tryd.underlying5
  a5 := Tryd.isAgg5
  z5 := Tryd.sizeOf5
  v5 := Tryd.zeroValue5
  t9 := Tryd.underlying9
  a9 := Tryd.isAgg9
  z9 := Tryd.sizeOf9
  v9 := Tryd.zeroValue9
  t21 := Tryd.underlying21
  a21 := Tryd.isAgg21
  z21 := Tryd.sizeOf21
  v21 := Tryd.zeroValue21
  t46 := Tryd.underlying92
  a46 := Tryd.isAgg92
  z46 := Tryd.sizeOf92
  v46 := Tryd.zeroValue92
  t105 := Tryd.underlying122
  a105 := Tryd.isAgg122
  z105 := Tryd.sizeOf122
  v105 := Tryd.zeroValue122
  t116 := Tryd.underlying167
  a116 := Tryd.isAgg167
  z116 := Tryd.sizeOf167
  t117 := Tryd.underlying168
  a117 := Tryd.isAgg168
  z117 := Tryd.sizeOf168
  v117 := Tryd.zeroValue168
  t119 := Tryd.underlying106
  a119 := Tryd.isAgg106
  z119 := Tryd.sizeOf106
  t124 := Tryd.underlying172
  a124 := Tryd.isAgg172
  z124 := Tryd.sizeOf172
  v124 := Tryd.zeroValue172
  t138 := Tryd.underlying108
  a138 := Tryd.isAgg108
  z138 := Tryd.sizeOf108
  v138 := Tryd.zeroValue108
  t139 := Tryd.underlying109
  a139 := Tryd.isAgg109
  z139 := Tryd.sizeOf109
  v139 := Tryd.zeroValue109
  g3 := by kernel_rfl
  g4 := by kernel_rfl }
def Tryd.lays160_ren : Go.Shelf.Ren := ⟨fun | 160 => 114 | 232 => 156 | 231 => 155 | 227 => 153 | 234 => 158 | 233 => 157 | 236 => 160 | 235 => 159 | 228 => 154 | 271 => 173 | 151 => 172 | 197 => 88 | 120 => 177 | 152 => 151 | 260 => 132 | 137 => 62 | 119 => 171 | 224 => 145 | 225 => 144 | 217 => 102 | 266 => 141 | n => n, fun | 9 => 9 | 4 => 4 | 3 => 3 | 5 => 5 | 117 => 168 | 116 => 167 | 0 => 0 | 124 => 172 | 21 => 21 | 105 => 122 | 46 => 92 | 119 => 106 | 139 => 109 | 138 => 108 | n => n, fun | 3 => 0 | 4 => 1 | n => n⟩
theorem Tryd.lays160 : Go.Proofs.Lays.n160 Tryd.prog Tryd.lays160_ren := {
  mixed := by kernel_rfl
  f119 := Tryd.func171.trans (congrArg some (by kernel_rfl))
  f120 := Tryd.func177.trans (congrArg some (by kernel_rfl))
  f137 := Tryd.func62.trans (congrArg some (by kernel_rfl))
  f151 := Tryd.func172.trans (congrArg some (by kernel_rfl))
  f152 := Tryd.func151.trans (congrArg some (by kernel_rfl))
  f160 := Tryd.func114.trans (congrArg some (by kernel_rfl))
  f197 := Tryd.func88.trans (congrArg some (by kernel_rfl))
  f217 := Tryd.func102.trans (congrArg some (by kernel_rfl))
  f224 := Tryd.func145.trans (congrArg some (by kernel_rfl))
  f225 := Tryd.func144.trans (congrArg some (by kernel_rfl))
  f227 := Tryd.func153.trans (congrArg some (by kernel_rfl))
  f228 := Tryd.func154.trans (congrArg some (by kernel_rfl))
  f231 := Tryd.func155.trans (congrArg some (by kernel_rfl))
  f232 := Tryd.func156.trans (congrArg some (by kernel_rfl))
  f233 := Tryd.func157.trans (congrArg some (by kernel_rfl))
  f234 := Tryd.func158.trans (congrArg some (by kernel_rfl))
  f235 := Tryd.func159.trans (congrArg some (by kernel_rfl))
  f236 := Tryd.func160.trans (congrArg some (by kernel_rfl))
  f260 := Tryd.func132.trans (congrArg some (by kernel_rfl))
  f266 := Tryd.func141.trans (congrArg some (by kernel_rfl))
  f271 := Tryd.func173.trans (congrArg some (by kernel_rfl))
  t0 := Tryd.underlying0
  a0 := Tryd.isAgg0
  z0 := Tryd.sizeOf0
  v0 := Tryd.zeroValue0
  t3 := Tryd.underlying3
  a3 := Tryd.isAgg3
  z3 := Tryd.sizeOf3
  v3 := Tryd.zeroValue3
  t4 := Tryd.underlying4
  a4 := Tryd.isAgg4
  z4 := Tryd.sizeOf4
  v4 := Tryd.zeroValue4
  t5 := Tryd.underlying5
  a5 := Tryd.isAgg5
  z5 := Tryd.sizeOf5
  v5 := Tryd.zeroValue5
  t9 := Tryd.underlying9
  a9 := Tryd.isAgg9
  z9 := Tryd.sizeOf9
  v9 := Tryd.zeroValue9
  t21 := Tryd.underlying21
  a21 := Tryd.isAgg21
  z21 := Tryd.sizeOf21
  v21 := Tryd.zeroValue21
  t46 := Tryd.underlying92
  a46 := Tryd.isAgg92
  z46 := Tryd.sizeOf92
  v46 := Tryd.zeroValue92
  t105 := Tryd.underlying122
  a105 := Tryd.isAgg122
  z105 := Tryd.sizeOf122
  v105 := Tryd.zeroValue122
  t116 := Tryd.underlying167
  a116 := Tryd.isAgg167
  z116 := Tryd.sizeOf167
  t117 := Tryd.underlying168
  a117 := Tryd.isAgg168
  z117 := Tryd.sizeOf168
  v117 := Tryd.zeroValue168
  t119 := Tryd.underlying106
  a119 := Tryd.isAgg106
  z119 := Tryd.sizeOf106
  t124 := Tryd.underlying172
  a124 := Tryd.isAgg172
  z124 := Tryd.sizeOf172
  v124 := Tryd.zeroValue172
  t138 := Tryd.underlying108
  a138 := Tryd.isAgg108
  z138 := Tryd.sizeOf108
  v138 := Tryd.zeroValue108
  t139 := Tryd.underlying109
  a139 := Tryd.isAgg109
  z139 := Tryd.sizeOf109
  v139 := Tryd.zeroValue109
  g3 := by kernel_rfl
  g4 := by kernel_rfl }
open Go.RowKit in
theorem Tryd.Builder_String_any_f (B b : Nat) (l : List UInt8) (w : World) (h : Lib.IsBuilderF 56 5 B b (Lib.byteCells l) w) (hBw : B ≤ w.heap.size) :
    Calls Tryd.prog 30 #[.pointer (some ⟨b, 0, none⟩)] w fun e w' => e = .returned (.string ⟨l.toArray⟩) ∧ (Lib.IsBuilderF 56 5 B b (Lib.byteCells l) w' ∧ Below B w w') := Any.Builder_String_any_f Tryd.lays169 Tryd.Builder_Extra_169 B b l w h hBw
def Tryd.lays146_ren : Go.Shelf.Ren := ⟨fun | 146 => 27 | 221 => 55 | 268 => 95 | 138 => 96 | 143 => 69 | 195 => 137 | 197 => 88 | 218 => 138 | 219 => 105 | 260 => 132 | 217 => 102 | 225 => 144 | 224 => 145 | 267 => 146 | 266 => 141 | 314 => 169 | n => n, fun | 9 => 9 | 31 => 59 | 3 => 3 | 4 => 4 | 0 => 0 | 105 => 122 | 21 => 21 | 5 => 5 | 46 => 92 | 119 => 106 | 139 => 109 | 138 => 108 | 146 => 130 | 51 => 129 | n => n, fun | 1 => 2 | 3 => 0 | 4 => 1 | n => n⟩
theorem Tryd.lays146 : Go.Proofs.Lays.n146 Tryd.prog Tryd.lays146_ren := {
  mixed := by kernel_rfl
  f138 := Tryd.func96.trans (congrArg some (by kernel_rfl))
  f143 := Tryd.func69.trans (congrArg some (by kernel_rfl))
  f146 := Tryd.func27.trans (congrArg some (by kernel_rfl))
  f195 := Tryd.func137.trans (congrArg some (by kernel_rfl))
  f197 := Tryd.func88.trans (congrArg some (by kernel_rfl))
  f217 := Tryd.func102.trans (congrArg some (by kernel_rfl))
  f218 := Tryd.func138.trans (congrArg some (by kernel_rfl))
  f219 := Tryd.func105.trans (congrArg some (by kernel_rfl))
  f221 := Tryd.func55.trans (congrArg some (by kernel_rfl))
  f224 := Tryd.func145.trans (congrArg some (by kernel_rfl))
  f225 := Tryd.func144.trans (congrArg some (by kernel_rfl))
  f260 := Tryd.func132.trans (congrArg some (by kernel_rfl))
  f266 := Tryd.func141.trans (congrArg some (by kernel_rfl))
  f267 := Tryd.func146.trans (congrArg some (by kernel_rfl))
  f268 := Tryd.func95.trans (congrArg some (by kernel_rfl))
  f314 := Tryd.func169.trans (congrArg some (by kernel_rfl))
  t0 := Tryd.underlying0
  a0 := Tryd.isAgg0
  z0 := Tryd.sizeOf0
  v0 := Tryd.zeroValue0
  t3 := Tryd.underlying3
  a3 := Tryd.isAgg3
  z3 := Tryd.sizeOf3
  v3 := Tryd.zeroValue3
  t4 := Tryd.underlying4
  a4 := Tryd.isAgg4
  z4 := Tryd.sizeOf4
  v4 := Tryd.zeroValue4
  t5 := Tryd.underlying5
  a5 := Tryd.isAgg5
  z5 := Tryd.sizeOf5
  v5 := Tryd.zeroValue5
  t9 := Tryd.underlying9
  a9 := Tryd.isAgg9
  z9 := Tryd.sizeOf9
  v9 := Tryd.zeroValue9
  t21 := Tryd.underlying21
  a21 := Tryd.isAgg21
  z21 := Tryd.sizeOf21
  v21 := Tryd.zeroValue21
  t31 := Tryd.underlying59
  a31 := Tryd.isAgg59
  z31 := Tryd.sizeOf59
  v31 := Tryd.zeroValue59
  t46 := Tryd.underlying92
  a46 := Tryd.isAgg92
  z46 := Tryd.sizeOf92
  v46 := Tryd.zeroValue92
  t51 := Tryd.underlying129
  a51 := Tryd.isAgg129
  z51 := Tryd.sizeOf129
  v51 := Tryd.zeroValue129
  t105 := Tryd.underlying122
  a105 := Tryd.isAgg122
  z105 := Tryd.sizeOf122
  v105 := Tryd.zeroValue122
  t119 := Tryd.underlying106
  a119 := Tryd.isAgg106
  z119 := Tryd.sizeOf106
  t138 := Tryd.underlying108
  a138 := Tryd.isAgg108
  z138 := Tryd.sizeOf108
  v138 := Tryd.zeroValue108
  t139 := Tryd.underlying109
  a139 := Tryd.isAgg109
  z139 := Tryd.sizeOf109
  v139 := Tryd.zeroValue109
  t146 := Tryd.underlying130
  a146 := Tryd.isAgg130
  z146 := Tryd.sizeOf130
  v146 := Tryd.zeroValue130
  g1 := by kernel_rfl
  g3 := by kernel_rfl
  g4 := by kernel_rfl }
open Go.RowKit Go.Lib in
theorem Tryd.strings_Split (s sep : ByteArray) (m : Int) (w : World) (hs : s.size < 4294967281) (hm : w.cell? ⟨2, 0, none⟩ = some (.int .i64 m)) (h1 : 1 ≤ sep.size) :
    Calls Tryd.prog 27 #[.string s, .string sep] w fun e w' =>
      e = .returned (.slice (some ⟨w.heap.size, 0, none⟩) (Lib.countB s sep + 1) (Lib.countB s sep + 1)) ∧ w' = w.alloc (.cells ((Lib.splitB sep 0 (Lib.countB s sep) s).map Value.string).toArray 9) := Any.strings_Split Tryd.lays146 (by kernel_rfl) s sep m w hs hm h1
def Tryd.laysM146_ren : Go.Shelf.Ren := ⟨fun | 146 => 27 | 221 => 55 | 268 => 95 | 138 => 96 | 143 => 69 | 195 => 137 | 197 => 88 | 218 => 138 | 219 => 105 | 260 => 132 | 217 => 102 | 225 => 144 | 224 => 145 | 267 => 146 | 266 => 141 | 314 => 169 | n => n, fun | 9 => 9 | 31 => 59 | 3 => 3 | 4 => 4 | 0 => 0 | 105 => 122 | 21 => 21 | 5 => 5 | 46 => 92 | 119 => 106 | 139 => 109 | 138 => 108 | 146 => 130 | 51 => 129 | n => n, fun | 1 => 2 | 3 => 0 | 4 => 1 | n => n⟩
theorem Tryd.laysM146 : Go.Proofs.LaysM.n146 Tryd.prog Tryd.laysM146_ren := {
  mixed := by kernel_rfl
  f138 := Tryd.func96.trans (congrArg some (by kernel_rfl))
  f143 := Tryd.func69.trans (congrArg some (by kernel_rfl))
  f146 := Tryd.func27.trans (congrArg some (by kernel_rfl))
  f195 := Tryd.func137.trans (congrArg some (by kernel_rfl))
  f197 := Tryd.func88.trans (congrArg some (by kernel_rfl))
  f217 := Tryd.func102.trans (congrArg some (by kernel_rfl))
  f218 := Tryd.func138.trans (congrArg some (by kernel_rfl))
  f219 := Tryd.func105.trans (congrArg some (by kernel_rfl))
  f221 := Tryd.func55.trans (congrArg some (by kernel_rfl))
  f224 := Tryd.func145.trans (congrArg some (by kernel_rfl))
  f225 := Tryd.func144.trans (congrArg some (by kernel_rfl))
  f260 := Tryd.func132.trans (congrArg some (by kernel_rfl))
  f266 := Tryd.func141.trans (congrArg some (by kernel_rfl))
  f267 := Tryd.func146.trans (congrArg some (by kernel_rfl))
  f268 := Tryd.func95.trans (congrArg some (by kernel_rfl))
  f314 := Tryd.func169.trans (congrArg some (by kernel_rfl))
  t0 := Tryd.underlying0
  a0 := Tryd.isAgg0
  z0 := Tryd.sizeOf0
  v0 := Tryd.zeroValue0
  t3 := Tryd.underlying3
  a3 := Tryd.isAgg3
  z3 := Tryd.sizeOf3
  v3 := Tryd.zeroValue3
  t4 := Tryd.underlying4
  a4 := Tryd.isAgg4
  z4 := Tryd.sizeOf4
  v4 := Tryd.zeroValue4
  t5 := Tryd.underlying5
  a5 := Tryd.isAgg5
  z5 := Tryd.sizeOf5
  v5 := Tryd.zeroValue5
  t9 := Tryd.underlying9
  a9 := Tryd.isAgg9
  z9 := Tryd.sizeOf9
  v9 := Tryd.zeroValue9
  t21 := Tryd.underlying21
  a21 := Tryd.isAgg21
  z21 := Tryd.sizeOf21
  v21 := Tryd.zeroValue21
  t31 := Tryd.underlying59
  a31 := Tryd.isAgg59
  z31 := Tryd.sizeOf59
  v31 := Tryd.zeroValue59
  t46 := Tryd.underlying92
  a46 := Tryd.isAgg92
  z46 := Tryd.sizeOf92
  v46 := Tryd.zeroValue92
  t51 := Tryd.underlying129
  a51 := Tryd.isAgg129
  z51 := Tryd.sizeOf129
  v51 := Tryd.zeroValue129
  t105 := Tryd.underlying122
  a105 := Tryd.isAgg122
  z105 := Tryd.sizeOf122
  v105 := Tryd.zeroValue122
  t119 := Tryd.underlying106
  a119 := Tryd.isAgg106
  z119 := Tryd.sizeOf106
  t138 := Tryd.underlying108
  a138 := Tryd.isAgg108
  z138 := Tryd.sizeOf108
  v138 := Tryd.zeroValue108
  t139 := Tryd.underlying109
  a139 := Tryd.isAgg109
  z139 := Tryd.sizeOf109
  v139 := Tryd.zeroValue109
  t146 := Tryd.underlying130
  a146 := Tryd.isAgg130
  z146 := Tryd.sizeOf130
  v146 := Tryd.zeroValue130
  g1 := by kernel_rfl
  g3 := by kernel_rfl
  g4 := by kernel_rfl
  i0 := by kernel_rfl
  i3 := by kernel_rfl
  i4 := by kernel_rfl
  i5 := by kernel_rfl
  i9 := by kernel_rfl
  i21 := by kernel_rfl
  i31 := by kernel_rfl
  i46 := by kernel_rfl
  i51 := by kernel_rfl
  i105 := by kernel_rfl
  i138 := by kernel_rfl
  i139 := by kernel_rfl
  i146 := by kernel_rfl
  m1 := by kernel_rfl
  s1_3 := fun w h => Go.Proofs.cell_of_shapedOpen_int (zero := #[.int .i64 0]) (t := 3) h (of_decide_eq_true (by kernel_rfl)) (by kernel_rfl) rfl (by kernel_rfl) (by kernel_rfl) Tryd.underlying3
  m3 := by kernel_rfl
  m4 := by kernel_rfl }
def Tryd.lays153_ren : Go.Shelf.Ren := ⟨fun | 153 => 113 | 152 => 151 | 226 => 152 | 227 => 153 | 228 => 154 | 137 => 62 | 119 => 171 | 224 => 145 | 225 => 144 | 217 => 102 | 266 => 141 | n => n, fun | 9 => 9 | 3 => 3 | 4 => 4 | 5 => 5 | 21 => 21 | 117 => 168 | 116 => 167 | 0 => 0 | 46 => 92 | 124 => 172 | n => n, fun | n => n⟩
theorem Tryd.lays153 : Go.Proofs.Lays.n153 Tryd.prog Tryd.lays153_ren := {
  mixed := by kernel_rfl
  f119 := Tryd.func171.trans (congrArg some (by kernel_rfl))
  f137 := Tryd.func62.trans (congrArg some (by kernel_rfl))
  f152 := Tryd.func151.trans (congrArg some (by kernel_rfl))
  f153 := Tryd.func113.trans (congrArg some (by kernel_rfl))
  f217 := Tryd.func102.trans (congrArg some (by kernel_rfl))
  f224 := Tryd.func145.trans (congrArg some (by kernel_rfl))
  f225 := Tryd.func144.trans (congrArg some (by kernel_rfl))
  f226 := Tryd.func152.trans (congrArg some (by kernel_rfl))
  f227 := Tryd.func153.trans (congrArg some (by kernel_rfl))
  f228 := Tryd.func154.trans (congrArg some (by kernel_rfl))
  f266 := Tryd.func141.trans (congrArg some (by kernel_rfl))
  t0 := Tryd.underlying0
  a0 := Tryd.isAgg0
  z0 := Tryd.sizeOf0
  v0 := Tryd.zeroValue0
  t3 := Tryd.underlying3
  a3 := Tryd.isAgg3
  z3 := Tryd.sizeOf3
  v3 := Tryd.zeroValue3
  t4 := Tryd.underlying4
  a4 := Tryd.isAgg4
  z4 := Tryd.sizeOf4
  v4 := Tryd.zeroValue4
  t5 := Tryd.underlying5
  a5 := Tryd.isAgg5
  z5 := Tryd.sizeOf5
  v5 := Tryd.zeroValue5
  t9 := Tryd.underlying9
  a9 := Tryd.isAgg9
  z9 := Tryd.sizeOf9
  v9 := Tryd.zeroValue9
  t21 := Tryd.underlying21
  a21 := Tryd.isAgg21
  z21 := Tryd.sizeOf21
  v21 := Tryd.zeroValue21
  t46 := Tryd.underlying92
  a46 := Tryd.isAgg92
  z46 := Tryd.sizeOf92
  v46 := Tryd.zeroValue92
  t116 := Tryd.underlying167
  a116 := Tryd.isAgg167
  z116 := Tryd.sizeOf167
  t117 := Tryd.underlying168
  a117 := Tryd.isAgg168
  z117 := Tryd.sizeOf168
  v117 := Tryd.zeroValue168
  t124 := Tryd.underlying172
  a124 := Tryd.isAgg172
  z124 := Tryd.sizeOf172
  v124 := Tryd.zeroValue172 }
open Go.RowKit Go.Lib in
theorem Tryd.strings_IndexAny_laid (s chars : ByteArray) (w : World) (hs : s.size < 4294967281) (hcs : chars.size < 4294967281) (has : ∀ (j : Nat) b, s.data.toList[j]? = some b → b.toNat < 128) (hac : ∀ (j : Nat) b, chars.data.toList[j]? = some b → b.toNat < 128) :
    Calls Tryd.prog 113 #[.string s, .string chars] w fun e w' => e = .returned (.int .i64 (Lib.indexAny s.data.toList chars.data.toList)) ∧ Below w.heap.size w w' := Any.strings_IndexAny_laid Tryd.lays153 (by kernel_rfl) s chars w hs hcs has hac
def Tryd.lays260_ren : Go.Shelf.Ren := ⟨fun | 260 => 132 | n => n, fun | 9 => 9 | 21 => 21 | 3 => 3 | 4 => 4 | 5 => 5 | 119 => 106 | 0 => 0 | 46 => 92 | 139 => 109 | 138 => 108 | n => n, fun | 3 => 0 | 4 => 1 | n => n⟩
theorem Tryd.lays260 : Go.Proofs.Lays.n260 Tryd.prog Tryd.lays260_ren := {
  mixed := by kernel_rfl
  f260 := Tryd.func132.trans (congrArg some (by kernel_rfl))
  t0 := Tryd.underlying0
  a0 := Tryd.isAgg0
  z0 := Tryd.sizeOf0
  v0 := Tryd.zeroValue0
  t3 := Tryd.underlying3
  a3 := Tryd.isAgg3
  z3 := Tryd.sizeOf3
  v3 := Tryd.zeroValue3
  t4 := Tryd.underlying4
  a4 := Tryd.isAgg4
  z4 := Tryd.sizeOf4
  v4 := Tryd.zeroValue4
  t5 := Tryd.underlying5
  a5 := Tryd.isAgg5
  z5 := Tryd.sizeOf5
  v5 := Tryd.zeroValue5
  t9 := Tryd.underlying9
  a9 := Tryd.isAgg9
  z9 := Tryd.sizeOf9
  v9 := Tryd.zeroValue9
  t21 := Tryd.underlying21
  a21 := Tryd.isAgg21
  z21 := Tryd.sizeOf21
  v21 := Tryd.zeroValue21
  t46 := Tryd.underlying92
  a46 := Tryd.isAgg92
  z46 := Tryd.sizeOf92
  v46 := Tryd.zeroValue92
  t119 := Tryd.underlying106
  a119 := Tryd.isAgg106
  z119 := Tryd.sizeOf106
  t138 := Tryd.underlying108
  a138 := Tryd.isAgg108
  z138 := Tryd.sizeOf108
  v138 := Tryd.zeroValue108
  t139 := Tryd.underlying109
  a139 := Tryd.isAgg109
  z139 := Tryd.sizeOf109
  v139 := Tryd.zeroValue109
  g3 := by kernel_rfl
  g4 := by kernel_rfl }
def Tryd.laysx196_ren : Go.Shelf.Ren := ⟨fun | 196 => 35 | 259 => 68 | n => n, fun | 9 => 9 | 4 => 4 | 3 => 3 | 5 => 5 | 12 => 12 | 119 => 106 | 0 => 0 | 46 => 92 | 139 => 109 | 138 => 108 | 53 => 132 | n => n, fun | 3 => 0 | 4 => 1 | n => n⟩
theorem Tryd.laysx196 : Go.Proofs.Lays.n196 Tryd.prog Tryd.laysx196_ren := {
  mixed := by kernel_rfl
  f196 := Tryd.func35.trans (congrArg some (by kernel_rfl))
  f259 := Tryd.func68.trans (congrArg some (by kernel_rfl))
  t0 := Tryd.underlying0
  a0 := Tryd.isAgg0
  z0 := Tryd.sizeOf0
  v0 := Tryd.zeroValue0
  t3 := Tryd.underlying3
  a3 := Tryd.isAgg3
  z3 := Tryd.sizeOf3
  v3 := Tryd.zeroValue3
  t4 := Tryd.underlying4
  a4 := Tryd.isAgg4
  z4 := Tryd.sizeOf4
  v4 := Tryd.zeroValue4
  t5 := Tryd.underlying5
  a5 := Tryd.isAgg5
  z5 := Tryd.sizeOf5
  v5 := Tryd.zeroValue5
  t9 := Tryd.underlying9
  a9 := Tryd.isAgg9
  z9 := Tryd.sizeOf9
  v9 := Tryd.zeroValue9
  t12 := Tryd.underlying12
  a12 := Tryd.isAgg12
  z12 := Tryd.sizeOf12
  v12 := Tryd.zeroValue12
  t46 := Tryd.underlying92
  a46 := Tryd.isAgg92
  z46 := Tryd.sizeOf92
  v46 := Tryd.zeroValue92
  t53 := Tryd.underlying132
  a53 := Tryd.isAgg132
  z53 := Tryd.sizeOf132
  v53 := Tryd.zeroValue132
  t119 := Tryd.underlying106
  a119 := Tryd.isAgg106
  z119 := Tryd.sizeOf106
  t138 := Tryd.underlying108
  a138 := Tryd.isAgg108
  z138 := Tryd.sizeOf108
  v138 := Tryd.zeroValue108
  t139 := Tryd.underlying109
  a139 := Tryd.isAgg109
  z139 := Tryd.sizeOf109
  v139 := Tryd.zeroValue109
  g3 := by kernel_rfl
  g4 := by kernel_rfl }
end Go.Proofs
namespace Go.Proofs.YtipmphgkdomebaaDoorW.PrintWords
open Go.RowKit
namespace Kd
section
variable {α : Type} {d : Kd α} {e base g o n cap : Nat} {ok okp : Nat → Prop} {w W : World} {v : Value} {xs : List α}
end
section
variable {α : Type} {enc : α → Value} {h1 : ∀ x, (enc x).oneCell' = true} {e base g o n cap : Nat} {ok : Nat → Prop} {W : World} {xs : List α}
end
end Kd
end Go.Proofs.YtipmphgkdomebaaDoorW.PrintWords
namespace Go.Proofs.YtipmphgkdomebaaDoorW.PrintWords
open Go.RowKit
namespace Kd
section
variable {α : Type} {d : Kd α} {e base n cap g : Nat} {ok ok' okp : Nat → Prop} {w w1 W : World} {v v1 : Value} {xs ys : List α}
end
section
variable {P : Program} {ops : Array Oper} {rest : List Oper} {o : Oper} {a : Act} {Q : Exit → Act → World → Prop} {Kc : Act → World → Prop} {α : Type}
end
end Kd
end Go.Proofs.YtipmphgkdomebaaDoorW.PrintWords
namespace Go.Proofs.YtipmphgkdomebaaDoorW.PrintMore
open Go.RowKit Go.Proofs.YtipmphgkdomebaaDoorW.PrintWords
namespace Kd
open Go.Proofs.YtipmphgkdomebaaDoorW.PrintWords.Kd
end Kd
namespace Kd
open Go.Proofs.YtipmphgkdomebaaDoorW.PrintWords.Kd
section
variable {α : Type} {d : Kd α} {e base g N : Nat} {ok : Nat → Prop} {W w1 : World} {u v : Value} {xs : List α}
end
end Kd
theorem max2_int (k k' : IntKind) (x y : Int) : Builtin.max2 (.int k x) (.int k' y) = pure (.int k (if x < y then y else x)) := by simp only [Builtin.max2, gt_iff_lt]
theorem min2_int (k k' : IntKind) (x y : Int) : Builtin.min2 (.int k x) (.int k' y) = pure (.int k (if y < x then y else x)) := by simp only [Builtin.min2]
theorem max_two (ats : Array TypeId) (ty : TypeId) (a b : Value) : Builtin.max_ ats ty #[a, b] = (Builtin.max2 a b >>= fun s => pure s) := by simp only [Builtin.max_, List.foldlM_cons, List.foldlM_nil]
theorem min_two (ats : Array TypeId) (ty : TypeId) (a b : Value) : Builtin.min_ ats ty #[a, b] = (Builtin.min2 a b >>= fun s => pure s) := by simp only [Builtin.min_, List.foldlM_cons, List.foldlM_nil]
theorem max_three (ats : Array TypeId) (ty : TypeId) (a b c : Value) : Builtin.max_ ats ty #[a, b, c] = (Builtin.max2 a b >>= fun s => Builtin.max2 s c >>= fun s => pure s) := by simp only [Builtin.max_, List.foldlM_cons, List.foldlM_nil]
theorem min_three (ats : Array TypeId) (ty : TypeId) (a b c : Value) : Builtin.min_ ats ty #[a, b, c] = (Builtin.min2 a b >>= fun s => Builtin.min2 s c >>= fun s => pure s) := by simp only [Builtin.min_, List.foldlM_cons, List.foldlM_nil]
theorem max_four (ats : Array TypeId) (ty : TypeId) (a b c d : Value) : Builtin.max_ ats ty #[a, b, c, d] = (Builtin.max2 a b >>= fun s => Builtin.max2 s c >>= fun s => Builtin.max2 s d >>= fun s => pure s) := by simp only [Builtin.max_, List.foldlM_cons, List.foldlM_nil]
theorem min_four (ats : Array TypeId) (ty : TypeId) (a b c d : Value) : Builtin.min_ ats ty #[a, b, c, d] = (Builtin.min2 a b >>= fun s => Builtin.min2 s c >>= fun s => Builtin.min2 s d >>= fun s => pure s) := by simp only [Builtin.min_, List.foldlM_cons, List.foldlM_nil]
end Go.Proofs.YtipmphgkdomebaaDoorW.PrintMore
namespace Go.Proofs.YtipmphgkdomebaaDoorW.PrintWords
open Go.RowKit
section
variable {P : Program} {ops : Array Oper} {rest : List Oper} {o : Oper} {a : Act} {Q : Exit → Act → World → Prop} {W : World}
theorem gate_callee {f : FuncId} {ags : Array Operand} {ts : Array TypeId} (_ho : o.op = .call { callee := .value (.func f), args := ags, argTypes := ts }) (h : wpList P ops Q (o :: rest) a W) : wpList P ops Q (o :: rest) a W := h
end
namespace Kd
section
variable {α : Type} {d : Kd α} {e base : Nat} {ok : Nat → Prop} {W w1 : World} {v : Value} {xs : List α}
end
section
variable {α : Type} {d : Kd α} {e base g n cap : Nat} {ok oki okp : Nat → Prop} {W : World} {xs : List α} {i : Int} {c : List Value}
end
section
variable {α : Type} {d : Kd α} {e base b b' g N : Nat} {ok ok1 : Nat → Prop} {W W2 w1 : World} {u v : Value} {xs ys : List α} {S : Nat → Prop}
end
end Kd
end Go.Proofs.YtipmphgkdomebaaDoorW.PrintWords
namespace Go.Proofs.YtipmphgkdomebaaDoorW.PrintWords
open Go.RowKit
namespace Kd
def V {α : Type} (d : Kd α) (_e : Nat) (W : World) (_base : Nat) (ok : Nat → Prop) (v : Value) (xs : List α) : Prop := ∃ A c, v = .slice A xs.length c ∧ xs.length ≤ c ∧ F d W ok A xs.length xs
section
variable {α β : Type} {d : Kd α} {e base base' n m c g N' lo hi : Nat} {ok ok' S : Nat → Prop} {w W w1 : World} {A : Option Addr} {ad : Addr} {u v v1 : Value} {xs : List α}
end
end Kd
end Go.Proofs.YtipmphgkdomebaaDoorW.PrintWords
namespace Go.Proofs.YtipmphgkdomebaaDoor.G
open Go.RowKit Go.Proofs.YtipmphgkdomebaaDoor Go.Proofs.YtipmphgkdomebaaDoorW.PrintWords
set_option linter.unusedVariables false
def Tab_ (w : World) : Prop := ∃ m, w.cell? ⟨2, 0, none⟩ = some (.int .i64 m)
theorem Tab_.step {w W : World} (h : Tab_ w) (b : Below w.heap.size w W) : Tab_ W := by
  obtain ⟨m, h⟩ := h
  exact ⟨m, (b.cell (p := ⟨2, 0, none⟩) (World.block_lt_of_cell? _ _ h)).trans h⟩
def asciiB (c : ByteArray) : Bool := c.data.toList.all fun b => decide (b.toNat < 128)
theorem ascii_at {c : ByteArray} (h : asciiB c = true) : ∀ (j : Nat) b, c.data.toList[j]? = some b → b.toNat < 128 := fun j b hb => by
  have := List.all_eq_true.1 h b (List.mem_of_getElem? hb)
  simpa using this
def strings_Trim.f (s c : ByteArray) : Option ByteArray := if s.size ≤ 4611686018427387904 ∧ c.size < 1000 ∧ asciiB c = true then some ⟨(Lib.trimS s.data.toList c.data.toList).toArray⟩ else none
theorem strings_Trim.calls (s c r : ByteArray) (w : World) (h : strings_Trim.f s c = some r) :
    Calls Tryd.prog 114 #[.string s, .string c] w fun e w' => e = .returned (.string r) ∧ Below w.heap.size w w' := by
  unfold strings_Trim.f at h
  by_cases hs : s.size ≤ 4611686018427387904 ∧ c.size < 1000 ∧ asciiB c = true
  · rw [if_pos hs] at h
    obtain rfl := Option.some.inj h
    exact Any.strings_Trim_laid Tryd.lays160 (by kernel_rfl) s c w (by omega) (by omega) (ascii_at hs.2.2)
  · rw [if_neg hs] at h
    exact absurd h (by simp)
def strings_TrimLeft.f (s c : ByteArray) : Option ByteArray := if c.size < 1000 ∧ asciiB c = true then some ⟨(Lib.trimLeftS s.data.toList c.data.toList).toArray⟩ else none
theorem strings_TrimLeft.calls (s c r : ByteArray) (w : World) (h : strings_TrimLeft.f s c = some r) :
    Calls Tryd.prog 115 #[.string s, .string c] w fun e w' => e = .returned (.string r) ∧ Below w.heap.size w w' := by
  unfold strings_TrimLeft.f at h
  by_cases hs : c.size < 1000 ∧ asciiB c = true
  · rw [if_pos hs] at h
    obtain rfl := Option.some.inj h
    exact Any.strings_TrimLeft_laid Tryd.lays161 (by kernel_rfl) s c w (by omega) (ascii_at hs.2)
  · rw [if_neg hs] at h
    exact absurd h (by simp)
def strings_Split.f (s p : ByteArray) : Option (List ByteArray) := if s.size < 4294967281 ∧ 1 ≤ p.size then some (Lib.splitB p 0 (Lib.countB s p) s) else none
theorem strings_Split.calls (s p : ByteArray) (r : List ByteArray) (w : World) (h : strings_Split.f s p = some r) (HT0_ : Tab_ w := by exact Tab_.step HT0_ (by repeat (first | (with_reducible first | exact HB.out | apply below_alloc | apply pw_below_drewN | apply below_drew1 | refine below_set ?_ (Aside0.out (by assumption))) | exact HB.out))) :
    Calls Tryd.prog 27 #[.string s, .string p] w fun e w' => ∃ v, e = .returned v ∧ Kd.R Kd.string 9 w' w.heap.size (fun _ => True) v r ∧ Below w.heap.size w w' := by
  unfold strings_Split.f at h
  by_cases hs : s.size < 4294967281 ∧ 1 ≤ p.size
  · rw [if_pos hs] at h
    obtain rfl := Option.some.inj h
    obtain ⟨m, hm⟩ := HT0_
    have hc := Lib.countB_le p hs.2 s.size s (Nat.le_refl _)
    have hl := Lib.splitB_all p hs.2 0 (Lib.countB s p) s rfl
    refine (Tryd.strings_Split s p m w hs.1 hm hs.2).mono fun e w' ⟨he, hw⟩ => ⟨_, he, ?_, ?_⟩
    · refine Kd.R_of_own ?_ (fun _ _ => trivial)
      rw [hw, hl]
      refine ⟨by simp [encs, hl], .inr ⟨w.heap.size, _, _, rfl, Nat.le_refl _, heap_alloc_new w _, Nat.le_refl _, by unfold maxLen; omega, by simp [hl], ?_⟩⟩
      simp [encs]
      exact List.take_of_length_le (by rw [List.length_map, hl]; exact Nat.le_refl _)
    · rw [hw]
      exact (Below.refl _ w).alloc (Nat.le_refl _) _
  · rw [if_neg hs] at h
    exact absurd h (by simp)
end Go.Proofs.YtipmphgkdomebaaDoor.G
namespace Go.Proofs.YtipmphgkdomebaaDoorW.PrintLast
section
variable {P : Program} {ops : Array Oper} {Q : Exit → Act → World → Prop} {md : Region.Mode} {S : World → Prop} {ds : List Nat} {T : Bool × List (List Nat × List Nat)}
end
end Go.Proofs.YtipmphgkdomebaaDoorW.PrintLast
namespace Go.Proofs.YtipmphgkdomebaaDoorW.PrintWords
open Go.RowKit
section
variable {w w' u : World} {m B g : Nat} {o : Obj} {row : Option Nat} {S : Nat → Prop} {a : Addr} {v : Value}
end
namespace Kd
section
variable {α : Type} {d : Kd α} {e base n m : Nat} {ok : Nat → Prop} {w w' : World} {v : Value} {A : Option Addr} {xs : List α}
end
end Kd
end Go.Proofs.YtipmphgkdomebaaDoorW.PrintWords
namespace Go.Proofs.YtipmphgkdomebaaDoorW.PrintWords
open Go.RowKit
section
variable {P : Program} {d : Nat} {xs ys : Array Value} {f : Field} {fs : List Field} {a b : Value} {r s : Bool} {w : World}
end
end Go.Proofs.YtipmphgkdomebaaDoorW.PrintWords
namespace Go.Proofs.YtipmphgkdomebaaDoorW.PrintWords
theorem Reps.one {α : Type} {R : α → List Value → Prop} {ps : List α} {cs : List Value} {p : α} {v : Value} (hp : R p [v]) (h : Reps R 1 ps cs) : Reps R 1 (p :: ps) (v :: cs) := by
  refine ⟨by simp [h.1], fun j q hq => ?_⟩
  cases j with
  | zero =>
    simp only [List.getElem?_cons_zero, Option.some.injEq] at hq
    subst hq
    simpa using hp
  | succ j =>
    simp only [List.getElem?_cons_succ] at hq
    have h1 := h.2 j q hq
    simpa [Nat.mul_one] using h1
theorem Reps.front {α : Type} {R : α → List Value → Prop} {size : Nat} {ps : List α} {cs c all : List Value} {p : α} (hp : R p c) (hc : c.length = size) (h : Reps R size ps cs) (ha : c ++ cs = all) : Reps R size (p :: ps) all := by
  subst ha
  refine ⟨by rw [List.length_append, hc, h.1, List.length_cons, Nat.succ_mul, Nat.add_comm], fun j q hq => ?_⟩
  cases j with
  | zero =>
    simp only [List.getElem?_cons_zero, Option.some.injEq] at hq
    subst hq
    rw [Nat.zero_mul, List.drop_zero, List.take_append_of_le_length (by omega), List.take_of_length_le (by omega)]
    exact hp
  | succ j =>
    simp only [List.getElem?_cons_succ] at hq
    have h1 := h.2 j q hq
    rw [Nat.succ_mul, List.drop_append, List.drop_of_length_le (by rw [hc]; exact Nat.le_add_left _ _), List.nil_append, hc, Nat.add_sub_cancel]
    exact h1
theorem Reps.c2 {α : Type} {R : α → List Value → Prop} {ps : List α} {cs : List Value} {p : α} {va vb : Value} (hp : R p [va, vb]) (h : Reps R 2 ps cs) : Reps R 2 (p :: ps) (va :: vb :: cs) := Reps.front hp rfl h rfl
theorem Reps.c3 {α : Type} {R : α → List Value → Prop} {ps : List α} {cs : List Value} {p : α} {va vb vc : Value} (hp : R p [va, vb, vc]) (h : Reps R 3 ps cs) : Reps R 3 (p :: ps) (va :: vb :: vc :: cs) := Reps.front hp rfl h rfl
theorem Reps.c4 {α : Type} {R : α → List Value → Prop} {ps : List α} {cs : List Value} {p : α} {va vb vc vd : Value} (hp : R p [va, vb, vc, vd]) (h : Reps R 4 ps cs) : Reps R 4 (p :: ps) (va :: vb :: vc :: vd :: cs) := Reps.front hp rfl h rfl
theorem Reps.c5 {α : Type} {R : α → List Value → Prop} {ps : List α} {cs : List Value} {p : α} {va vb vc vd ve : Value} (hp : R p [va, vb, vc, vd, ve]) (h : Reps R 5 ps cs) : Reps R 5 (p :: ps) (va :: vb :: vc :: vd :: ve :: cs) := Reps.front hp rfl h rfl
theorem Reps.c6 {α : Type} {R : α → List Value → Prop} {ps : List α} {cs : List Value} {p : α} {va vb vc vd ve vf : Value} (hp : R p [va, vb, vc, vd, ve, vf]) (h : Reps R 6 ps cs) : Reps R 6 (p :: ps) (va :: vb :: vc :: vd :: ve :: vf :: cs) := Reps.front hp rfl h rfl
theorem Reps.c7 {α : Type} {R : α → List Value → Prop} {ps : List α} {cs : List Value} {p : α} {va vb vc vd ve vf vg : Value} (hp : R p [va, vb, vc, vd, ve, vf, vg]) (h : Reps R 7 ps cs) : Reps R 7 (p :: ps) (va :: vb :: vc :: vd :: ve :: vf :: vg :: cs) := Reps.front hp rfl h rfl
theorem Reps.c9 {α : Type} {R : α → List Value → Prop} {ps : List α} {cs : List Value} {p : α} {va vb vc vd ve vf vg vh vi : Value} (hp : R p [va, vb, vc, vd, ve, vf, vg, vh, vi]) (h : Reps R 9 ps cs) : Reps R 9 (p :: ps) (va :: vb :: vc :: vd :: ve :: vf :: vg :: vh :: vi :: cs) := Reps.front hp rfl h rfl
theorem Reps.c10 {α : Type} {R : α → List Value → Prop} {ps : List α} {cs : List Value} {p : α} {va vb vc vd ve vf vg vh vi vj : Value} (hp : R p [va, vb, vc, vd, ve, vf, vg, vh, vi, vj]) (h : Reps R 10 ps cs) : Reps R 10 (p :: ps) (va :: vb :: vc :: vd :: ve :: vf :: vg :: vh :: vi :: vj :: cs) := Reps.front hp rfl h rfl
end Go.Proofs.YtipmphgkdomebaaDoorW.PrintWords
namespace Go.Proofs.YtipmphgkdomebaaDoorW.PrintWords
open Go.RowKit
section
variable {P : Program} {ops : Array Oper} {rest : List Oper} {o : Oper} {a : Act} {Q : Exit → Act → World → Prop} {W : World}
end
end Go.Proofs.YtipmphgkdomebaaDoorW.PrintWords
namespace Go.Proofs.YtipmphgkdomebaaDoor.K
open Go.RowKit Go.Proofs.YtipmphgkdomebaaDoor.G Go.Proofs.YtipmphgkdomebaaDoorW.PrintWords Go.Proofs.YtipmphgkdomebaaDoorW.PrintLast Go.Proofs.YtipmphgkdomebaaDoorW.PrintMore
attribute [local go_sem] max2_int min2_int max_two min_two max_three min_three max_four min_four
set_option linter.unusedVariables false
set_option linter.unusedSimpArgs false
def errW : Option Int → Value
  | none => .nilIface
  | some c => .iface 0 (.int .i64 c)
theorem errW_none : errW none = .nilIface := rfl
theorem errW_some (c : Int) : errW (some c) = .iface 0 (.int .i64 c) := rfl
end Go.Proofs.YtipmphgkdomebaaDoor.K
namespace Go.Proofs.YtipmphgkdomebaaDoor.K
open Go.RowKit Go.Proofs.YtipmphgkdomebaaDoor.G Go.Proofs.YtipmphgkdomebaaDoorW.PrintWords Go.Proofs.YtipmphgkdomebaaDoorW.PrintLast Go.Proofs.YtipmphgkdomebaaDoorW.PrintMore
attribute [local go_sem] max2_int min2_int max_two min_two max_three min_three max_four min_four
set_option linter.unusedVariables false
set_option linter.unusedSimpArgs false
def scan_at.f (a0 : ByteArray) (a1 : Int) : Option (Int) := if a1 < 0 then (some 0) else (if a1 ≥ (a0.size : Int) then (some 0) else (if 0 ≤ a1 then (if a1 < (a0.size : Int) then (some (bt a0 a1)) else (none)) else (none)))
set_option maxHeartbeats 8000000 in
set_option maxRecDepth 100000 in
theorem scan_at.calls (a0 : ByteArray) (a1 : Int) (r : Int) (w : World) (h : scan_at.f a0 a1 = some r) :
    Calls Tryd.prog 107 #[.string a0, .int .i64 a1] w fun e w' => e = .returned (.int .u8 r) ∧ Drawn0 w w' := by
  have H : (if a1 < 0 then (some 0) else (if a1 ≥ (a0.size : Int) then (some 0) else (if 0 ≤ a1 then (if a1 < (a0.size : Int) then (some (bt a0 a1)) else (none)) else (none)))) = some r := h
  clear h
  by_cases c3 : a1 < 0
  · rw [if_pos c3] at H
    have c3b0 : decide (a1 < 0) = true := decide_eq_true c3
    clear c3
    obtain rfl := Option.some.inj H
    go_enter Tryd.func107, Tryd.ntmps107
    go_wp2
    go_ret
    exact ⟨by first | rfl | (simp; done) | (simp [*]; done), by repeat (first | exact Drawn0.refl _ | apply Drawn0.step)⟩
  · rw [if_neg c3] at H
    have c3b0 : decide (a1 < 0) = false := decide_eq_false c3
    clear c3
    by_cases c4 : a1 ≥ (a0.size : Int)
    · rw [if_pos c4] at H
      have c4b0 : decide ((a0.size : Int) ≤ a1) = true := decide_eq_true c4
      clear c4
      obtain rfl := Option.some.inj H
      go_enter Tryd.func107, Tryd.ntmps107
      go_wp2
      go_ret
      exact ⟨by first | rfl | (simp; done) | (simp [*]; done), by repeat (first | exact Drawn0.refl _ | apply Drawn0.step)⟩
    · rw [if_neg c4] at H
      have c4b0 : decide ((a0.size : Int) ≤ a1) = false := decide_eq_false c4
      clear c4
      by_cases c5 : 0 ≤ a1
      · rw [if_pos c5] at H
        have c5b0 : decide (0 ≤ a1) = true := decide_eq_true c5
        clear c5
        by_cases c6 : a1 < (a0.size : Int)
        · rw [if_pos c6] at H
          have c6b0 : decide (a1 < (a0.size : Int)) = true := decide_eq_true c6
          clear c6
          obtain rfl := Option.some.inj H
          have p7 : 0 ≤ (a1 : Int) := of_decide_eq_true (by first | (with_reducible assumption) | assumption)
          have q7 : a1 < (a0.size : Int) := of_decide_eq_true (by first | (with_reducible assumption) | assumption)
          have hx7 := bt_at a0 a1
          replace p7 := eq_true p7
          replace q7 := eq_true q7
          go_enter Tryd.func107, Tryd.ntmps107
          go_wp2
          go_ret
          exact ⟨by first | rfl | (simp; done) | (simp [*]; done), by repeat (first | exact Drawn0.refl _ | apply Drawn0.step)⟩
        · rw [if_neg c6] at H
          exact absurd H (by simp)
      · rw [if_neg c5] at H
        exact absurd H (by simp)
def scan_letter.f (a0 : Int) : Option (Bool) := if a0 ≥ 97 then (if a0 ≤ 122 then (some true) else (if a0 ≥ 65 then (some (decide (a0 ≤ 90))) else (some false))) else (if a0 ≥ 65 then (some (decide (a0 ≤ 90))) else (some false))
set_option maxHeartbeats 8000000 in
set_option maxRecDepth 100000 in
theorem scan_letter.calls (a0 : Int) (r : Bool) (w : World) (h : scan_letter.f a0 = some r) :
    Calls Tryd.prog 106 #[.int .u8 a0] w fun e w' => e = .returned (.bool r) ∧ Drawn0 w w' := by
  have H : (if a0 ≥ 97 then (if a0 ≤ 122 then (some true) else (if a0 ≥ 65 then (some (decide (a0 ≤ 90))) else (some false))) else (if a0 ≥ 65 then (some (decide (a0 ≤ 90))) else (some false))) = some r := h
  clear h
  by_cases c2 : a0 ≥ 97
  · rw [if_pos c2] at H
    have c2b0 : decide (97 ≤ a0) = true := decide_eq_true c2
    clear c2
    by_cases c3 : a0 ≤ 122
    · rw [if_pos c3] at H
      have c3b0 : decide (a0 ≤ 122) = true := decide_eq_true c3
      clear c3
      obtain rfl := Option.some.inj H
      go_enter Tryd.func106, Tryd.ntmps106
      go_wp2
      go_ret
      exact ⟨by first | rfl | (simp; done) | (simp [*]; done), by repeat (first | exact Drawn0.refl _ | apply Drawn0.step)⟩
    · rw [if_neg c3] at H
      have c3b0 : decide (a0 ≤ 122) = false := decide_eq_false c3
      clear c3
      by_cases c4 : a0 ≥ 65
      · rw [if_pos c4] at H
        have c4b0 : decide (65 ≤ a0) = true := decide_eq_true c4
        clear c4
        obtain rfl := Option.some.inj H
        go_enter Tryd.func106, Tryd.ntmps106
        go_wp2
        go_ret
        exact ⟨by first | rfl | (simp; done) | (simp [*]; done), by repeat (first | exact Drawn0.refl _ | apply Drawn0.step)⟩
      · rw [if_neg c4] at H
        have c4b0 : decide (65 ≤ a0) = false := decide_eq_false c4
        clear c4
        obtain rfl := Option.some.inj H
        go_enter Tryd.func106, Tryd.ntmps106
        go_wp2
        go_ret
        exact ⟨by first | rfl | (simp; done) | (simp [*]; done), by repeat (first | exact Drawn0.refl _ | apply Drawn0.step)⟩
  · rw [if_neg c2] at H
    have c2b0 : decide (97 ≤ a0) = false := decide_eq_false c2
    clear c2
    by_cases c5 : a0 ≥ 65
    · rw [if_pos c5] at H
      have c5b0 : decide (65 ≤ a0) = true := decide_eq_true c5
      clear c5
      obtain rfl := Option.some.inj H
      go_enter Tryd.func106, Tryd.ntmps106
      go_wp2
      go_ret
      exact ⟨by first | rfl | (simp; done) | (simp [*]; done), by repeat (first | exact Drawn0.refl _ | apply Drawn0.step)⟩
    · rw [if_neg c5] at H
      have c5b0 : decide (65 ≤ a0) = false := decide_eq_false c5
      clear c5
      obtain rfl := Option.some.inj H
      go_enter Tryd.func106, Tryd.ntmps106
      go_wp2
      go_ret
      exact ⟨by first | rfl | (simp; done) | (simp [*]; done), by repeat (first | exact Drawn0.refl _ | apply Drawn0.step)⟩
def scan_digit.f (a0 : Int) : Option (Bool) := if a0 ≥ 48 then (some (decide (a0 ≤ 57))) else (some false)
set_option maxHeartbeats 8000000 in
set_option maxRecDepth 100000 in
theorem scan_digit.calls (a0 : Int) (r : Bool) (w : World) (h : scan_digit.f a0 = some r) :
    Calls Tryd.prog 109 #[.int .u8 a0] w fun e w' => e = .returned (.bool r) ∧ Drawn0 w w' := by
  have H : (if a0 ≥ 48 then (some (decide (a0 ≤ 57))) else (some false)) = some r := h
  clear h
  by_cases c2 : a0 ≥ 48
  · rw [if_pos c2] at H
    have c2b0 : decide (48 ≤ a0) = true := decide_eq_true c2
    clear c2
    obtain rfl := Option.some.inj H
    go_enter Tryd.func109, Tryd.ntmps109
    go_wp2
    go_ret
    exact ⟨by first | rfl | (simp; done) | (simp [*]; done), by repeat (first | exact Drawn0.refl _ | apply Drawn0.step)⟩
  · rw [if_neg c2] at H
    have c2b0 : decide (48 ≤ a0) = false := decide_eq_false c2
    clear c2
    obtain rfl := Option.some.inj H
    go_enter Tryd.func109, Tryd.ntmps109
    go_wp2
    go_ret
    exact ⟨by first | rfl | (simp; done) | (simp [*]; done), by repeat (first | exact Drawn0.refl _ | apply Drawn0.step)⟩
end Go.Proofs.YtipmphgkdomebaaDoor.K
namespace Go.Proofs.YtipmphgkdomebaaDoor
open Go.RowKit Go.Proofs.YtipmphgkdomebaaDoorW.PrintWords
set_option linter.unusedVariables false
set_option linter.unusedSimpArgs false
theorem drawn_below {w W : World} (h : Drawn0 w W) : Below w.heap.size w W := by
  obtain ⟨n, rfl⟩ := h
  exact pw_below_drewN (Below.refl _ w) n
def letB (c : Int) : Bool := (decide (97 ≤ c) && decide (c ≤ 122)) || (decide (65 ≤ c) && decide (c ≤ 90))
def dgtB (c : Int) : Bool := decide (48 ≤ c) && decide (c ≤ 57)
def nmB (c : Int) : Bool := letB c || (dgtB c || (c == 95 || c == 45))
def atV (s : ByteArray) (i : Int) : Int := if i < 0 then 0 else if i ≥ (s.size : Int) then 0 else bt s i
def nameI (s : ByteArray) (i : Int) : Int := if letB (atV s i) = true then whI nmB s i else i
def isNameB (s : ByteArray) : Bool := !(s.toList == []) && (nameI s 0 == (s.size : Int))
theorem letter_any (c : Int) (W : World) : Calls Tryd.prog 106 #[.int .u8 c] W fun e w' => e = .returned (.bool (letB c)) ∧ Below W.heap.size W w' := by
  refine (K.scan_letter.calls c (letB c) W ?_).mono fun e w' ⟨he, hd⟩ => ⟨he, drawn_below hd⟩
  unfold K.scan_letter.f letB
  by_cases h1 : 97 ≤ c
  · by_cases h2 : c ≤ 122
    · rw [if_pos h1, if_pos h2, decide_eq_true h1, decide_eq_true h2]; rfl
    · rw [if_pos h1, if_neg h2, decide_eq_false h2, Bool.and_false, Bool.false_or]
      by_cases h3 : 65 ≤ c
      · rw [if_pos h3, decide_eq_true h3, Bool.true_and]
      · rw [if_neg h3, decide_eq_false h3, Bool.false_and]
  · rw [if_neg h1, decide_eq_false h1, Bool.false_and, Bool.false_or]
    by_cases h3 : 65 ≤ c
    · rw [if_pos h3, decide_eq_true h3, Bool.true_and]
    · rw [if_neg h3, decide_eq_false h3, Bool.false_and]
theorem digit_any (c : Int) (W : World) : Calls Tryd.prog 109 #[.int .u8 c] W fun e w' => e = .returned (.bool (dgtB c)) ∧ Below W.heap.size W w' := by
  refine (K.scan_digit.calls c (dgtB c) W ?_).mono fun e w' ⟨he, hd⟩ => ⟨he, drawn_below hd⟩
  unfold K.scan_digit.f dgtB
  by_cases h1 : 48 ≤ c
  · rw [if_pos h1, decide_eq_true h1, Bool.true_and]
  · rw [if_neg h1, decide_eq_false h1, Bool.false_and]
theorem at_any (s : ByteArray) (i : Int) (W : World) : Calls Tryd.prog 107 #[.string s, .int .i64 i] W fun e w' => e = .returned (.int .u8 (atV s i)) ∧ Below W.heap.size W w' := by
  refine (K.scan_at.calls s i (atV s i) W ?_).mono fun e w' ⟨he, hd⟩ => ⟨he, drawn_below hd⟩
  unfold K.scan_at.f atV
  by_cases h1 : i < 0
  · rw [if_pos h1, if_pos h1]
  · rw [if_neg h1, if_neg h1]
    by_cases h2 : i ≥ (s.size : Int)
    · rw [if_pos h2, if_pos h2]
    · rw [if_neg h2, if_neg h2, if_pos (by omega), if_pos (by omega)]
set_option maxRecDepth 100000 in
set_option maxHeartbeats 4000000 in
theorem name1_any (c : Int) (W : World) : Calls Tryd.prog 108 #[.int .u8 c] W fun e w' => e = .returned (.bool (nmB c)) ∧ Below W.heap.size W w' := by
  have cL := fun W => letter_any c W
  have cD := fun W => digit_any c W
  unfold nmB
  cases hl : letB c with
  | true =>
    rw [hl] at cL
    go_enter Tryd.func108, Tryd.ntmps108
    go_wp2_with (go_at_call 106; refine (cL _).mono ?_; rintro e W1 ⟨rfl, b1⟩)
    go_ret
    exact ⟨rfl, b1⟩
  | false =>
    rw [hl] at cL
    cases hd : dgtB c with
    | true =>
      rw [hd] at cD
      go_enter Tryd.func108, Tryd.ntmps108
      go_wp2_with (first
        | (go_at_call 106; refine (cL _).mono ?_; rintro e W1 ⟨rfl, b1⟩)
        | (go_at_call 109; refine (cD _).mono ?_; rintro e W2 ⟨rfl, b2⟩))
      go_ret
      exact ⟨rfl, below_on b1 b2 b1.size⟩
    | false =>
      rw [hd] at cD
      cases h9 : (c == 95) with
      | true =>
        go_enter Tryd.func108, Tryd.ntmps108
        go_wp2_with (first
          | (go_at_call 106; refine (cL _).mono ?_; rintro e W1 ⟨rfl, b1⟩)
          | (go_at_call 109; refine (cD _).mono ?_; rintro e W2 ⟨rfl, b2⟩))
        go_ret
        exact ⟨rfl, below_on b1 b2 b1.size⟩
      | false =>
        go_enter Tryd.func108, Tryd.ntmps108
        go_wp2_with (first
          | (go_at_call 106; refine (cL _).mono ?_; rintro e W1 ⟨rfl, b1⟩)
          | (go_at_call 109; refine (cD _).mono ?_; rintro e W2 ⟨rfl, b2⟩))
        go_ret
        exact ⟨rfl, below_on b1 b2 b1.size⟩
set_option maxRecDepth 100000 in
set_option maxHeartbeats 4000000 in
theorem Name_any (s : ByteArray) (i : Int) (w : World) (hs : s.size ≤ 4611686018427387904) : Calls Tryd.prog 70 #[.string s, .int .i64 i] w fun e w' => e = .returned (.int .i64 (nameI s i)) ∧ Below w.heap.size w w' := by
  have cA := fun W => at_any s i W
  have cL := fun W => letter_any (atV s i) W
  have cW := fun W => while_name nmB (fun c W _ _ => name1_any c W) s i W hs
  unfold nameI
  generalize atV s i = c at *
  generalize whI nmB s i = z at *
  cases hl : letB c with
  | true =>
    rw [hl] at cL
    rw [if_pos rfl]
    go_enter Tryd.func70, Tryd.ntmps70
    go_wp2_with (first
      | (go_at_call 107; refine (cA _).mono ?_; rintro e W1 ⟨rfl, b1⟩)
      | (go_at_call 106; refine (cL _).mono ?_; rintro e W2 ⟨rfl, b2⟩)
      | (go_at_call 89; refine (cW _).mono ?_; rintro e W3 ⟨rfl, b3⟩))
    go_ret
    have b := below_on b1 b2 b1.size
    exact ⟨rfl, below_on b b3 b.size⟩
  | false =>
    rw [hl] at cL
    rw [if_neg (by decide)]
    go_enter Tryd.func70, Tryd.ntmps70
    go_wp2_with (first
      | (go_at_call 107; refine (cA _).mono ?_; rintro e W1 ⟨rfl, b1⟩)
      | (go_at_call 106; refine (cL _).mono ?_; rintro e W2 ⟨rfl, b2⟩))
    go_ret
    exact ⟨rfl, below_on b1 b2 b1.size⟩
theorem ret_b0 {x y : Bool} (h : x = y) : (Ending.returned (.bool x)) = .returned (.bool y) := by rw [h]
set_option maxRecDepth 100000 in
set_option maxHeartbeats 4000000 in
theorem IsName_any (s : ByteArray) (w : World) (hs : s.size ≤ 4611686018427387904) : Calls Tryd.prog 37 #[.string s] w fun e w' => e = .returned (.bool (isNameB s)) ∧ Below w.heap.size w w' := by
  have cN := fun W => Name_any s 0 W hs
  unfold isNameB
  generalize nameI s 0 = z at *
  cases h0 : (s.toList == []) with
  | true =>
    clear cN
    go_enter Tryd.func37, Tryd.ntmps37
    go_wp2
    go_ret
    exact ⟨rfl, Below.refl _ _⟩
  | false =>
    go_enter Tryd.func37, Tryd.ntmps37
    go_wp2_with (go_at_call 70; refine (cN _).mono ?_; rintro e W1 ⟨rfl, b1⟩)
    go_ret
    exact ⟨by first | rfl | exact ret_b0 (by simp), b1⟩
end Go.Proofs.YtipmphgkdomebaaDoor
namespace Go.Proofs.YtipmphgkdomebaaDoor
open Go.RowKit Go.Proofs.YtipmphgkdomebaaDoorW.PrintWords
set_option linter.unusedVariables false
set_option linter.unusedSimpArgs false
set_option maxRecDepth 100000 in
set_option maxHeartbeats 1000000 in
theorem inl_var (x : EX) (q : Tri) (d : Int) (w : World) (hk : x.kind = 2) (hz : x.name.size ≤ 281474976710656) :
    Calls Tryd.prog 110 #[.agg #[.int .i64 x.kind, .string x.text, .string x.name, .string x.attr, .slice q.A x.na q.ca, .pointer q.P, .slice q.V x.nv q.cv], .int .i64 d] w fun e w' => e = .returned (.bool (bareV false true false false x.text x.name x.attr x.na q.P x.nv && isNameB x.name)) ∧ Below w.heap.size w w' := by
  have h0 := Own.one w (.cells #[.int .i64 x.kind, .string x.text, .string x.name, .string x.attr, .slice q.A x.na q.ca, .pointer q.P, .slice q.V x.nv q.cv] 40)
  have cB := fun W => bare_ftff x.kind x.text x.name x.attr q.A x.na q.ca q.P q.V x.nv q.cv W
  have cN := fun W => IsName_any x.name W (by omega)
  generalize bareV false true false false x.text x.name x.attr x.na q.P x.nv = sb at *
  generalize isNameB x.name = sn at *
  have k0 : (x.kind == 0) = false := by rw [hk]; rfl
  have k1 : (x.kind == 1) = false := by rw [hk]; rfl
  have k2 : (x.kind == 2) = true := by rw [hk]; rfl
  have k3 : (x.kind == 3) = false := by rw [hk]; rfl
  have k4 : (x.kind == 4) = false := by rw [hk]; rfl
  have k5 : (x.kind == 5) = false := by rw [hk]; rfl
  have k6 : (x.kind == 6) = false := by rw [hk]; rfl
  clear hk
  cases sb with
  | false =>
    go_enter Tryd.func110, Tryd.ntmps110
    go_upto_region 1 with (fail)
    generalize w.alloc _ = W0 at *
    have a0 := h0.c 0 0 rfl rfl
    have a1 := h0.c 0 1 rfl rfl
    have a2 := h0.c 0 2 rfl rfl
    have a3 := h0.c 0 3 rfl rfl
    have a4 := h0.c 0 4 rfl rfl
    have a5 := h0.c 0 5 rfl rfl
    have a6 := h0.c 0 6 rfl rfl
    go_wp2_with (go_at_call 147; refine (cB _).mono ?_; rintro e W1 ⟨rfl, b1⟩; have h1 := h0.step b1; have x2 := h1.c 0 2 rfl rfl)
    go_ret
    exact ⟨by first | rfl | exact ret_b (by simp), h1.bel⟩
  | true =>
    go_enter Tryd.func110, Tryd.ntmps110
    go_upto_region 1 with (fail)
    generalize w.alloc _ = W0 at *
    have a0 := h0.c 0 0 rfl rfl
    have a1 := h0.c 0 1 rfl rfl
    have a2 := h0.c 0 2 rfl rfl
    have a3 := h0.c 0 3 rfl rfl
    have a4 := h0.c 0 4 rfl rfl
    have a5 := h0.c 0 5 rfl rfl
    have a6 := h0.c 0 6 rfl rfl
    go_wp2_with (first
      | (go_at_call 147; refine (cB _).mono ?_; rintro e W1 ⟨rfl, b1⟩; have h1 := h0.step b1; have x2 := h1.c 0 2 rfl rfl)
      | (go_at_call 37; refine (cN _).mono ?_; rintro e W2 ⟨rfl, b2⟩; have h2 := h1.step b2))
    go_ret
    exact ⟨by first | rfl | exact ret_b (by simp), h2.bel⟩
set_option maxRecDepth 100000 in
set_option maxHeartbeats 1000000 in
theorem inl_nest (x : EX) (q : Tri) (d : Int) (w : World) (hk : x.kind = 6) (hP : x.inner.Ptr w q.P) (hd : -1000 ≤ d ∧ d ≤ 1000) (pv : Bool)
    (cP : ∀ r, x.inner.R w r → ∀ W, Below w.heap.size w W → Calls Tryd.prog 71 #[.agg #[.int .i64 x.inner.kind, .string x.inner.text, .string x.inner.name, .string x.inner.attr, .slice r.A x.inner.na r.ca, .pointer r.P, .slice r.V x.inner.nv r.cv], .int .i64 (d + 1)] W fun e w' => e = .returned (.bool pv) ∧ Below W.heap.size W w') :
    Calls Tryd.prog 110 #[.agg #[.int .i64 x.kind, .string x.text, .string x.name, .string x.attr, .slice q.A x.na q.ca, .pointer q.P, .slice q.V x.nv q.cv], .int .i64 d] w fun e w' => e = .returned (.bool (!x.inner.isNo && (pv && bareV false false false false x.text x.name x.attr x.na none x.nv))) ∧ Below w.heap.size w w' := by
  have h0 := Own.one w (.cells #[.int .i64 x.kind, .string x.text, .string x.name, .string x.attr, .slice q.A x.na q.ca, .pointer q.P, .slice q.V x.nv q.cv] 40)
  have cB := fun W => bare_ffff 0 x.text x.name x.attr q.A x.na q.ca none q.V x.nv q.cv W
  generalize bareV false false false false x.text x.name x.attr x.na none x.nv = sb at *
  have wd : wrap64 (d + 1) = d + 1 := by unfold wrap64; omega
  have k0 : (x.kind == 0) = false := by rw [hk]; rfl
  have k1 : (x.kind == 1) = false := by rw [hk]; rfl
  have k2 : (x.kind == 2) = false := by rw [hk]; rfl
  have k3 : (x.kind == 3) = false := by rw [hk]; rfl
  have k4 : (x.kind == 4) = false := by rw [hk]; rfl
  have k5 : (x.kind == 5) = false := by rw [hk]; rfl
  have k6 : (x.kind == 6) = true := by rw [hk]; rfl
  clear hk hd
  obtain ⟨qA, qca, qP, qV, qcv⟩ := q
  dsimp only at *
  rcases hP with ⟨hno, rfl⟩ | ⟨b3, o3, r1, rfl, E1, R1⟩
  · rw [hno, show (!EX.no.isNo) = false from rfl]
    go_enter Tryd.func110, Tryd.ntmps110
    go_upto_region 1 with (fail)
    generalize w.alloc _ = W0 at *
    have a0 := h0.c 0 0 rfl rfl
    have a1 := h0.c 0 1 rfl rfl
    have a2 := h0.c 0 2 rfl rfl
    have a3 := h0.c 0 3 rfl rfl
    have a4 := h0.c 0 4 rfl rfl
    have a5 := h0.c 0 5 rfl rfl
    have a6 := h0.c 0 6 rfl rfl
    go_wp2
    go_ret
    exact ⟨by first | rfl | exact ret_b (by simp), h0.bel⟩
  · rw [EX.no_of R1, show (!false) = true from rfl]
    have cQ := cP r1 R1
    cases pv with
    | false =>
      go_enter Tryd.func110, Tryd.ntmps110
      go_upto_region 1 with (fail)
      generalize w.alloc _ = W0 at *
      have a0 := h0.c 0 0 rfl rfl
      have a1 := h0.c 0 1 rfl rfl
      have a2 := h0.c 0 2 rfl rfl
      have a3 := h0.c 0 3 rfl rfl
      have a4 := h0.c 0 4 rfl rfl
      have a5 := h0.c 0 5 rfl rfl
      have a6 := h0.c 0 6 rfl rfl
      have hbw := Kept.of h0.bel
      have x0 := hbw _ _ _ E1.c0
      have x1 := hbw _ _ _ E1.c1
      have x2 := hbw _ _ _ E1.c2
      have x3 := hbw _ _ _ E1.c3
      have x4 := hbw _ _ _ E1.c4
      have x5 := hbw _ _ _ E1.c5
      have x6 := hbw _ _ _ E1.c6
      clear hbw E1 R1 cP
      dsimp only at x0 x1 x2 x3 x4 x5 x6
      go_wp2_with (go_at_call 71; refine (cQ _ h0.bel).mono ?_; rintro e W1 ⟨rfl, b1⟩; have h1 := h0.step b1; have y0 := h1.c 0 0 rfl rfl; have y1 := h1.c 0 1 rfl rfl; have y2 := h1.c 0 2 rfl rfl; have y3 := h1.c 0 3 rfl rfl; have y4 := h1.c 0 4 rfl rfl; have y5 := h1.c 0 5 rfl rfl; have y6 := h1.c 0 6 rfl rfl)
      go_ret
      exact ⟨by first | rfl | exact ret_b (by simp), h1.bel⟩
    | true =>
      go_enter Tryd.func110, Tryd.ntmps110
      go_upto_region 1 with (fail)
      generalize w.alloc _ = W0 at *
      have a0 := h0.c 0 0 rfl rfl
      have a1 := h0.c 0 1 rfl rfl
      have a2 := h0.c 0 2 rfl rfl
      have a3 := h0.c 0 3 rfl rfl
      have a4 := h0.c 0 4 rfl rfl
      have a5 := h0.c 0 5 rfl rfl
      have a6 := h0.c 0 6 rfl rfl
      have hbw := Kept.of h0.bel
      have x0 := hbw _ _ _ E1.c0
      have x1 := hbw _ _ _ E1.c1
      have x2 := hbw _ _ _ E1.c2
      have x3 := hbw _ _ _ E1.c3
      have x4 := hbw _ _ _ E1.c4
      have x5 := hbw _ _ _ E1.c5
      have x6 := hbw _ _ _ E1.c6
      clear hbw E1 R1 cP
      dsimp only at x0 x1 x2 x3 x4 x5 x6
      go_wp2_with (first
        | (go_at_call 71; refine (cQ _ h0.bel).mono ?_; rintro e W1 ⟨rfl, b1⟩; have h1 := h0.step b1; have y0 := h1.c 0 0 rfl rfl; have y1 := h1.c 0 1 rfl rfl; have y2 := h1.c 0 2 rfl rfl; have y3 := h1.c 0 3 rfl rfl; have y4 := h1.c 0 4 rfl rfl; have y5 := h1.c 0 5 rfl rfl; have y6 := h1.c 0 6 rfl rfl)
        | (go_at_call 147; refine (cB _).mono ?_; rintro e W2 ⟨rfl, b2⟩; have h2 := h1.step b2))
      go_ret
      exact ⟨by first | rfl | exact ret_b (by simp), h2.bel⟩
set_option maxRecDepth 100000 in
set_option maxHeartbeats 1000000 in
theorem place_inl (x : EX) (q : Tri) (d : Int) (w : World) (hk : x.kind ≠ 7) (iv : Bool) (cI : ∀ W, Below w.heap.size w W → Calls Tryd.prog 110 #[.agg #[.int .i64 x.kind, .string x.text, .string x.name, .string x.attr, .slice q.A x.na q.ca, .pointer q.P, .slice q.V x.nv q.cv], .int .i64 d] W fun e w' => e = .returned (.bool iv) ∧ Below W.heap.size W w') :
    Calls Tryd.prog 71 #[.agg #[.int .i64 x.kind, .string x.text, .string x.name, .string x.attr, .slice q.A x.na q.ca, .pointer q.P, .slice q.V x.nv q.cv], .int .i64 d] w fun e w' => e = .returned (.bool (decide (d ≤ 20) && iv)) ∧ Below w.heap.size w w' := by
  have h0 := Own.one w (.cells #[.int .i64 x.kind, .string x.text, .string x.name, .string x.attr, .slice q.A x.na q.ca, .pointer q.P, .slice q.V x.nv q.cv] 40)
  have k7 : (x.kind != 7) = true := bne_iff_ne.2 hk
  by_cases hd : d ≤ 20
  · rw [decide_eq_true hd]
    have r0 : decide (d > 20) = false := decide_eq_false (by omega)
    have r1 : decide (20 < d) = false := decide_eq_false (by omega)
    clear hk hd
    go_enter Tryd.func71, Tryd.ntmps71
    go_upto_region 1 with (fail)
    generalize w.alloc _ = W0 at *
    have a0 := h0.c 0 0 rfl rfl
    have a1 := h0.c 0 1 rfl rfl
    have a2 := h0.c 0 2 rfl rfl
    have a3 := h0.c 0 3 rfl rfl
    have a4 := h0.c 0 4 rfl rfl
    have a5 := h0.c 0 5 rfl rfl
    have a6 := h0.c 0 6 rfl rfl
    go_wp2_with (go_at_call 110; refine (cI _ h0.bel).mono ?_; rintro e W1 ⟨rfl, b1⟩; have h1 := h0.step b1)
    go_ret
    exact ⟨by first | rfl | exact ret_b (by simp), h1.bel⟩
  · rw [decide_eq_false hd]
    have r0 : decide (d > 20) = true := decide_eq_true (by omega)
    have r1 : decide (20 < d) = true := decide_eq_true (by omega)
    clear hk hd cI
    go_enter Tryd.func71, Tryd.ntmps71
    go_upto_region 1 with (fail)
    generalize w.alloc _ = W0 at *
    go_wp2
    go_ret
    exact ⟨by first | rfl | exact ret_b (by simp), h0.bel⟩
end Go.Proofs.YtipmphgkdomebaaDoor
