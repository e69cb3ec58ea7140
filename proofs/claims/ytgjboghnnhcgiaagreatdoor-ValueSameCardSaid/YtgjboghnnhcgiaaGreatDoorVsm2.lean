/- A number is meant by each way of writing it, and by no other number; for every input. (Text 3 of 5: what the law's proof rests on, joined; walks printed by the kit's print over given contracts, walks and plain laws by hand.) -/
import Derived.Carry
import Derived.StillTailTactics
import Derived.Deep.QuietTactic
import Derived.BigQuiet
import Derived.Lib.Small
import Derived.Laws.Cover1
import Derived.Laws.StructEq
import Derived.Test.YtgjboghnnhcgiaaGreatDoorProg
import Derived.Below
import Derived.Deep.Draws
import Derived.Deep.AppendLies
import Derived.Maps.AppendAt
import Derived.OwnWalk
import Derived.Laws.BytesArg
import Derived.Laws.MakeOwn
import Derived.Laws.OwnMore
import Derived.Deep.OwnRows
import Derived.Tactics
import Derived.Lib.ConvBytes
import Derived.Laws.Slices
import Derived.WalkKit
import Derived.KernelRfl
import Derived.RowKit3
import Derived.Deep.LoopGhost
import Derived.WideLaws
import Derived.Deep.DeepCutAuto
import Derived.Deep.CutBlock
import Derived.Deep.RegionHeld3
import Derived.Laws.Rows
import Derived.Lib.AppendStr
import Derived.ArgAppend
import Derived.Laws.IdiomCopy
import Derived.OrdersHeld
import Derived.Laws.BitsLemmas
import Derived.RowKit
import Derived.Laws.Runes
import Derived.Deep.RegionWith
import Derived.Deep.DrawnRows
import Derived.Handy
import Derived.Test.YtgjboghnnhcgiaaGreatDoorVsm0
import Derived.Test.YtgjboghnnhcgiaaGreatDoorVsm1
namespace Go.Proofs.YtgjboghnnhcgiaaGreatDoor.M
open Go.RowKit Go.Proofs.YtgjboghnnhcgiaaGreatDoorW.PrintWords Go.Proofs.YtgjboghnnhcgiaaGreatDoorW.PrintLast
set_option linter.unusedVariables false
set_option linter.unusedSimpArgs false
def fill_round.T : Bool × List (List Nat × List Nat) := (true, [([], []), ([0], [0]), ([1], [1]), ([2], [2]), ([], []), ([4], [4]), ([], []), ([6], [6]), ([7], [7]), ([8], [8]), ([], []), ([10], [10]), ([], []), ([12], [12]), ([], []), ([14], [14]), ([3, 5, 9], [3, 5]), ([16], [16]), ([3, 17, 13, 16, 0, 1, 2, 3, 4, 5, 9, 12, 13, 16], [3, 13, 17]), ([9, 11, 18, 0, 1, 2, 3, 4, 5, 9, 12, 13, 16, 17, 18], [9, 11]), ([19], [19]), ([9, 20, 15, 19, 0, 1, 2, 3, 4, 5, 6, 7, 8, 9, 10, 11, 12, 13, 14, 15, 16, 17, 18, 19], [9, 15, 20])])
def fill_round.B : List Nat := [0, 1, 3, 7, 0, 16, 0, 64, 192, 448, 0, 1024, 0, 4096, 0, 16384, 1023, 66559, 209919, 475135, 999423, 2097151]
theorem fill_round.tab : rtab .any (opsOf Tryz.f69 4) = fill_round.T := by kernel_rfl
theorem fill_round.bits : waitsOk fill_round.T.2 fill_round.B = true := by kernel_rfl
set_option maxRecDepth 100000 in
set_option maxHeartbeats 4000000 in
theorem fill_round (w0 : World) (b0 : Nat) (d0 sx ax : Int) (p g q : Nat) (lp lg : List (ByteArray × ByteArray)) (s : ByteArray) (hs : 3 ≤ s.size) (hs9 : s.size ≤ 100) (hlp : look lp (s.extract 0 2) = none) (hlg : look lg (s.extract 0 2) = none) (a0 : Act) (s0 : a0.tmps[0]? = some (.pointer (some ⟨b0, 0, none⟩))) (s3 : a0.tmps[3]? = some (.string s)) (hsz : a0.tmps.size = Tryz.f69.ntmps) (W : World) (hI : St w0 b0 d0 sx ax p g q lp lg (s.extract 0 2) (s.extract 2 3) (s.extract 3 s.size) ((fun _ => false) 16) ((fun _ => false) 18) ((fun _ => false) 19) ((fun _ => false) 21) W.drew) (Q : Exit → Act → World → Prop) (hend : ∀ (a9 : Act) w', St w0 b0 d0 sx ax p g q lp lg (s.extract 0 2) (s.extract 2 3) (s.extract 3 s.size) ((fun _ => true) 16) ((fun _ => true) 18) ((fun _ => true) 19) ((fun _ => true) 21) w' → a9 = putSel a0 (fun _ => true) [(0, 18, .pointer (some ⟨b0, 0, none⟩)), (1, 19, .pointer (some ⟨b0, 0, none⟩)), (2, 20, .pointer (some ⟨b0, 4, none⟩)), (3, 21, .map (some p)), (4, 22, .string s), (5, 23, .string (s.extract 0 2)), (6, 24, .pointer (some ⟨b0, 0, none⟩)), (7, 25, .pointer (some ⟨b0, 0, none⟩)), (8, 26, .pointer (some ⟨b0, 5, none⟩)), (9, 27, .map (some g)), (10, 28, .string s), (11, 29, .string (s.extract 0 2)), (12, 30, .string s), (13, 31, .string (s.extract 2 3)), (14, 32, .string s), (15, 33, .string (s.extract 3 s.size)), (16, 34, .tuple #[.string ⟨#[]⟩, .int .i64 lp.length]), (17, 35, .int .i64 lp.length), (19, 36, .tuple #[.string ⟨#[]⟩, .int .i64 lg.length]), (20, 37, .int .i64 lg.length)] → a9.defers = a0.defers → Q .normal a9 w') :
    (Code.region 4 #[{ dst := some 18, op := Op.move (Operand.tmp 0), type := 44, pos := "number.go:94", after := #[], guard := none }, { dst := some 19, op := Op.nilCheck (Operand.tmp 18), type := 0, pos := "number.go:94", after := #[{ on := 0, ground := Ground.data }], guard := none }, { dst := some 20, op := Op.fieldAddr 62 (Operand.tmp 19) 2, type := 0, pos := "number.go:94", after := #[{ on := 1, ground := Ground.data }], guard := none }, { dst := some 21, op := Op.load 60 (Operand.tmp 20), type := 60, pos := "number.go:94", after := #[{ on := 2, ground := Ground.data }], guard := none }, { dst := some 22, op := Op.move (Operand.tmp 3), type := 9, pos := "number.go:94", after := #[], guard := none }, { dst := some 23, op := Op.slice 9 (Operand.tmp 22) none (some (Operand.const (Value.int IntKind.i64 2))) none, type := 9, pos := "number.go:94", after := #[{ on := 4, ground := Ground.data }], guard := none }, { dst := some 24, op := Op.move (Operand.tmp 0), type := 44, pos := "number.go:94", after := #[], guard := none }, { dst := some 25, op := Op.nilCheck (Operand.tmp 24), type := 0, pos := "number.go:94", after := #[{ on := 6, ground := Ground.data }], guard := none }, { dst := some 26, op := Op.fieldAddr 62 (Operand.tmp 25) 3, type := 0, pos := "number.go:94", after := #[{ on := 7, ground := Ground.data }], guard := none }, { dst := some 27, op := Op.load 60 (Operand.tmp 26), type := 60, pos := "number.go:94", after := #[{ on := 8, ground := Ground.data }], guard := none }, { dst := some 28, op := Op.move (Operand.tmp 3), type := 9, pos := "number.go:94", after := #[], guard := none }, { dst := some 29, op := Op.slice 9 (Operand.tmp 28) none (some (Operand.const (Value.int IntKind.i64 2))) none, type := 9, pos := "number.go:94", after := #[{ on := 10, ground := Ground.data }], guard := none }, { dst := some 30, op := Op.move (Operand.tmp 3), type := 9, pos := "number.go:94", after := #[], guard := none }, { dst := some 31, op := Op.slice 9 (Operand.tmp 30) (some (Operand.const (Value.int IntKind.i64 2))) (some (Operand.const (Value.int IntKind.i64 3))) none, type := 9, pos := "number.go:94", after := #[{ on := 12, ground := Ground.data }], guard := none }, { dst := some 32, op := Op.move (Operand.tmp 3), type := 9, pos := "number.go:94", after := #[], guard := none }, { dst := some 33, op := Op.slice 9 (Operand.tmp 32) (some (Operand.const (Value.int IntKind.i64 3))) none none, type := 9, pos := "number.go:94", after := #[{ on := 14, ground := Ground.data }], guard := none }, { dst := some 34, op := Op.mapEntry 60 (Operand.tmp 21) (Operand.tmp 23), type := 0, pos := "number.go:94", after := #[{ on := 3, ground := Ground.data }, { on := 5, ground := Ground.data }, { on := 0, ground := Ground.textOnly Departure.tupleMapEntryFirst }, { on := 1, ground := Ground.textOnly Departure.tupleMapEntryFirst }, { on := 2, ground := Ground.textOnly Departure.tupleMapEntryFirst }, { on := 3, ground := Ground.textOnly Departure.tupleMapEntryFirst }, { on := 4, ground := Ground.textOnly Departure.tupleMapEntryFirst }, { on := 5, ground := Ground.textOnly Departure.lateStoresUnsure }, { on := 6, ground := Ground.textOnly Departure.lateStores }, { on := 7, ground := Ground.textOnly Departure.lateStoresUnsure }, { on := 8, ground := Ground.textOnly Departure.lateStoresUnsure }, { on := 9, ground := Ground.phase }, { on := 10, ground := Ground.textOnly Departure.lateStores }, { on := 11, ground := Ground.textOnly Departure.lateStoresUnsure }, { on := 12, ground := Ground.textOnly Departure.tupleMapEntryFirst }, { on := 13, ground := Ground.textOnly Departure.lateStoresUnsure }, { on := 14, ground := Ground.textOnly Departure.lateStores }, { on := 15, ground := Ground.textOnly Departure.lateStoresUnsure }], guard := none }, { dst := some 35, op := Op.extract (Operand.tmp 34) 1, type := 3, pos := "number.go:94", after := #[{ on := 16, ground := Ground.data }], guard := none }, { dst := none, op := Op.entryStore 60 (Operand.tmp 21) (Operand.tmp 35) (Operand.tmp 31), type := 0, pos := "number.go:94", after := #[{ on := 3, ground := Ground.data }, { on := 17, ground := Ground.data }, { on := 13, ground := Ground.data }, { on := 16, ground := Ground.chain }, { on := 0, ground := Ground.phase }, { on := 1, ground := Ground.phase }, { on := 2, ground := Ground.phase }, { on := 3, ground := Ground.phase }, { on := 4, ground := Ground.phase }, { on := 5, ground := Ground.phase }, { on := 6, ground := Ground.textOnly Departure.lateStores }, { on := 7, ground := Ground.textOnly Departure.lateStoresUnsure }, { on := 8, ground := Ground.textOnly Departure.lateStoresUnsure }, { on := 9, ground := Ground.phase }, { on := 10, ground := Ground.textOnly Departure.lateStores }, { on := 11, ground := Ground.textOnly Departure.lateStoresUnsure }, { on := 12, ground := Ground.phase }, { on := 13, ground := Ground.phase }, { on := 14, ground := Ground.textOnly Departure.lateStores }, { on := 15, ground := Ground.textOnly Departure.lateStoresUnsure }, { on := 16, ground := Ground.phase }], guard := none }, { dst := some 36, op := Op.mapEntry 60 (Operand.tmp 27) (Operand.tmp 29), type := 0, pos := "number.go:94", after := #[{ on := 9, ground := Ground.data }, { on := 11, ground := Ground.data }, { on := 18, ground := Ground.chain }, { on := 0, ground := Ground.phase }, { on := 1, ground := Ground.phase }, { on := 2, ground := Ground.phase }, { on := 3, ground := Ground.phase }, { on := 4, ground := Ground.phase }, { on := 5, ground := Ground.phase }, { on := 6, ground := Ground.textOnly Departure.tupleMapEntryFirst }, { on := 7, ground := Ground.textOnly Departure.lateStoresUnsure }, { on := 8, ground := Ground.textOnly Departure.lateStoresUnsure }, { on := 9, ground := Ground.phase }, { on := 10, ground := Ground.textOnly Departure.tupleMapEntryFirst }, { on := 11, ground := Ground.textOnly Departure.lateStoresUnsure }, { on := 12, ground := Ground.phase }, { on := 13, ground := Ground.phase }, { on := 14, ground := Ground.textOnly Departure.tupleMapEntryFirst }, { on := 15, ground := Ground.textOnly Departure.lateStoresUnsure }, { on := 16, ground := Ground.phase }, { on := 17, ground := Ground.phase }, { on := 18, ground := Ground.phase }], guard := none }, { dst := some 37, op := Op.extract (Operand.tmp 36) 1, type := 3, pos := "number.go:94", after := #[{ on := 19, ground := Ground.data }], guard := none }, { dst := none, op := Op.entryStore 60 (Operand.tmp 27) (Operand.tmp 37) (Operand.tmp 33), type := 0, pos := "number.go:94", after := #[{ on := 9, ground := Ground.data }, { on := 20, ground := Ground.data }, { on := 15, ground := Ground.data }, { on := 19, ground := Ground.chain }, { on := 0, ground := Ground.phase }, { on := 1, ground := Ground.phase }, { on := 2, ground := Ground.phase }, { on := 3, ground := Ground.phase }, { on := 4, ground := Ground.phase }, { on := 5, ground := Ground.phase }, { on := 6, ground := Ground.phase }, { on := 7, ground := Ground.phase }, { on := 8, ground := Ground.phase }, { on := 9, ground := Ground.phase }, { on := 10, ground := Ground.phase }, { on := 11, ground := Ground.phase }, { on := 12, ground := Ground.phase }, { on := 13, ground := Ground.phase }, { on := 14, ground := Ground.phase }, { on := 15, ground := Ground.phase }, { on := 16, ground := Ground.phase }, { on := 17, ground := Ground.phase }, { on := 18, ground := Ground.phase }, { on := 19, ground := Ground.phase }], guard := none }] true).wp Tryz.prog Q a0 W := by
  refine start_ (n := 22) (S := fun w' => True) (ds := []) #[false, false, false, false, false, false, false, false, false, false, false, false, false, false, false, false, false, false, false, false, false, false] (by kernel_rfl) rfl rfl trivial (fun hHeld => ?_)
  refine with_tabW fill_round.tab fill_round.bits (fun HT_ HW_ => ?_)
  refine inv_at [0, 1, 2, 3, 4, 5, 6, 7, 8, 9, 10, 11, 12, 13, 14, 15, 16, 17, 18, 19, 20, 21] (fun a0_ b a w' => a = putSel a0_ b [(0, 18, .pointer (some ⟨b0, 0, none⟩)), (1, 19, .pointer (some ⟨b0, 0, none⟩)), (2, 20, .pointer (some ⟨b0, 4, none⟩)), (3, 21, .map (some p)), (4, 22, .string s), (5, 23, .string (s.extract 0 2)), (6, 24, .pointer (some ⟨b0, 0, none⟩)), (7, 25, .pointer (some ⟨b0, 0, none⟩)), (8, 26, .pointer (some ⟨b0, 5, none⟩)), (9, 27, .map (some g)), (10, 28, .string s), (11, 29, .string (s.extract 0 2)), (12, 30, .string s), (13, 31, .string (s.extract 2 3)), (14, 32, .string s), (15, 33, .string (s.extract 3 s.size)), (16, 34, .tuple #[.string ⟨#[]⟩, .int .i64 lp.length]), (17, 35, .int .i64 lp.length), (19, 36, .tuple #[.string ⟨#[]⟩, .int .i64 lg.length]), (20, 37, .int .i64 lg.length)] ∧ (St w0 b0 d0 sx ax p g q lp lg (s.extract 0 2) (s.extract 2 3) (s.extract 3 s.size) (b 16) (b 18) (b 19) (b 21) w')) HT_.out HW_.out (by kernel_rfl) (by kernel_rfl) ?_ ?_ ?_
  · exact ⟨(by simp only [putSel, Bool.false_eq_true, if_false]), hI⟩
  · clear hI hend hHeld
    refine steps_cons ?_ ?_
    · rintro b a w' ⟨ha, hI⟩ hb_ hon hoff
      refine ⟨_, rfl, fun K hK => ?_⟩
      have e0 : a.tmps[0]? = some (.pointer (some ⟨b0, 0, none⟩)) := by rw [ha]; exact (putSel_off rfl).trans s0
      replace ha := Aside0.mk ha
      obtain ⟨p4, p5⟩ := hI.get
      refine value_ (w1 := w') (v := .pointer (some ⟨b0, 0, none⟩)) (by rfl) rfl ?_ ?_
      · go_simp; try rfl
        all_goals (try (simp only [IntKind.wrap_i64]; omega))
      exact hK.out _ _ ⟨(by rw [ha.out]; exact putSel_upk 0 hb_ rfl rfl rfl), hI⟩
    refine steps_cons ?_ ?_
    · rintro b a w' ⟨ha, hI⟩ hb_ hon hoff
      refine ⟨_, rfl, fun K hK => ?_⟩
      have e18 : a.tmps[18]? = some (.pointer (some ⟨b0, 0, none⟩)) := by rw [ha]; exact putSel_on (e := (0, 18, .pointer (some ⟨b0, 0, none⟩))) 0 rfl rfl (hon 0 (by kernel_rfl)) (by rw [hsz]; rfl)
      replace ha := Aside0.mk ha
      obtain ⟨p4, p5⟩ := hI.get
      refine value_ (w1 := w') (v := .pointer (some ⟨b0, 0, none⟩)) (by rfl) rfl ?_ ?_
      · go_simp; try rfl
        all_goals (try (simp only [IntKind.wrap_i64]; omega))
      exact hK.out _ _ ⟨(by rw [ha.out]; exact putSel_upk 1 hb_ rfl rfl rfl), hI⟩
    refine steps_cons ?_ ?_
    · rintro b a w' ⟨ha, hI⟩ hb_ hon hoff
      refine ⟨_, rfl, fun K hK => ?_⟩
      have e19 : a.tmps[19]? = some (.pointer (some ⟨b0, 0, none⟩)) := by rw [ha]; exact putSel_on (e := (1, 19, .pointer (some ⟨b0, 0, none⟩))) 1 rfl rfl (hon 1 (by kernel_rfl)) (by rw [hsz]; rfl)
      replace ha := Aside0.mk ha
      obtain ⟨p4, p5⟩ := hI.get
      refine value_ (w1 := w') (v := .pointer (some ⟨b0, 4, none⟩)) (by rfl) rfl ?_ ?_
      · go_simp; try rfl
        all_goals (try (simp only [IntKind.wrap_i64]; omega))
      exact hK.out _ _ ⟨(by rw [ha.out]; exact putSel_upk 2 hb_ rfl rfl rfl), hI⟩
    refine steps_cons ?_ ?_
    · rintro b a w' ⟨ha, hI⟩ hb_ hon hoff
      refine ⟨_, rfl, fun K hK => ?_⟩
      have e20 : a.tmps[20]? = some (.pointer (some ⟨b0, 4, none⟩)) := by rw [ha]; exact putSel_on (e := (2, 20, .pointer (some ⟨b0, 4, none⟩))) 2 rfl rfl (hon 2 (by kernel_rfl)) (by rw [hsz]; rfl)
      replace ha := Aside0.mk ha
      obtain ⟨p4, p5⟩ := hI.get
      refine value_ (w1 := w') (v := .map (some p)) (by rfl) rfl ?_ ?_
      · go_simp; try rfl
        all_goals (try (simp only [IntKind.wrap_i64]; omega))
      exact hK.out _ _ ⟨(by rw [ha.out]; exact putSel_upk 3 hb_ rfl rfl rfl), hI⟩
    refine steps_cons ?_ ?_
    · rintro b a w' ⟨ha, hI⟩ hb_ hon hoff
      refine ⟨_, rfl, fun K hK => ?_⟩
      have e3 : a.tmps[3]? = some (.string s) := by rw [ha]; exact (putSel_off rfl).trans s3
      replace ha := Aside0.mk ha
      obtain ⟨p4, p5⟩ := hI.get
      refine value_ (w1 := w') (v := .string s) (by rfl) rfl ?_ ?_
      · go_simp; try rfl
        all_goals (try (simp only [IntKind.wrap_i64]; omega))
      exact hK.out _ _ ⟨(by rw [ha.out]; exact putSel_upk 4 hb_ rfl rfl rfl), hI⟩
    refine steps_cons ?_ ?_
    · rintro b a w' ⟨ha, hI⟩ hb_ hon hoff
      refine ⟨_, rfl, fun K hK => ?_⟩
      have e22 : a.tmps[22]? = some (.string s) := by rw [ha]; exact putSel_on (e := (4, 22, .string s)) 4 rfl rfl (hon 4 (by kernel_rfl)) (by rw [hsz]; rfl)
      replace ha := Aside0.mk ha
      obtain ⟨p4, p5⟩ := hI.get
      refine value_ (w1 := w') (v := .string (s.extract 0 2)) (by rfl) rfl ?_ ?_
      · exact exec_to 2 rfl (eval_of e22) (by omega)
      exact hK.out _ _ ⟨(by rw [ha.out]; exact putSel_upk 5 hb_ rfl rfl rfl), hI⟩
    refine steps_cons ?_ ?_
    · rintro b a w' ⟨ha, hI⟩ hb_ hon hoff
      refine ⟨_, rfl, fun K hK => ?_⟩
      have e0 : a.tmps[0]? = some (.pointer (some ⟨b0, 0, none⟩)) := by rw [ha]; exact (putSel_off rfl).trans s0
      replace ha := Aside0.mk ha
      obtain ⟨p4, p5⟩ := hI.get
      refine value_ (w1 := w') (v := .pointer (some ⟨b0, 0, none⟩)) (by rfl) rfl ?_ ?_
      · go_simp; try rfl
        all_goals (try (simp only [IntKind.wrap_i64]; omega))
      exact hK.out _ _ ⟨(by rw [ha.out]; exact putSel_upk 6 hb_ rfl rfl rfl), hI⟩
    refine steps_cons ?_ ?_
    · rintro b a w' ⟨ha, hI⟩ hb_ hon hoff
      refine ⟨_, rfl, fun K hK => ?_⟩
      have e24 : a.tmps[24]? = some (.pointer (some ⟨b0, 0, none⟩)) := by rw [ha]; exact putSel_on (e := (6, 24, .pointer (some ⟨b0, 0, none⟩))) 6 rfl rfl (hon 6 (by kernel_rfl)) (by rw [hsz]; rfl)
      replace ha := Aside0.mk ha
      obtain ⟨p4, p5⟩ := hI.get
      refine value_ (w1 := w') (v := .pointer (some ⟨b0, 0, none⟩)) (by rfl) rfl ?_ ?_
      · go_simp; try rfl
        all_goals (try (simp only [IntKind.wrap_i64]; omega))
      exact hK.out _ _ ⟨(by rw [ha.out]; exact putSel_upk 7 hb_ rfl rfl rfl), hI⟩
    refine steps_cons ?_ ?_
    · rintro b a w' ⟨ha, hI⟩ hb_ hon hoff
      refine ⟨_, rfl, fun K hK => ?_⟩
      have e25 : a.tmps[25]? = some (.pointer (some ⟨b0, 0, none⟩)) := by rw [ha]; exact putSel_on (e := (7, 25, .pointer (some ⟨b0, 0, none⟩))) 7 rfl rfl (hon 7 (by kernel_rfl)) (by rw [hsz]; rfl)
      replace ha := Aside0.mk ha
      obtain ⟨p4, p5⟩ := hI.get
      refine value_ (w1 := w') (v := .pointer (some ⟨b0, 5, none⟩)) (by rfl) rfl ?_ ?_
      · go_simp; try rfl
        all_goals (try (simp only [IntKind.wrap_i64]; omega))
      exact hK.out _ _ ⟨(by rw [ha.out]; exact putSel_upk 8 hb_ rfl rfl rfl), hI⟩
    refine steps_cons ?_ ?_
    · rintro b a w' ⟨ha, hI⟩ hb_ hon hoff
      refine ⟨_, rfl, fun K hK => ?_⟩
      have e26 : a.tmps[26]? = some (.pointer (some ⟨b0, 5, none⟩)) := by rw [ha]; exact putSel_on (e := (8, 26, .pointer (some ⟨b0, 5, none⟩))) 8 rfl rfl (hon 8 (by kernel_rfl)) (by rw [hsz]; rfl)
      replace ha := Aside0.mk ha
      obtain ⟨p4, p5⟩ := hI.get
      refine value_ (w1 := w') (v := .map (some g)) (by rfl) rfl ?_ ?_
      · go_simp; try rfl
        all_goals (try (simp only [IntKind.wrap_i64]; omega))
      exact hK.out _ _ ⟨(by rw [ha.out]; exact putSel_upk 9 hb_ rfl rfl rfl), hI⟩
    refine steps_cons ?_ ?_
    · rintro b a w' ⟨ha, hI⟩ hb_ hon hoff
      refine ⟨_, rfl, fun K hK => ?_⟩
      have e3 : a.tmps[3]? = some (.string s) := by rw [ha]; exact (putSel_off rfl).trans s3
      replace ha := Aside0.mk ha
      obtain ⟨p4, p5⟩ := hI.get
      refine value_ (w1 := w') (v := .string s) (by rfl) rfl ?_ ?_
      · go_simp; try rfl
        all_goals (try (simp only [IntKind.wrap_i64]; omega))
      exact hK.out _ _ ⟨(by rw [ha.out]; exact putSel_upk 10 hb_ rfl rfl rfl), hI⟩
    refine steps_cons ?_ ?_
    · rintro b a w' ⟨ha, hI⟩ hb_ hon hoff
      refine ⟨_, rfl, fun K hK => ?_⟩
      have e28 : a.tmps[28]? = some (.string s) := by rw [ha]; exact putSel_on (e := (10, 28, .string s)) 10 rfl rfl (hon 10 (by kernel_rfl)) (by rw [hsz]; rfl)
      replace ha := Aside0.mk ha
      obtain ⟨p4, p5⟩ := hI.get
      refine value_ (w1 := w') (v := .string (s.extract 0 2)) (by rfl) rfl ?_ ?_
      · exact exec_to 2 rfl (eval_of e28) (by omega)
      exact hK.out _ _ ⟨(by rw [ha.out]; exact putSel_upk 11 hb_ rfl rfl rfl), hI⟩
    refine steps_cons ?_ ?_
    · rintro b a w' ⟨ha, hI⟩ hb_ hon hoff
      refine ⟨_, rfl, fun K hK => ?_⟩
      have e3 : a.tmps[3]? = some (.string s) := by rw [ha]; exact (putSel_off rfl).trans s3
      replace ha := Aside0.mk ha
      obtain ⟨p4, p5⟩ := hI.get
      refine value_ (w1 := w') (v := .string s) (by rfl) rfl ?_ ?_
      · go_simp; try rfl
        all_goals (try (simp only [IntKind.wrap_i64]; omega))
      exact hK.out _ _ ⟨(by rw [ha.out]; exact putSel_upk 12 hb_ rfl rfl rfl), hI⟩
    refine steps_cons ?_ ?_
    · rintro b a w' ⟨ha, hI⟩ hb_ hon hoff
      refine ⟨_, rfl, fun K hK => ?_⟩
      have e30 : a.tmps[30]? = some (.string s) := by rw [ha]; exact putSel_on (e := (12, 30, .string s)) 12 rfl rfl (hon 12 (by kernel_rfl)) (by rw [hsz]; rfl)
      replace ha := Aside0.mk ha
      obtain ⟨p4, p5⟩ := hI.get
      refine value_ (w1 := w') (v := .string (s.extract 2 3)) (by rfl) rfl ?_ ?_
      · exact exec_part 2 3 rfl (eval_of e30) (by omega) (by omega)
      exact hK.out _ _ ⟨(by rw [ha.out]; exact putSel_upk 13 hb_ rfl rfl rfl), hI⟩
    refine steps_cons ?_ ?_
    · rintro b a w' ⟨ha, hI⟩ hb_ hon hoff
      refine ⟨_, rfl, fun K hK => ?_⟩
      have e3 : a.tmps[3]? = some (.string s) := by rw [ha]; exact (putSel_off rfl).trans s3
      replace ha := Aside0.mk ha
      obtain ⟨p4, p5⟩ := hI.get
      refine value_ (w1 := w') (v := .string s) (by rfl) rfl ?_ ?_
      · go_simp; try rfl
        all_goals (try (simp only [IntKind.wrap_i64]; omega))
      exact hK.out _ _ ⟨(by rw [ha.out]; exact putSel_upk 14 hb_ rfl rfl rfl), hI⟩
    refine steps_cons ?_ ?_
    · rintro b a w' ⟨ha, hI⟩ hb_ hon hoff
      refine ⟨_, rfl, fun K hK => ?_⟩
      have e32 : a.tmps[32]? = some (.string s) := by rw [ha]; exact putSel_on (e := (14, 32, .string s)) 14 rfl rfl (hon 14 (by kernel_rfl)) (by rw [hsz]; rfl)
      replace ha := Aside0.mk ha
      obtain ⟨p4, p5⟩ := hI.get
      refine value_ (w1 := w') (v := .string (s.extract 3 s.size)) (by rfl) rfl ?_ ?_
      · exact exec_from 3 rfl (eval_of e32) (by omega)
      exact hK.out _ _ ⟨(by rw [ha.out]; exact putSel_upk 15 hb_ rfl rfl rfl), hI⟩
    refine steps_cons ?_ ?_
    · rintro b a w' ⟨ha, hI⟩ hb_ hon hoff
      refine ⟨_, rfl, fun K hK => ?_⟩
      have e21 : a.tmps[21]? = some (.map (some p)) := by rw [ha]; exact putSel_on (e := (3, 21, .map (some p))) 3 rfl rfl (hon 3 (by kernel_rfl)) (by rw [hsz]; rfl)
      have e23 : a.tmps[23]? = some (.string (s.extract 0 2)) := by rw [ha]; exact putSel_on (e := (5, 23, .string (s.extract 0 2))) 5 rfl rfl (hon 5 (by kernel_rfl)) (by rw [hsz]; rfl)
      replace ha := Aside0.mk ha
      obtain ⟨p4, p5⟩ := hI.get
      refine value_ (w1 := setObj w' p (half lp (s.extract 0 2))) (v := .tuple #[.string ⟨#[]⟩, .int .i64 lp.length]) (by rfl) rfl ?_ ?_
      · exact exec_entry rfl (eval_of e21) (eval_of e23) (by have h := hI.pt; rw [hb_, show b 18 = false from hoff 18 (by kernel_rfl)] at h; exact h) hlp
      exact hK.out _ _ ⟨(by rw [ha.out]; exact putSel_upk 16 hb_ rfl rfl rfl), hI.toP (o := half lp (s.extract 0 2)) (by rw [show up b 16 18 = false from (up_ne (by decide)).trans (hoff 18 (by kernel_rfl))]; rfl)⟩
    refine steps_cons ?_ ?_
    · rintro b a w' ⟨ha, hI⟩ hb_ hon hoff
      refine ⟨_, rfl, fun K hK => ?_⟩
      have e34 : a.tmps[34]? = some (.tuple #[.string ⟨#[]⟩, .int .i64 lp.length]) := by rw [ha]; exact putSel_on (e := (16, 34, .tuple #[.string ⟨#[]⟩, .int .i64 lp.length])) 16 rfl rfl (hon 16 (by kernel_rfl)) (by rw [hsz]; rfl)
      replace ha := Aside0.mk ha
      obtain ⟨p4, p5⟩ := hI.get
      refine value_ (w1 := w') (v := .int .i64 lp.length) (by rfl) rfl ?_ ?_
      · go_simp; try rfl
        all_goals (try (simp only [IntKind.wrap_i64]; omega))
      exact hK.out _ _ ⟨(by rw [ha.out]; exact putSel_upk 17 hb_ rfl rfl rfl), hI⟩
    refine steps_cons ?_ ?_
    · rintro b a w' ⟨ha, hI⟩ hb_ hon hoff
      refine ⟨_, rfl, fun K hK => ?_⟩
      have e21 : a.tmps[21]? = some (.map (some p)) := by rw [ha]; exact putSel_on (e := (3, 21, .map (some p))) 3 rfl rfl (hon 3 (by kernel_rfl)) (by rw [hsz]; rfl)
      have e31 : a.tmps[31]? = some (.string (s.extract 2 3)) := by rw [ha]; exact putSel_on (e := (13, 31, .string (s.extract 2 3))) 13 rfl rfl (hon 13 (by kernel_rfl)) (by rw [hsz]; rfl)
      have e35 : a.tmps[35]? = some (.int .i64 lp.length) := by rw [ha]; exact putSel_on (e := (17, 35, .int .i64 lp.length)) 17 rfl rfl (hon 17 (by kernel_rfl)) (by rw [hsz]; rfl)
      replace ha := Aside0.mk ha
      obtain ⟨p4, p5⟩ := hI.get
      refine skip_ (w1 := setObj w' p (obj (lp ++ [(s.extract 0 2, s.extract 2 3)]))) (by rfl) rfl ?_ ?_
      · exact exec_put rfl (eval_of e21) (eval_of e35) (eval_of e31) (by have h := hI.pt; rw [hb_, show b 16 = true from hon 16 (by kernel_rfl)] at h; exact h)
      exact hK.out _ _ ⟨(by rw [ha.out]; exact (putSel_same rfl).symm), hI.toP (o := obj (lp ++ [(s.extract 0 2, s.extract 2 3)])) (by rfl)⟩
    refine steps_cons ?_ ?_
    · rintro b a w' ⟨ha, hI⟩ hb_ hon hoff
      refine ⟨_, rfl, fun K hK => ?_⟩
      have e27 : a.tmps[27]? = some (.map (some g)) := by rw [ha]; exact putSel_on (e := (9, 27, .map (some g))) 9 rfl rfl (hon 9 (by kernel_rfl)) (by rw [hsz]; rfl)
      have e29 : a.tmps[29]? = some (.string (s.extract 0 2)) := by rw [ha]; exact putSel_on (e := (11, 29, .string (s.extract 0 2))) 11 rfl rfl (hon 11 (by kernel_rfl)) (by rw [hsz]; rfl)
      replace ha := Aside0.mk ha
      obtain ⟨p4, p5⟩ := hI.get
      refine value_ (w1 := setObj w' g (half lg (s.extract 0 2))) (v := .tuple #[.string ⟨#[]⟩, .int .i64 lg.length]) (by rfl) rfl ?_ ?_
      · exact exec_entry rfl (eval_of e27) (eval_of e29) (by have h := hI.gr; rw [hb_, show b 21 = false from hoff 21 (by kernel_rfl)] at h; exact h) hlg
      exact hK.out _ _ ⟨(by rw [ha.out]; exact putSel_upk 18 hb_ rfl rfl rfl), hI.toG (o := half lg (s.extract 0 2)) (by rw [show up b 19 21 = false from (up_ne (by decide)).trans (hoff 21 (by kernel_rfl))]; rfl)⟩
    refine steps_cons ?_ ?_
    · rintro b a w' ⟨ha, hI⟩ hb_ hon hoff
      refine ⟨_, rfl, fun K hK => ?_⟩
      have e36 : a.tmps[36]? = some (.tuple #[.string ⟨#[]⟩, .int .i64 lg.length]) := by rw [ha]; exact putSel_on (e := (19, 36, .tuple #[.string ⟨#[]⟩, .int .i64 lg.length])) 18 rfl rfl (hon 19 (by kernel_rfl)) (by rw [hsz]; rfl)
      replace ha := Aside0.mk ha
      obtain ⟨p4, p5⟩ := hI.get
      refine value_ (w1 := w') (v := .int .i64 lg.length) (by rfl) rfl ?_ ?_
      · go_simp; try rfl
        all_goals (try (simp only [IntKind.wrap_i64]; omega))
      exact hK.out _ _ ⟨(by rw [ha.out]; exact putSel_upk 19 hb_ rfl rfl rfl), hI⟩
    refine steps_cons ?_ ?_
    · rintro b a w' ⟨ha, hI⟩ hb_ hon hoff
      refine ⟨_, rfl, fun K hK => ?_⟩
      have e27 : a.tmps[27]? = some (.map (some g)) := by rw [ha]; exact putSel_on (e := (9, 27, .map (some g))) 9 rfl rfl (hon 9 (by kernel_rfl)) (by rw [hsz]; rfl)
      have e33 : a.tmps[33]? = some (.string (s.extract 3 s.size)) := by rw [ha]; exact putSel_on (e := (15, 33, .string (s.extract 3 s.size))) 15 rfl rfl (hon 15 (by kernel_rfl)) (by rw [hsz]; rfl)
      have e37 : a.tmps[37]? = some (.int .i64 lg.length) := by rw [ha]; exact putSel_on (e := (20, 37, .int .i64 lg.length)) 19 rfl rfl (hon 20 (by kernel_rfl)) (by rw [hsz]; rfl)
      replace ha := Aside0.mk ha
      obtain ⟨p4, p5⟩ := hI.get
      refine skip_ (w1 := setObj w' g (obj (lg ++ [(s.extract 0 2, s.extract 3 s.size)]))) (by rfl) rfl ?_ ?_
      · exact exec_put rfl (eval_of e27) (eval_of e37) (eval_of e33) (by have h := hI.gr; rw [hb_, show b 19 = true from hon 19 (by kernel_rfl)] at h; exact h)
      exact hK.out _ _ ⟨(by rw [ha.out]; exact (putSel_same rfl).symm), hI.toG (o := obj (lg ++ [(s.extract 0 2, s.extract 3 s.size)])) (by rfl)⟩
    exact steps_nil
  rintro b a w1 hall ⟨ha, hI1⟩
  simp only [hall 16 (by kernel_rfl), hall 18 (by kernel_rfl), hall 19 (by kernel_rfl), hall 21 (by kernel_rfl)] at hI1
  exact hend a w1 hI1 (by rw [ha]; simp only [putSel, if_true, hall 0 (by kernel_rfl), hall 1 (by kernel_rfl), hall 2 (by kernel_rfl), hall 3 (by kernel_rfl), hall 4 (by kernel_rfl), hall 5 (by kernel_rfl), hall 6 (by kernel_rfl), hall 7 (by kernel_rfl), hall 8 (by kernel_rfl), hall 9 (by kernel_rfl), hall 10 (by kernel_rfl), hall 11 (by kernel_rfl), hall 12 (by kernel_rfl), hall 13 (by kernel_rfl), hall 14 (by kernel_rfl), hall 15 (by kernel_rfl), hall 16 (by kernel_rfl), hall 17 (by kernel_rfl), hall 19 (by kernel_rfl), hall 20 (by kernel_rfl)]) (by rw [ha]; exact (putSel_size b _ a0).2)
end Go.Proofs.YtgjboghnnhcgiaaGreatDoor.M
namespace Go.Proofs.YtgjboghnnhcgiaaGreatDoor.M
open Go.RowKit
open Go.Proofs.YtgjboghnnhcgiaaGreatDoorW.PrintWords Go.Proofs.YtgjboghnnhcgiaaGreatDoorW.PrintLast
set_option linter.unusedVariables false
set_option linter.unusedSimpArgs false
theorem row_at (i : Nat) (h : i < 8) : ∃ s : ByteArray, rowL[i]? = some (.string s) ∧ 3 ≤ s.size ∧ s.size ≤ 100 ∧ look (ptsL.take i) (s.extract 0 2) = none ∧ look (grsL.take i) (s.extract 0 2) = none ∧
    ptsL.take i ++ [(s.extract 0 2, s.extract 2 3)] = ptsL.take (i + 1) ∧ grsL.take i ++ [(s.extract 0 2, s.extract 3 s.size)] = grsL.take (i + 1) := by
  match i, h with
  | 0, _ => exact ⟨_, rfl, by decide, by decide, by kernel_rfl, by kernel_rfl, by kernel_rfl, by kernel_rfl⟩
  | 1, _ => exact ⟨_, rfl, by decide, by decide, by kernel_rfl, by kernel_rfl, by kernel_rfl, by kernel_rfl⟩
  | 2, _ => exact ⟨_, rfl, by decide, by decide, by kernel_rfl, by kernel_rfl, by kernel_rfl, by kernel_rfl⟩
  | 3, _ => exact ⟨_, rfl, by decide, by decide, by kernel_rfl, by kernel_rfl, by kernel_rfl, by kernel_rfl⟩
  | 4, _ => exact ⟨_, rfl, by decide, by decide, by kernel_rfl, by kernel_rfl, by kernel_rfl, by kernel_rfl⟩
  | 5, _ => exact ⟨_, rfl, by decide, by decide, by kernel_rfl, by kernel_rfl, by kernel_rfl, by kernel_rfl⟩
  | 6, _ => exact ⟨_, rfl, by decide, by decide, by kernel_rfl, by kernel_rfl, by kernel_rfl, by kernel_rfl⟩
  | 7, _ => exact ⟨_, rfl, by decide, by decide, by kernel_rfl, by kernel_rfl, by kernel_rfl, by kernel_rfl⟩
theorem St.start {b : Nat} {d s a : Int} {W : World} (h : Mk b d s a none none W) :
    St W b d s a W.heap.size (W.heap.size + 1) (W.heap.size + 1 + 1) [] [] ⟨#[]⟩ ⟨#[]⟩ ⟨#[]⟩ false false false false
      (((((W.setCell ⟨b, 4, none⟩ (.map (some W.heap.size))).setCell ⟨b, 5, none⟩ (.map (some (W.heap.size + 1)))).alloc (.map #[] 0)).alloc (.map #[] 0)).alloc (.cells rowL 9)) := by
  have hb := h.lt
  have k4 := (h.s4 (some W.heap.size)).s5 (some (W.heap.size + 1))
  have g4 : W.grownBy ((W.setCell ⟨b, 4, none⟩ (.map (some W.heap.size))).setCell ⟨b, 5, none⟩ (.map (some (W.heap.size + 1)))) (some b) := (grown_setCell _ b 4 _).trans (grown_setCell _ b 5 _)
  have z4 : ((W.setCell ⟨b, 4, none⟩ (.map (some W.heap.size))).setCell ⟨b, 5, none⟩ (.map (some (W.heap.size + 1)))).heap.size = W.heap.size := by simp [World.setCell]
  generalize (W.setCell ⟨b, 4, none⟩ (.map (some W.heap.size))).setCell ⟨b, 5, none⟩ (.map (some (W.heap.size + 1))) = V at *
  have z5 : (V.alloc (.map #[] 0)).heap.size = W.heap.size + 1 := by simp [z4]
  have z6 : ((V.alloc (.map #[] 0)).alloc (.map #[] 0)).heap.size = W.heap.size + 1 + 1 := by simp [z4]
  have m1 := heap_alloc_new V (.map #[] 0)
  have m2 := heap_alloc_new (V.alloc (.map #[] 0)) (.map #[] 0)
  have m3 := heap_alloc_new ((V.alloc (.map #[] 0)).alloc (.map #[] 0)) (.cells rowL 9)
  rw [z4] at m1
  rw [z5] at m2
  rw [z6] at m3
  refine ⟨⟨(((heap_alloc_old _ _ (by rw [z6]; omega)).trans (heap_alloc_old _ _ (by rw [z5]; omega))).trans (heap_alloc_old _ _ (by rw [z4]; omega))).trans k4.blk⟩, ((heap_alloc_old _ _ (by rw [z6]; omega)).trans (heap_alloc_old _ _ (by rw [z5]; omega))).trans m1, (heap_alloc_old _ _ (by rw [z6]; omega)).trans m2, m3,
    ((g4.trans (World.grownBy_alloc _ _ _)).trans (World.grownBy_alloc _ _ _)).trans (World.grownBy_alloc _ _ _), by omega, by omega, by omega⟩
theorem St.next {w0 : World} {b : Nat} {d s a : Int} {p g q : Nat} {lp lg lp' lg' : List (ByteArray × ByteArray)} {k x y : ByteArray} {W : World} (h : St w0 b d s a p g q lp lg k x y true true true true W) (h1 : lp ++ [(k, x)] = lp') (h2 : lg ++ [(k, y)] = lg') :
    St w0 b d s a p g q lp' lg' ⟨#[]⟩ ⟨#[]⟩ ⟨#[]⟩ false false false false W := by
  subst h1; subst h2
  exact ⟨h.ck, h.pt, h.gr, h.rw, h.gw, h.np, h.ng, h.pg⟩
set_option maxRecDepth 100000 in
set_option maxHeartbeats 4000000 in
theorem fill_any : Fills := by
  intro b d s a W h
  have hst := St.start h
  have hm := fun w => run_makeMap (P := Tryz.prog) 60 w
  have hlt := h.lt
  have f4 := h.fz 4
  have f5 := h.fz 5
  have c4 := h.c4
  have c5 := h.c5
  generalize hp : W.heap.size = p at *
  go_enter Tryz.func69, Tryz.ntmps69
  go_wp2
  subst hp
  have HS := Lib.hid hst; clear hst hm f4 f5 c4 c5 hlt
  go_loopg [14] 8 (fun gk v14 wx => ∃ i : Nat, v14 = .int .i64 i ∧ i + gk = 8 ∧ St W b d s a W.heap.size (W.heap.size + 1) (W.heap.size + 1 + 1) (ptsL.take i) (grsL.take i) ⟨#[]⟩ ⟨#[]⟩ ⟨#[]⟩ false false false false wx)
  case atStart => exact ⟨0, rfl, by omega, HS.out⟩
  case round =>
    obtain ⟨i, rfl, hi, hst⟩ := hrel
    clear HS
    by_cases hp : i < 8
    · obtain ⟨k, rfl⟩ : ∃ f, gk = f + 1 := ⟨gk - 1, by omega⟩
      obtain ⟨t, ht, t3, t9, l1, l2, n1, n2⟩ := row_at i hp
      have c0 := (Lib.cell_of_heap hst.rw i).trans ht
      go_wp2
      refine fill_round W b d s a W.heap.size (W.heap.size + 1) (W.heap.size + 1 + 1) (ptsL.take i) (grsL.take i) t t3 t9 l1 l2 _ rfl rfl rfl wr ?_ _ ?_
      · exact ⟨hst.ck.drew, hst.pt, hst.gr, hst.rw, hst.gw.trans (grown_drew _ _), hst.np, hst.ng, hst.pg⟩
      intro a9 w9 h9 ha9 hd9
      have hn := h9.next n1 n2
      rw [ha9]
      simp only [putSel, if_true, Act.put, List.setIfInBounds_toArray, List.set_cons_zero, List.set_cons_succ]
      clear ha9 hd9 h9 hst
      have HN := Lib.hid hn; clear hn
      go_wp2
      go_roundg k
      case measure => omega
      case rel => exact ⟨i + 1, by simp, by omega, HN.out⟩
    · obtain rfl : i = 8 := by omega
      have hg := hst.gw
      have hF : Full b d s a W.heap.size (W.heap.size + 1) wr := ⟨hst.ck, hst.pt, hst.gr⟩
      go_wp2
      go_end0
      exact ⟨rfl, _, _, hF, hg⟩
end Go.Proofs.YtgjboghnnhcgiaaGreatDoor.M
namespace Go.Proofs.YtgjboghnnhcgiaaGreatDoor.M
open Go.RowKit
set_option linter.unusedVariables false
set_option linter.unusedSimpArgs false
def ptC (lang : ByteArray) : ByteArray := if (look ptsL lang).isSome = true then (look ptsL lang).getD ⟨#[]⟩ else ⟨#[46]⟩
def grC (lang : ByteArray) : ByteArray := if (look ptsL lang).isSome = true then (look grsL lang).getD ⟨#[]⟩ else ⟨#[44]⟩
def Mks (b : Nat) (n : Int) (W : World) : Prop := (Mk b 0 0 0 none none W ∧ n = 0) ∨ ∃ p g, Full b 1 0 n p g W
theorem Mks.drew {b : Nat} {n : Int} {W : World} (h : Mks b n W) : Mks b n W.drew := by
  rcases h with ⟨h, e⟩ | ⟨p, g, h⟩
  · exact .inl ⟨h.drew, e⟩
  · exact .inr ⟨p, g, h.drew⟩
theorem Mks.step {b : Nat} {n : Int} {W W1 : World} (h : Mks b n W) (c : Below W.heap.size W W1) : Mks b n W1 := by
  have hg := grown_below (row := none) c (Nat.le_refl _)
  rcases h with ⟨h, e⟩ | ⟨p, g, h⟩
  · exact .inl ⟨h.kept hg (by simp), e⟩
  · exact .inr ⟨p, g, h.kept hg (by simp)⟩
theorem Mks.cell {b : Nat} {n : Int} {W : World} (h : Mks b n W) : W.cell? ⟨b, 3, none⟩ = some (.int .i64 n) := by
  rcases h with ⟨h, rfl⟩ | ⟨p, g, h⟩
  · exact h.c3
  · exact h.ck.c3
theorem do_mks {b : Nat} {n : Int} {w : World} (h : Mks b n w) :
    Calls Tryz.prog 68 #[.pointer (some ⟨b, 0, none⟩), .func (.func 69) #[.pointer (some ⟨b, 0, none⟩)] #[]] w fun e w' => e = .returned (.tuple #[]) ∧ ∃ p g, Full b 1 0 n p g w' ∧ w.grownBy w' (some b) := by
  rcases h with ⟨h, rfl⟩ | ⟨p, g, h⟩
  · exact do_first fill_any b 0 w h
  · exact (do_done b n _ _ _ w h.ck).mono fun e w' ⟨he, hw⟩ => ⟨he, p, g, by rw [hw]; exact h, by rw [hw]; exact grown_refl _ _⟩
theorem add_full {b : Nat} {n : Int} (hn : 0 ≤ n) (hn9 : n ≤ 1000) {p g : Nat} {w : World} (h : Full b 1 0 n p g w) :
    Calls Tryz.prog 70 #[.pointer (some ⟨b, 3, none⟩), .int .i64 1] w fun e w' => e = .returned (.int .i64 (n + 1)) ∧ Full b 1 0 (n + 1) p g w' ∧ w.grownBy w' (some b) :=
  (add_any b 1 0 n _ _ hn hn9 w h.ck).mono fun e w' ⟨he, hw⟩ => ⟨he, by rw [hw]; exact h.s3 _, by rw [hw]; exact grown_setCell _ b 3 _⟩
theorem Full.looks {b : Nat} {d s n : Int} {p g : Nat} {W : World} (h : Full b d s n p g W) (k : ByteArray) :
    (Instr.lookup 60 (.map (some p)) (.string k) true).run Tryz.prog W = .ok (.tuple #[.string ((look ptsL k).getD ⟨#[]⟩), .bool (look ptsL k).isSome]) W ∧
    (Instr.lookup 60 (.map (some g)) (.string k) false).run Tryz.prog W = .ok (.string ((look grsL k).getD ⟨#[]⟩)) W :=
  ⟨run_look Tryz.underlying60 Tryz.underlying9 zstr h.pt k true, run_look Tryz.underlying60 Tryz.underlying9 zstr h.gr k false⟩
set_option maxRecDepth 100000 in
set_option maxHeartbeats 4000000 in
theorem of_any (b : Nat) (n : Int) (hn : 0 ≤ n) (hn9 : n ≤ 1000) (lang : ByteArray) (w : World) (h : Mks b n w) :
    Calls Tryz.prog 35 #[.pointer (some ⟨b, 0, none⟩), .string lang] w fun e w' => e = .returned (.tuple #[.string (ptC lang), .string (grC lang)]) ∧ Mks b (n + 1) w' ∧ w.grownBy w' (some b) := by
  have hmf : ∀ (fn : Fn) (first cap : Array Value) (w : World), (Instr.makeFunc fn first cap).run Tryz.prog w = .ok (.func fn first cap) w := fun _ _ _ _ => rfl
  have hpx : ∀ z, (look ptsL lang).isSome = z → ptC lang = if z = true then (look ptsL lang).getD ⟨#[]⟩ else ⟨#[46]⟩ := fun z hz => by unfold ptC; rw [hz]
  have hgx : ∀ z, (look ptsL lang).isSome = z → grC lang = if z = true then (look grsL lang).getD ⟨#[]⟩ else ⟨#[44]⟩ := fun z hz => by unfold grC; rw [hz]
  generalize ptC lang = px at *
  generalize grC lang = gx at *
  go_enter Tryz.func35, Tryz.ntmps35
  go_upto_region 3 with (first
    | (go_at_call 68; refine (do_mks h).mono ?_; rintro e w1 ⟨rfl, p, g, h1, g1⟩)
    | (go_at_call 70; refine (add_full hn hn9 h1).mono ?_; rintro e w2 ⟨rfl, h2, g2⟩))
  obtain ⟨l1, l2⟩ := h2.looks lang
  obtain ⟨l3, l4⟩ := h2.drew.looks lang
  have hg := g1.trans g2
  have c4 := h2.ck.c4
  have c5 := h2.ck.c5
  have hF : Mks b (n + 1) w2 := .inr ⟨p, g, h2⟩
  clear h h1 g1 g2 h2
  generalize (look ptsL lang).getD ⟨#[]⟩ = x at *
  generalize (look grsL lang).getD ⟨#[]⟩ = y at *
  generalize hz : (look ptsL lang).isSome = z at *
  have ex := hpx z rfl
  have ey := hgx z rfl
  clear hpx hgx hz
  cases z with
  | true =>
    simp only [if_true] at ex ey
    subst ex; subst ey
    go_wp2
    go_region_with (fail)
    all_goals
      go_wp2
      go_ret2
      exact ⟨rfl, by first | exact hF | exact hF.drew, by first | exact hg | exact hg.trans (grown_drew _ _)⟩
  | false =>
    simp only [Bool.false_eq_true, if_false] at ex ey
    subst ex; subst ey
    go_wp2
    go_ret2
    exact ⟨rfl, hF, hg⟩
end Go.Proofs.YtgjboghnnhcgiaaGreatDoor.M
namespace Go.Proofs.YtgjboghnnhcgiaaGreatDoor
open Go.RowKit Go.Proofs.YtgjboghnnhcgiaaGreatDoorW.PrintWords
set_option linter.unusedVariables false
set_option linter.unusedSimpArgs false
def grpR (B : List UInt8) : List UInt8 → List UInt8
  | [] => []
  | c :: t => (if (t.length + 1) % 3 = 0 then B else []) ++ c :: grpR B t
def grp (B : List UInt8) : List UInt8 → List UInt8
  | [] => []
  | c :: t => c :: grpR B t
def restG (B D : List UInt8) (i : Nat) : List UInt8 := if i = 0 then grp B D else grpR B (D.drop i)
theorem restG_zero (B D : List UInt8) (c : UInt8) (h : D[0]? = some c) : restG B D 0 = [c] ++ restG B D (0 + 1) := by
  cases D with
  | nil => simp at h
  | cons a t =>
    have : a = c := by simpa using h
    subst this
    rfl
theorem drop_at' {D : List UInt8} {i : Nat} {c : UInt8} (h : D[i]? = some c) : D.drop i = c :: D.drop (i + 1) := by
  obtain ⟨hl, e⟩ := List.getElem?_eq_some_iff.1 h
  rw [List.drop_eq_getElem_cons hl, e]
theorem restG_yes (B D : List UInt8) (i : Nat) (c : UInt8) (h0 : i ≠ 0) (h : D[i]? = some c) (h3 : (D.length - i) % 3 = 0) : restG B D i = B ++ [c] ++ restG B D (i + 1) := by
  obtain ⟨hl, _⟩ := List.getElem?_eq_some_iff.1 h
  unfold restG
  rw [if_neg h0, if_neg (by omega), drop_at' h]
  rw [show grpR B (c :: D.drop (i + 1)) = (if ((D.drop (i + 1)).length + 1) % 3 = 0 then B else []) ++ c :: grpR B (D.drop (i + 1)) from rfl]
  rw [List.length_drop, if_pos (by omega)]
  simp
theorem restG_no (B D : List UInt8) (i : Nat) (c : UInt8) (h0 : i ≠ 0) (h : D[i]? = some c) (h3 : ¬ (D.length - i) % 3 = 0) : restG B D i = [c] ++ restG B D (i + 1) := by
  obtain ⟨hl, _⟩ := List.getElem?_eq_some_iff.1 h
  unfold restG
  rw [if_neg h0, if_neg (by omega), drop_at' h]
  rw [show grpR B (c :: D.drop (i + 1)) = (if ((D.drop (i + 1)).length + 1) % 3 = 0 then B else []) ++ c :: grpR B (D.drop (i + 1)) from rfl]
  rw [List.length_drop, if_neg (by omega)]
  simp
theorem grpR_len (B : List UInt8) : ∀ L, (grpR B L).length ≤ (B.length + 1) * L.length
  | [] => by simp [grpR]
  | c :: t => by
    have := grpR_len B t
    unfold grpR
    rw [List.length_append, List.length_cons, List.length_cons, Nat.mul_add, Nat.mul_one]
    split <;> simp <;> omega
set_option maxRecDepth 100000 in
set_option maxHeartbeats 4000000 in
theorem group_any (d b : ByteArray) (w : World) (hd : d.size ≤ 1000) (hb : b.size ≤ 1000) :
    Calls Tryz.prog 36 #[.string d, .string b] w fun e w' => e = .returned (.string ⟨(grp b.data.toList d.data.toList).toArray⟩) ∧ Below w.heap.size w w' := by
  have hl : d.data.toList.length = d.size := (Lib.size_eq d).symm
  have hlb : b.data.toList.length = b.size := (Lib.size_eq b).symm
  have hfresh := Lib.fresh_isBuffer 132 5 w
  obtain ⟨R, hR⟩ : ∃ R, grp b.data.toList d.data.toList = R := ⟨_, rfl⟩
  rw [hR]
  have hRl : R.length ≤ 1001 * 1000 + 1 := by
    rw [← hR]
    cases h : d.data.toList with
    | nil => simp [grp]
    | cons c t =>
      rw [h, List.length_cons] at hl
      have := grpR_len b.data.toList t
      have h2 : (b.data.toList.length + 1) * t.length ≤ 1001 * 1000 := Nat.mul_le_mul (by omega) (by omega)
      show (c :: grpR _ t).length ≤ _
      rw [List.length_cons]
      omega
  have HR := Lib.hid hR; clear hR
  go_enter Tryz.func36, Tryz.ntmps36
  go_wp2
  go_loopg [9] d.size (fun gk si wx => ∃ (i : Nat) (acc : List UInt8), si = .int .i64 i ∧ i ≤ d.size ∧ Lib.IsBuffer 132 5 w.heap.size w.heap.size (Lib.byteCells acc) wx ∧ Below w.heap.size w wx ∧ acc ++ restG b.data.toList d.data.toList i = R ∧ d.size ≤ i + gk)
  case atStart => exact ⟨0, [], rfl, by omega, hfresh, (Below.refl _ _).alloc (Nat.le_refl _) _, by rw [← HR.out]; rfl, by omega⟩
  case round =>
    obtain ⟨i, acc, rfl, hi, hI, hbw, hacc, hfu⟩ := hrel
    clear hfresh HR
    have hsz := hbw.size
    have hal : acc.length ≤ R.length := by rw [← hacc, List.length_append]; omega
    have HA := Lib.hid hacc; clear hacc
    by_cases hp : i < d.size
    · obtain ⟨f, rfl⟩ : ∃ f, gk = f + 1 := ⟨gk - 1, by omega⟩
      have hpz : (i : Int) < (d.size : Int) := by omega
      have hip : d.data.toList[i]? = some (d[i]'hp) := by rw [List.getElem?_eq_getElem (by omega)]; rfl
      have cB := fun W bs hI hB h1 h2 => Tryz.Buffer_WriteByte w.heap.size w.heap.size bs ((d[i]'hp).toNat : Int) W hI hB h1 h2
      have cS := fun W bs hI hB h1 h2 => Tryz.Buffer_WriteString w.heap.size w.heap.size bs b W hI hB h1 h2
      have hbl : (Lib.byteCells acc).length = acc.length := Lib.byteCells_length _
      have Hbl := Lib.hid hbl; clear hbl
      have Hip := Lib.hid hip; clear hip
      have Hl := Lib.hid hl; clear hl
      have Hlb := Lib.hid hlb; clear hlb
      by_cases h0 : i = 0
      · subst h0
        have e1 : restG b.data.toList d.data.toList 0 = [d[0]'hp] ++ restG b.data.toList d.data.toList (0 + 1) := restG_zero _ _ _ Hip.out
        have HE := Lib.hid e1; clear e1
        go_wp2_with (go_at_call 72; ((with_reducible refine (cB _ _ hI (by assumption) (Lib.byteCells_one _) (by rw [Hbl.out]; omega)).mono ?_); rintro e W1 ⟨rfl, hI1, hb1⟩))
        go_roundg f
        case measure => omega
        case rel => exact ⟨0 + 1, acc ++ [d[0]'hp], by go_num, by omega, by rw [Lib.byteCells_append]; exact hI1, hbw.trans hb1, by rw [← HA.out, HE.out, List.append_assoc], by omega⟩
      · have hp0 : (0 : Int) < (i : Int) := by omega
        by_cases h3 : (d.size - i) % 3 = 0
        · have hz3 : (((d.size : Int) - i) % 3 == 0) = true := by rw [beq_iff_eq]; omega
          have e1 : restG b.data.toList d.data.toList i = b.data.toList ++ [d[i]'hp] ++ restG b.data.toList d.data.toList (i + 1) := restG_yes _ _ i _ h0 Hip.out (by rw [Hl.out]; exact h3)
          have HE := Lib.hid e1; clear e1
          go_wp2_with (first
            | (go_at_call 71; ((with_reducible refine (cS _ _ hI (by assumption) (Lib.byteCells_one _) (by rw [Hbl.out]; omega)).mono ?_); rintro e W1 ⟨rfl, hI1, hb1⟩; rw [← Lib.byteCells_append] at hI1; have hs1 := hb1.size))
            | (go_at_call 72; ((with_reducible refine (cB _ _ hI1 (by omega) (Lib.byteCells_one _) (by rw [Lib.byteCells_length, List.length_append, Hlb.out]; omega)).mono ?_); rintro e W2 ⟨rfl, hI2, hb2⟩)))
          go_roundg f
          case measure => omega
          case rel => exact ⟨i + 1, acc ++ b.data.toList ++ [d[i]'hp], by go_num, by omega, by rw [Lib.byteCells_append]; exact hI2, (hbw.trans hb1).trans hb2, by rw [← HA.out, HE.out]; simp, by omega⟩
        · have hz3 : (((d.size : Int) - i) % 3 == 0) = false := by rw [beq_eq_false_iff_ne]; omega
          have e1 : restG b.data.toList d.data.toList i = [d[i]'hp] ++ restG b.data.toList d.data.toList (i + 1) := restG_no _ _ i _ h0 Hip.out (by rw [Hl.out]; exact h3)
          have HE := Lib.hid e1; clear e1
          go_wp2_with (go_at_call 72; ((with_reducible refine (cB _ _ hI (by assumption) (Lib.byteCells_one _) (by rw [Hbl.out]; omega)).mono ?_); rintro e W1 ⟨rfl, hI1, hb1⟩))
          go_roundg f
          case measure => omega
          case rel => exact ⟨i + 1, acc ++ [d[i]'hp], by go_num, by omega, by rw [Lib.byteCells_append]; exact hI1, hbw.trans hb1, by rw [← HA.out, HE.out, List.append_assoc], by omega⟩
    · obtain rfl : i = d.size := by omega
      have e1 : restG b.data.toList d.data.toList d.size = [] := by
        unfold restG
        by_cases h0 : d.size = 0
        · rw [if_pos h0, List.eq_nil_of_length_eq_zero (show d.data.toList.length = 0 by omega)]; rfl
        · rw [if_neg h0, List.drop_eq_nil_of_le (by omega)]; rfl
      have e2 : acc = R := by rw [← HA.out, e1, List.append_nil]
      subst e2
      have cT := Tryz.Buffer_String w.heap.size w.heap.size acc wr hI
      clear HA e1
      go_wp2_with (go_at_call 73; ((with_reducible refine cT.mono ?_); rintro e W1 ⟨rfl, n, rfl⟩))
      go_ret
      exact ⟨rfl, pw_below_drewN hbw n⟩
end Go.Proofs.YtgjboghnnhcgiaaGreatDoor
namespace Go.Proofs.YtgjboghnnhcgiaaGreatDoor
open Go.RowKit Go.Proofs.YtgjboghnnhcgiaaGreatDoor.M
set_option linter.unusedVariables false
set_option linter.unusedSimpArgs false
structure Fm (w : World) (b : Nat) (cnt : Int) (n : Bool) (D : ByteArray) (k mi mf xf : Int) (pl rk : Bool) (W : World) : Prop where
  mks : Mks b cnt W
  blk : W.heap[w.heap.size]? = some (.cells #[.bool n, .string D, .int .i64 k] 23 (0, 0))
  opt : W.heap[w.heap.size + 1]? = some (.cells #[.int .i64 mi, .int .i64 mf, .int .i64 xf, .bool pl, .bool rk] 28 (0, 0))
  gw : w.grownBy W (some b)
  lt : b < w.heap.size
section
variable {w W : World} {b : Nat} {cnt k mi mf xf : Int} {n pl rk : Bool} {D : ByteArray}
theorem Fm.step {W1 : World} (h : Fm w b cnt n D k mi mf xf pl rk W) (c : Below W.heap.size W W1) : Fm w b cnt n D k mi mf xf pl rk W1 :=
  ⟨h.mks.step c, below_blockOf c (Nat.le_refl _) h.blk, below_blockOf c (Nat.le_refl _) h.opt, h.gw.trans (grown_below c (Nat.le_refl _)), h.lt⟩
theorem Fm.drew (h : Fm w b cnt n D k mi mf xf pl rk W) : Fm w b cnt n D k mi mf xf pl rk W.drew := h.step ((Below.refl _ _).drew)
theorem Fm.of {W1 : World} {c1 : Int} (h : Fm w b cnt n D k mi mf xf pl rk W) (hm : Mks b c1 W1) (hg : W.grownBy W1 (some b)) : Fm w b c1 n D k mi mf xf pl rk W1 :=
  ⟨hm, (hg.block _ (Array.getElem?_eq_some_iff.1 h.blk).1 (fun e => by have := h.lt; cases e; omega)).trans h.blk, (hg.block _ (Array.getElem?_eq_some_iff.1 h.opt).1 (fun e => by have := h.lt; cases e; omega)).trans h.opt, h.gw.trans hg, h.lt⟩
theorem Fm.get (h : Fm w b cnt n D k mi mf xf pl rk W) : W.cell? ⟨w.heap.size, 0, none⟩ = some (.bool n) ∧ W.cell? ⟨w.heap.size, 1, none⟩ = some (.string D) ∧ W.cell? ⟨w.heap.size, 2, none⟩ = some (.int .i64 k) ∧
    W.cell? ⟨w.heap.size + 1, 0, none⟩ = some (.int .i64 mi) ∧ W.cell? ⟨w.heap.size + 1, 1, none⟩ = some (.int .i64 mf) ∧ W.cell? ⟨w.heap.size + 1, 2, none⟩ = some (.int .i64 xf) ∧ W.cell? ⟨w.heap.size + 1, 3, none⟩ = some (.bool pl) ∧ W.cell? ⟨w.heap.size + 1, 4, none⟩ = some (.bool rk) :=
  ⟨(Lib.cell_of_heap h.blk 0).trans rfl, (Lib.cell_of_heap h.blk 1).trans rfl, (Lib.cell_of_heap h.blk 2).trans rfl, (Lib.cell_of_heap h.opt 0).trans rfl, (Lib.cell_of_heap h.opt 1).trans rfl, (Lib.cell_of_heap h.opt 2).trans rfl, (Lib.cell_of_heap h.opt 3).trans rfl, (Lib.cell_of_heap h.opt 4).trans rfl⟩
theorem Fm.fz (h : Fm w b cnt n D k mi mf xf pl rk W) (i : Nat) : W.frozen? ⟨w.heap.size, i, none⟩ = false := Lib.frozen_of_heap h.blk i
theorem mks_set {x : Nat} {i : Nat} {v : Value} (h : Mks b cnt W) (hx : b < x) (hW : ∀ p g, Full b 1 0 cnt p g W → x ≠ p ∧ x ≠ g) : Mks b cnt (W.setCell ⟨x, i, none⟩ v) := by
  rcases h with ⟨h, e⟩ | ⟨p, g, h⟩
  · exact .inl ⟨h.kept (M.grown_setCell W x i v) (fun e => by cases e; omega), e⟩
  · refine .inr ⟨p, g, h.kept (M.grown_setCell W x i v) (fun k hk => ?_)⟩
    cases hk
    have := hW p g h
    exact ⟨by omega, this.1, this.2⟩
theorem cells_no {b : Nat} {cnt : Int} {W : World} {x : Nat} {cs : Array Value} {T : TypeId} {fr : Nat × Nat} (hx : W.heap[x]? = some (.cells cs T fr)) : ∀ p g, Full b 1 0 cnt p g W → x ≠ p ∧ x ≠ g :=
  fun p g h => ⟨fun e => (by have := h.pt; rw [← e, hx] at this; cases this), fun e => (by have := h.gr; rw [← e, hx] at this; cases this)⟩
theorem Fm.set {i : Nat} {v : Value} (h : Fm w b cnt n D k mi mf xf pl rk W) : Mks b cnt (W.setCell ⟨w.heap.size, i, none⟩ v) ∧ w.grownBy (W.setCell ⟨w.heap.size, i, none⟩ v) (some b) :=
  ⟨mks_set h.mks h.lt (cells_no h.blk), h.gw.andThen (M.grown_setCell W w.heap.size i v) (fun j hj => by cases hj; exact .inl (Nat.le_refl _))⟩
theorem Fm.put (h : Fm w b cnt n D k mi mf xf pl rk W) (n1 : Bool) (D1 : ByteArray) (k1 : Int) :
    Fm w b cnt n1 D1 k1 mi mf xf pl rk (((W.setCell ⟨w.heap.size, 0, none⟩ (.bool n1)).setCell ⟨w.heap.size, 1, none⟩ (.string D1)).setCell ⟨w.heap.size, 2, none⟩ (.int .i64 k1)) := by
  have s0 : Fm w b cnt n1 D k mi mf xf pl rk (W.setCell ⟨w.heap.size, 0, none⟩ (.bool n1)) := ⟨h.set.1, (dc_set h.blk).trans rfl, (dc_far (by omega)).trans h.opt, h.set.2, h.lt⟩
  have s1 : Fm w b cnt n1 D1 k mi mf xf pl rk ((W.setCell ⟨w.heap.size, 0, none⟩ (.bool n1)).setCell ⟨w.heap.size, 1, none⟩ (.string D1)) := ⟨s0.set.1, (dc_set s0.blk).trans rfl, (dc_far (by omega)).trans s0.opt, s0.set.2, s0.lt⟩
  exact ⟨s1.set.1, (dc_set s1.blk).trans rfl, (dc_far (by omega)).trans s1.opt, s1.set.2, s1.lt⟩
theorem Fm.start (hm : Mks b cnt w) (hb : b < w.heap.size) (n : Bool) (D : ByteArray) (k mi mf xf : Int) (pl rk : Bool) :
    Fm w b cnt n D k mi mf xf pl rk ((w.alloc (.cells #[.bool n, .string D, .int .i64 k] 23)).alloc (.cells #[.int .i64 mi, .int .i64 mf, .int .i64 xf, .bool pl, .bool rk] 28)) := by
  have m1 := heap_alloc_new w (.cells #[.bool n, .string D, .int .i64 k] 23)
  have z1 : (w.alloc (.cells #[.bool n, .string D, .int .i64 k] 23)).heap.size = w.heap.size + 1 := by simp
  have b1 := (Below.refl w.heap.size w).alloc (Nat.le_refl _) (.cells #[.bool n, .string D, .int .i64 k] 23)
  generalize w.alloc (.cells #[.bool n, .string D, .int .i64 k] 23) = U at *
  have m2 := heap_alloc_new U (.cells #[.int .i64 mi, .int .i64 mf, .int .i64 xf, .bool pl, .bool rk] 28)
  rw [z1] at m2
  have b2 := b1.alloc (by rw [z1]; omega) (.cells #[.int .i64 mi, .int .i64 mf, .int .i64 xf, .bool pl, .bool rk] 28)
  exact ⟨hm.step b2, (Below.heap_alloc _ _ w.heap.size (by rw [z1]; omega)).trans m1, m2, M.grown_below b2 (Nat.le_refl _), hb⟩
end
def fmS (lang : ByteArray) (pl : Bool) (E : ByteArray) (K : Nat) : ByteArray := if pl = true then E.extract 0 (E.size - K) else ⟨(grp (grC lang).data.toList (E.extract 0 (E.size - K)).data.toList).toArray⟩
def fmP (lang : ByteArray) (pl : Bool) (E : ByteArray) (K : Nat) : ByteArray := if 0 < K then fmS lang pl E K ++ (ptC lang ++ E.extract (E.size - K) E.size) else fmS lang pl E K
def fmC (lang : ByteArray) (pl n : Bool) (E : ByteArray) (K : Nat) : ByteArray := if (n && !(Lib.trimB E.data.toList 48).isEmpty) = true then ⟨#[45]⟩ ++ fmP lang pl E K else fmP lang pl E K
theorem grc_len (B : List UInt8) : ∀ L : List UInt8, (grp B L).length ≤ (B.length + 1) * L.length
  | [] => by simp [grp]
  | c :: r => by
    have := grpR_len B r
    simp only [grp, List.length_cons] at *
    rw [Nat.mul_succ]
    omega
theorem look_size {l : List (ByteArray × ByteArray)} (h : l.all (fun p => decide (p.2.size ≤ 3)) = true) (k : ByteArray) : ((M.look l k).getD ⟨#[]⟩).size ≤ 3 := by
  induction l with
  | nil => show (⟨#[]⟩ : ByteArray).size ≤ 3; decide
  | cons p r ih =>
    rw [List.all_cons, Bool.and_eq_true] at h
    unfold M.look
    split
    · simpa using h.1
    · exact ih h.2
theorem ptC_size (lang : ByteArray) : (ptC lang).size ≤ 3 := by
  unfold ptC; split
  · exact look_size (by kernel_rfl) lang
  · decide
theorem grC_size (lang : ByteArray) : (grC lang).size ≤ 3 := by
  unfold grC; split
  · exact look_size (by kernel_rfl) lang
  · decide
theorem fmS_size (lang : ByteArray) (pl : Bool) (E : ByteArray) (K : Nat) (hE : E.size ≤ 900) : (fmS lang pl E K).size ≤ 3600 := by
  have hx : (E.extract 0 (E.size - K)).size ≤ 900 := by rw [ByteArray.size_extract]; omega
  unfold fmS
  split
  · omega
  · have h1 := grc_len (grC lang).data.toList (E.extract 0 (E.size - K)).data.toList
    have h2 := grC_size lang
    rw [Lib.size_eq] at h2 hx
    show (grp (grC lang).data.toList (E.extract 0 (E.size - K)).data.toList).toArray.size ≤ 3600
    simp only [List.size_toArray]
    have h3 : ((grC lang).data.toList.length + 1) * (E.extract 0 (E.size - K)).data.toList.length ≤ 4 * 900 := Nat.mul_le_mul (by omega) hx
    omega
set_option maxRecDepth 100000 in
set_option maxHeartbeats 4000000 in
theorem format_any (b : Nat) (cnt : Int) (h0 : 0 ≤ cnt) (h9 : cnt ≤ 1000) (lang : ByteArray) (mi mf xf : Int) (pl rk n : Bool) (D : ByteArray) (k : Int) (E : ByteArray) (K : Nat) (hK : K < E.size) (hE : E.size ≤ 900)
    (cS : ∀ W, Calls Tryz.prog 32 #[optV mi mf xf pl rk, decV n D k] W fun e w' => e = .returned (decV n E K) ∧ Below W.heap.size W w')
    (w : World) (hm : Mks b cnt w) (hb : b < w.heap.size) :
    Calls Tryz.prog 18 #[.pointer (some ⟨b, 0, none⟩), .string lang, decV n D k, optV mi mf xf pl rk] w fun e w' => e = .returned (.string (fmC lang pl n E K)) ∧ Mks b (cnt + 1) w' ∧ w.grownBy w' (some b) := by
  obtain ⟨F, hF0⟩ : ∃ F, fmC lang pl n E K = F := ⟨_, rfl⟩
  rw [hF0]
  have hS := Fm.start hm hb n D k mi mf xf pl rk
  have cO := fun W (h : Mks b cnt W) => M.of_any b cnt h0 h9 lang W h
  have cW := fun W => whole_any n E K W (by omega) (by omega)
  have cP := fun W => part_any n E K W (by omega) (by omega)
  have cZ := fun W => zero_any n E K W (by omega)
  have s4 := extract_size E (E.size - K) (by omega)
  have gs := grC_size lang
  have ps := ptC_size lang
  have cG := fun W => group_any (E.extract 0 (E.size - K)) (grC lang) W (by omega) (by omega)
  unfold decV optV at *
  go_enter Tryz.func18, Tryz.ntmps18
  go_upto_region 2 with (go_at_call 35; refine (cO _ hS.mks).mono ?_; rintro e W1 ⟨rfl, m1, g1⟩)
  have h1 := hS.of m1 g1
  clear m1 g1 hS cO
  obtain ⟨p0, p1, p2, p3, p4, p5, p6, p7⟩ := h1.get
  go_upto_region 3 with (go_at_call 32; refine (cS _).mono ?_; rintro e W2 ⟨rfl, b2⟩; have h2 := h1.step b2; obtain ⟨p0, p1, p2, p3, p4, p5, p6, p7⟩ := h2.get; have z0 := h2.fz 0; have z1 := h2.fz 1; have z2 := h2.fz 2)
  have h3 := h2.put n E K
  clear p0 p1 p2 p3 p4 p5 p6 p7 z0 z1 z2 h1 h2 b2 cS
  generalize ((W2.setCell ⟨w.heap.size, 0, none⟩ (.bool n)).setCell ⟨w.heap.size, 1, none⟩ (.string E)).setCell ⟨w.heap.size, 2, none⟩ (.int .i64 K) = W3 at *
  obtain ⟨p0, p1, p2, p3, p4, p5, p6, p7⟩ := h3.get
  go_upto_region 4 with (go_at_call 26; refine (cW _).mono ?_; rintro e W4 ⟨rfl, b4⟩; have h4 := h3.step b4)
  clear p0 p1 p2 p3 p4 p5 p6 p7 h3 b4 cW
  obtain ⟨p0, p1, p2, p3, p4, p5, p6, p7⟩ := h4.get
  have hS9 := fmS_size lang pl E K hE
  have hx9 : (E.extract (E.size - K) E.size).size ≤ 900 := by rw [ByteArray.size_extract]; omega
  have hfin : ∀ S, fmS lang pl E K = S → F = (if (n && !(Lib.trimB E.data.toList 48).isEmpty) = true then ⟨#[45]⟩ ++ (if 0 < K then S ++ (ptC lang ++ E.extract (E.size - K) E.size) else S) else (if 0 < K then S ++ (ptC lang ++ E.extract (E.size - K) E.size) else S)) := fun S h => by rw [← hF0]; unfold fmC fmP; rw [h]
  have cG' : pl = false → ∀ W, Calls Tryz.prog 36 #[.string (E.extract 0 (E.size - K)), .string (grC lang)] W fun e w' => e = .returned (.string (fmS lang pl E K)) ∧ Below W.heap.size W w' := fun hp W => (cG W).mono fun e w' ⟨he, hb⟩ => ⟨by rw [he, hp]; rfl, hb⟩
  have hT : pl = true → E.extract 0 (E.size - K) = fmS lang pl E K := fun hp => by rw [hp]; rfl
  clear hF0
  generalize fmS lang pl E K = S at *
  have hF := hfin S rfl
  clear hfin cG gs
  generalize E.extract 0 (E.size - K) = X at *
  generalize hY : E.extract (E.size - K) E.size = Y at *
  generalize hP : ptC lang = P at *
  generalize grC lang = G at *
  generalize hz : (Lib.trimB E.data.toList 48).isEmpty = z at *
  have a1 : (S.size : Int) ≤ 8388608 := by omega
  have a2 : (P.size : Int) ≤ 8388608 := by omega
  have a3 : (Y.size : Int) ≤ 8388608 := by omega
  have a4 : ((P ++ Y).size : Int) ≤ 8388608 := by rw [ByteArray.size_append]; omega
  have a5 : ((⟨#[45]⟩ : ByteArray).size : Int) ≤ 8388608 := by decide
  cases pl with
  | false =>
    have cGf := cG' rfl
    clear cG' hT
    go_upto_region 6 with (go_at_call 36; refine (cGf _).mono ?_; rintro e W5 ⟨rfl, b5⟩; have h5 := h4.step b5)
    clear p0 p1 p2 p3 p4 p5 p6 p7 h4 b5 cGf
    obtain ⟨p0, p1, p2, p3, p4, p5, p6, p7⟩ := h5.get
    by_cases hk0 : 0 < K
    · have g1 : decide ((K : Int) > 0) = true := decide_eq_true (by omega)
      simp only [if_pos hk0] at hF
      go_upto_region 8 with (go_at_call 27; refine (cP _).mono ?_; rintro e W6 ⟨rfl, b6⟩; have h6 := h5.step b6)
      clear p0 p1 p2 p3 p4 p5 p6 p7 h5 b6 cP
      obtain ⟨p0, p1, p2, p3, p4, p5, p6, p7⟩ := h6.get
      have s9 : ((S ++ (P ++ Y)).size : Int) ≤ 8388608 := by rw [ByteArray.size_append, ByteArray.size_append]; omega
      generalize S ++ (P ++ Y) = S2 at *
      cases n with
      | false =>
        go_wp2
        go_ret
        exact ⟨by first | (rw [hF]; simp; done) | rfl | (simp; done), h6.mks, h6.gw⟩
      | true =>
        cases z with
        | true =>
          go_wp2_with (go_at_call 28; refine (cZ _).mono ?_; rintro e W8 ⟨rfl, b8⟩; have h8 := h6.step b8)
          go_ret
          exact ⟨by first | (rw [hF]; simp; done) | rfl | (simp; done), h8.mks, h8.gw⟩
        | false =>
          go_wp2_with (go_at_call 28; refine (cZ _).mono ?_; rintro e W8 ⟨rfl, b8⟩; have h8 := h6.step b8)
          go_ret
          exact ⟨by first | (rw [hF]; simp; done) | rfl | (simp; done), h8.mks, h8.gw⟩
    · have g1 : decide ((K : Int) > 0) = false := decide_eq_false (by omega)
      simp only [if_neg hk0] at hF
      go_upto_region 8 with (fail)
      cases n with
      | false =>
        go_wp2
        go_ret
        exact ⟨by first | (rw [hF]; simp; done) | rfl | (simp; done), h5.mks, h5.gw⟩
      | true =>
        cases z with
        | true =>
          go_wp2_with (go_at_call 28; refine (cZ _).mono ?_; rintro e W8 ⟨rfl, b8⟩; have h8 := h5.step b8)
          go_ret
          exact ⟨by first | (rw [hF]; simp; done) | rfl | (simp; done), h8.mks, h8.gw⟩
        | false =>
          go_wp2_with (go_at_call 28; refine (cZ _).mono ?_; rintro e W8 ⟨rfl, b8⟩; have h8 := h5.step b8)
          go_ret
          exact ⟨by first | (rw [hF]; simp; done) | rfl | (simp; done), h8.mks, h8.gw⟩
  | true =>
    obtain rfl := hT rfl
    clear cG'
    go_upto_region 6 with (fail)
    by_cases hk0 : 0 < K
    · have g1 : decide ((K : Int) > 0) = true := decide_eq_true (by omega)
      simp only [if_pos hk0] at hF
      go_upto_region 8 with (go_at_call 27; refine (cP _).mono ?_; rintro e W6 ⟨rfl, b6⟩; have h6 := h4.step b6)
      clear p0 p1 p2 p3 p4 p5 p6 p7 h4 b6 cP
      obtain ⟨p0, p1, p2, p3, p4, p5, p6, p7⟩ := h6.get
      have s9 : ((X ++ (P ++ Y)).size : Int) ≤ 8388608 := by rw [ByteArray.size_append, ByteArray.size_append]; omega
      generalize X ++ (P ++ Y) = S2 at *
      cases n with
      | false =>
        go_wp2
        go_ret
        exact ⟨by first | (rw [hF]; simp; done) | rfl | (simp; done), h6.mks, h6.gw⟩
      | true =>
        cases z with
        | true =>
          go_wp2_with (go_at_call 28; refine (cZ _).mono ?_; rintro e W8 ⟨rfl, b8⟩; have h8 := h6.step b8)
          go_ret
          exact ⟨by first | (rw [hF]; simp; done) | rfl | (simp; done), h8.mks, h8.gw⟩
        | false =>
          go_wp2_with (go_at_call 28; refine (cZ _).mono ?_; rintro e W8 ⟨rfl, b8⟩; have h8 := h6.step b8)
          go_ret
          exact ⟨by first | (rw [hF]; simp; done) | rfl | (simp; done), h8.mks, h8.gw⟩
    · have g1 : decide ((K : Int) > 0) = false := decide_eq_false (by omega)
      simp only [if_neg hk0] at hF
      go_upto_region 8 with (fail)
      cases n with
      | false =>
        go_wp2
        go_ret
        exact ⟨by first | (rw [hF]; simp; done) | rfl | (simp; done), h4.mks, h4.gw⟩
      | true =>
        cases z with
        | true =>
          go_wp2_with (go_at_call 28; refine (cZ _).mono ?_; rintro e W8 ⟨rfl, b8⟩; have h8 := h4.step b8)
          go_ret
          exact ⟨by first | (rw [hF]; simp; done) | rfl | (simp; done), h8.mks, h8.gw⟩
        | false =>
          go_wp2_with (go_at_call 28; refine (cZ _).mono ?_; rintro e W8 ⟨rfl, b8⟩; have h8 := h4.step b8)
          go_ret
          exact ⟨by first | (rw [hF]; simp; done) | rfl | (simp; done), h8.mks, h8.gw⟩
end Go.Proofs.YtgjboghnnhcgiaaGreatDoor
namespace Go.Proofs.YtgjboghnnhcgiaaGreatDoor.G
open Go.RowKit Go.Proofs.YtgjboghnnhcgiaaGreatDoorW.PrintWords
set_option linter.unusedVariables false
set_option linter.unusedSimpArgs false
theorem isNaN_str (s : ByteArray) (w : World) : Calls Tryz.prog 92 #[.string s] w fun e w' => e = .returned (.bool false) ∧ w = w' := by
  go_enter Tryz.func92, Tryz.ntmps92
  go_wp2
  go_ret
  exact ⟨by simp, rfl⟩
def cmpS (a b : List UInt8) : Int := if Op.bytesLess a b = true then -1 else if (a == b) = true then 0 else 1
theorem cmp_str (a b : ByteArray) (w : World) : Calls Tryz.prog 51 #[.string a, .string b] w fun e w' => e = .returned (.int .i64 (cmpS a.toList b.toList)) ∧ w = w' := by
  unfold cmpS
  have cN := isNaN_str
  by_cases h1 : Op.bytesLess a.toList b.toList = true
  · rw [if_pos h1]
    go_enter Tryz.func51, Tryz.ntmps51
    go_wp2_with (go_at_call 92; refine (cN _ _).mono ?_; rintro e w' ⟨rfl, rfl⟩)
    go_ret
    exact ⟨rfl, rfl⟩
  · have h1 : Op.bytesLess a.toList b.toList = false := by simpa using h1
    rw [if_neg (by rw [h1]; decide)]
    by_cases h2 : (a.toList == b.toList) = true
    · rw [if_pos h2]
      go_enter Tryz.func51, Tryz.ntmps51
      go_wp2_with (go_at_call 92; refine (cN _ _).mono ?_; rintro e w' ⟨rfl, rfl⟩)
      go_ret
      exact ⟨rfl, rfl⟩
    · have h2 : (a.toList == b.toList) = false := Bool.eq_false_iff.mpr h2
      rw [if_neg (by rw [h2]; decide)]
      go_enter Tryz.func51, Tryz.ntmps51
      go_wp2_with (go_at_call 92; refine (cN _ _).mono ?_; rintro e w' ⟨rfl, rfl⟩)
      go_ret
      exact ⟨rfl, rfl⟩
def cmp_Compare_string.f (a b : ByteArray) : Option Int := some (cmpS a.toList b.toList)
theorem cmp_Compare_string.calls (a b : ByteArray) (r : Int) (w : World) (h : cmp_Compare_string.f a b = some r) :
    Calls Tryz.prog 51 #[.string a, .string b] w fun e w' => e = .returned (.int .i64 r) ∧ Drawn0 w w' := by
  obtain rfl := Option.some.inj h
  exact (cmp_str a b w).mono fun e w' ⟨he, hw⟩ => ⟨he, by subst hw; exact Drawn0.refl _⟩
def cmp_Compare_int.f (a b : Int) : Option Int := some (Lib.compareInt a b)
theorem cmp_Compare_int.calls (a b r : Int) (w : World) (h : cmp_Compare_int.f a b = some r) :
    Calls Tryz.prog 50 #[.int .i64 a, .int .i64 b] w fun e w' => e = .returned (.int .i64 r) ∧ Drawn0 w w' := by
  obtain rfl := Option.some.inj h
  exact (Tryz.cmp_Compare_int a b w).mono fun e w' ⟨he, hw⟩ => ⟨he, by subst hw; exact Drawn0.refl _⟩
end Go.Proofs.YtgjboghnnhcgiaaGreatDoor.G
namespace Go.Proofs.YtgjboghnnhcgiaaGreatDoorW.PrintLast
section
variable {P : Program} {ops : Array Oper} {Q : Exit → Act → World → Prop} {md : Region.Mode} {S : World → Prop} {ds : List Nat} {T : Bool × List (List Nat × List Nat)}
end
end Go.Proofs.YtgjboghnnhcgiaaGreatDoorW.PrintLast
namespace Go.Proofs.YtgjboghnnhcgiaaGreatDoorW.PrintWords
open Go.RowKit
section
variable {w w' u : World} {m B g : Nat} {o : Obj} {row : Option Nat} {S : Nat → Prop} {a : Addr} {v : Value}
end
namespace Kd
section
variable {α : Type} {d : Kd α} {e base n m : Nat} {ok : Nat → Prop} {w w' : World} {v : Value} {A : Option Addr} {xs : List α}
end
end Kd
end Go.Proofs.YtgjboghnnhcgiaaGreatDoorW.PrintWords
namespace Go.Proofs.YtgjboghnnhcgiaaGreatDoorW.PrintWords
open Go.RowKit
section
variable {P : Program} {d : Nat} {xs ys : Array Value} {f : Field} {fs : List Field} {a b : Value} {r s : Bool} {w : World}
end
end Go.Proofs.YtgjboghnnhcgiaaGreatDoorW.PrintWords
namespace Go.Proofs.YtgjboghnnhcgiaaGreatDoorW.PrintWords
theorem Reps.one {α : Type} {R : α → List Value → Prop} {ps : List α} {cs : List Value} {p : α} {v : Value} (hp : R p [v]) (h : Reps R 1 ps cs) : Reps R 1 (p :: ps) (v :: cs) := by
  refine ⟨by simp [h.1], fun j q hq => ?_⟩
  cases j with
  | zero =>
    simp only [List.getElem?_cons_zero, Option.some.injEq] at hq
    subst hq
    simpa using hp
  | succ j =>
    simp only [List.getElem?_cons_succ] at hq
    have h1 := h.2 j q hq
    simpa [Nat.mul_one] using h1
theorem Reps.front {α : Type} {R : α → List Value → Prop} {size : Nat} {ps : List α} {cs c all : List Value} {p : α} (hp : R p c) (hc : c.length = size) (h : Reps R size ps cs) (ha : c ++ cs = all) : Reps R size (p :: ps) all := by
  subst ha
  refine ⟨by rw [List.length_append, hc, h.1, List.length_cons, Nat.succ_mul, Nat.add_comm], fun j q hq => ?_⟩
  cases j with
  | zero =>
    simp only [List.getElem?_cons_zero, Option.some.injEq] at hq
    subst hq
    rw [Nat.zero_mul, List.drop_zero, List.take_append_of_le_length (by omega), List.take_of_length_le (by omega)]
    exact hp
  | succ j =>
    simp only [List.getElem?_cons_succ] at hq
    have h1 := h.2 j q hq
    rw [Nat.succ_mul, List.drop_append, List.drop_of_length_le (by rw [hc]; exact Nat.le_add_left _ _), List.nil_append, hc, Nat.add_sub_cancel]
    exact h1
theorem Reps.c2 {α : Type} {R : α → List Value → Prop} {ps : List α} {cs : List Value} {p : α} {va vb : Value} (hp : R p [va, vb]) (h : Reps R 2 ps cs) : Reps R 2 (p :: ps) (va :: vb :: cs) := Reps.front hp rfl h rfl
theorem Reps.c3 {α : Type} {R : α → List Value → Prop} {ps : List α} {cs : List Value} {p : α} {va vb vc : Value} (hp : R p [va, vb, vc]) (h : Reps R 3 ps cs) : Reps R 3 (p :: ps) (va :: vb :: vc :: cs) := Reps.front hp rfl h rfl
theorem Reps.c4 {α : Type} {R : α → List Value → Prop} {ps : List α} {cs : List Value} {p : α} {va vb vc vd : Value} (hp : R p [va, vb, vc, vd]) (h : Reps R 4 ps cs) : Reps R 4 (p :: ps) (va :: vb :: vc :: vd :: cs) := Reps.front hp rfl h rfl
theorem Reps.c5 {α : Type} {R : α → List Value → Prop} {ps : List α} {cs : List Value} {p : α} {va vb vc vd ve : Value} (hp : R p [va, vb, vc, vd, ve]) (h : Reps R 5 ps cs) : Reps R 5 (p :: ps) (va :: vb :: vc :: vd :: ve :: cs) := Reps.front hp rfl h rfl
theorem Reps.c6 {α : Type} {R : α → List Value → Prop} {ps : List α} {cs : List Value} {p : α} {va vb vc vd ve vf : Value} (hp : R p [va, vb, vc, vd, ve, vf]) (h : Reps R 6 ps cs) : Reps R 6 (p :: ps) (va :: vb :: vc :: vd :: ve :: vf :: cs) := Reps.front hp rfl h rfl
theorem Reps.c7 {α : Type} {R : α → List Value → Prop} {ps : List α} {cs : List Value} {p : α} {va vb vc vd ve vf vg : Value} (hp : R p [va, vb, vc, vd, ve, vf, vg]) (h : Reps R 7 ps cs) : Reps R 7 (p :: ps) (va :: vb :: vc :: vd :: ve :: vf :: vg :: cs) := Reps.front hp rfl h rfl
theorem Reps.c8 {α : Type} {R : α → List Value → Prop} {ps : List α} {cs : List Value} {p : α} {va vb vc vd ve vf vg vh : Value} (hp : R p [va, vb, vc, vd, ve, vf, vg, vh]) (h : Reps R 8 ps cs) : Reps R 8 (p :: ps) (va :: vb :: vc :: vd :: ve :: vf :: vg :: vh :: cs) := Reps.front hp rfl h rfl
theorem Reps.c9 {α : Type} {R : α → List Value → Prop} {ps : List α} {cs : List Value} {p : α} {va vb vc vd ve vf vg vh vi : Value} (hp : R p [va, vb, vc, vd, ve, vf, vg, vh, vi]) (h : Reps R 9 ps cs) : Reps R 9 (p :: ps) (va :: vb :: vc :: vd :: ve :: vf :: vg :: vh :: vi :: cs) := Reps.front hp rfl h rfl
theorem Reps.c10 {α : Type} {R : α → List Value → Prop} {ps : List α} {cs : List Value} {p : α} {va vb vc vd ve vf vg vh vi vj : Value} (hp : R p [va, vb, vc, vd, ve, vf, vg, vh, vi, vj]) (h : Reps R 10 ps cs) : Reps R 10 (p :: ps) (va :: vb :: vc :: vd :: ve :: vf :: vg :: vh :: vi :: vj :: cs) := Reps.front hp rfl h rfl
end Go.Proofs.YtgjboghnnhcgiaaGreatDoorW.PrintWords
namespace Go.Proofs.YtgjboghnnhcgiaaGreatDoorW.PrintWords
open Go.RowKit
section
variable {P : Program} {ops : Array Oper} {rest : List Oper} {o : Oper} {a : Act} {Q : Exit → Act → World → Prop} {W : World}
theorem gate_guard (hw : Region.wanted o (yielded ops a.tmps) = true) (h : wpList P ops Q ({ o with guard := none } :: rest) a W) : wpList P ops Q (o :: rest) a W := by
  have h1 : Region.wanted { o with guard := none } (yielded ops a.tmps) = true := rfl
  unfold wpList at h ⊢
  rw [if_pos h1] at h
  rw [if_pos hw]
  exact h
end
end Go.Proofs.YtgjboghnnhcgiaaGreatDoorW.PrintWords
namespace Go.Proofs.YtgjboghnnhcgiaaGreatDoor.U
open Go.RowKit Go.Proofs.YtgjboghnnhcgiaaGreatDoor.G Go.Proofs.YtgjboghnnhcgiaaGreatDoorW.PrintWords Go.Proofs.YtgjboghnnhcgiaaGreatDoorW.PrintLast Go.Proofs.YtgjboghnnhcgiaaGreatDoorW.PrintMore
attribute [local go_sem] max2_int min2_int max_two min_two max_three min_three max_four min_four
set_option linter.unusedVariables false
set_option linter.unusedSimpArgs false
def errW : Option Int → Value
  | none => .nilIface
  | some c => .iface 0 (.int .i64 c)
theorem errW_none : errW none = .nilIface := rfl
theorem errW_some (c : Int) : errW (some c) = .iface 0 (.int .i64 c) := rfl
end Go.Proofs.YtgjboghnnhcgiaaGreatDoor.U
namespace Go.Proofs.YtgjboghnnhcgiaaGreatDoor.U
open Go.RowKit Go.Proofs.YtgjboghnnhcgiaaGreatDoor.G Go.Proofs.YtgjboghnnhcgiaaGreatDoorW.PrintWords Go.Proofs.YtgjboghnnhcgiaaGreatDoorW.PrintLast Go.Proofs.YtgjboghnnhcgiaaGreatDoorW.PrintMore
attribute [local go_sem] max2_int min2_int max_two min_two max_three min_three max_four min_four
set_option linter.unusedVariables false
set_option linter.unusedSimpArgs false
def dec_make0.f (a0 : Bool) (a1 : ByteArray) (a2 : Int) : Option (Bool × ByteArray × Int) := (strings_TrimLeft.f a1 (⟨#[48]⟩ : ByteArray)).bind fun t102 => (if (wrap64 ((wrap64 (a2 + 1)) - (t102.size : Int))) > 0 then ((strings_Repeat.f (⟨#[48]⟩ : ByteArray) (wrap64 ((wrap64 (a2 + 1)) - (t102.size : Int)))).bind fun t103 => (if t103.size + t102.size ≤ 9223372036854775807 then (some (a0, t103 ++ t102, a2)) else (none))) else (some (a0, t102, a2)))
set_option maxHeartbeats 8000000 in
set_option maxRecDepth 100000 in
theorem dec_make0.calls (a0 : Bool) (a1 : ByteArray) (a2 : Int) (r1 : Bool) (r2 : ByteArray) (r3 : Int) (w : World) (h : dec_make0.f a0 a1 a2 = some (r1, r2, r3)) :
    Calls Tryz.prog 46 #[.bool a0, .string a1, .int .i64 a2] w fun e w' => e = .returned (.agg #[.bool r1, .string r2, .int .i64 r3]) ∧ Below w.heap.size w w' := by
  have hu23 := Tryz.underlying23
  have HB := Aside0.mk (Below.refl w.heap.size w)
  have H : ((strings_TrimLeft.f a1 (⟨#[48]⟩ : ByteArray)).bind fun t102 => (if (wrap64 ((wrap64 (a2 + 1)) - (t102.size : Int))) > 0 then ((strings_Repeat.f (⟨#[48]⟩ : ByteArray) (wrap64 ((wrap64 (a2 + 1)) - (t102.size : Int)))).bind fun t103 => (if t103.size + t102.size ≤ 9223372036854775807 then (some (a0, t103 ++ t102, a2)) else (none))) else (some (a0, t102, a2)))) = some (r1, r2, r3) := h
  clear h
  replace H := Option.bind_eq_some_iff.mp H
  obtain ⟨t102, A40, H⟩ := H
  replace H : (if (wrap64 ((wrap64 (a2 + 1)) - (t102.size : Int))) > 0 then ((strings_Repeat.f (⟨#[48]⟩ : ByteArray) (wrap64 ((wrap64 (a2 + 1)) - (t102.size : Int)))).bind fun t103 => (if t103.size + t102.size ≤ 9223372036854775807 then (some (a0, t103 ++ t102, a2)) else (none))) else (some (a0, t102, a2))) = some (r1, r2, r3) := H
  have A4 := Aside0.mk A40
  clear A40
  by_cases c5 : (wrap64 ((wrap64 (a2 + 1)) - (t102.size : Int))) > 0
  · rw [if_pos c5] at H
    have c5b0 : decide (0 < (wrap64 ((wrap64 (a2 + 1)) - (t102.size : Int)))) = true := decide_eq_true c5
    clear c5
    replace H := Option.bind_eq_some_iff.mp H
    obtain ⟨t103, A60, H⟩ := H
    replace H : (if t103.size + t102.size ≤ 9223372036854775807 then (some (a0, t103 ++ t102, a2)) else (none)) = some (r1, r2, r3) := H
    have A6 := Aside0.mk A60
    clear A60
    by_cases c7 : t103.size + t102.size ≤ 9223372036854775807
    · rw [if_pos c7] at H
      try simp only [show wrap64 ((t103.size : Int) + (t102.size : Int)) = (t103.size : Int) + (t102.size : Int) from by unfold wrap64; omega] at *
      have c7b0 := eq_true c7
      have c7b1 : decide (t103.size + t102.size ≤ 9223372036854775807) = true := decide_eq_true c7
      try have c7b2 : (9223372036854775807 < t103.size + t102.size) = False := eq_false (Nat.not_lt.2 c7)
      simp only [Option.some.injEq, Prod.mk.injEq] at H
      obtain ⟨rfl, rfl, rfl⟩ := H
      go_enter Tryz.func46, Tryz.ntmps46
      go_wp2_with (first | ((with_reducible refine gate_dst (N := 6) rfl ?_); refine box_event ?hg (N := 6) ?hd (cs := #[.bool false, .string (⟨#[]⟩ : ByteArray), .int .i64 0]) (t := 23) ?hr ?_; (case hd => rfl); (case hg => rfl); (case hr => first | (go_simp; done) | (go_simp; rfl)); intro gb101 hg w8 hbox hb; have n0_ := Aside0.mk (below_step (by repeat (first | (with_reducible first | exact HB.out | apply below_alloc | apply pw_below_drewN | apply below_drew1) | exact HB.out)) hb); have n1_ := Aside0.mk (hbox); have n2_ := Aside0.mk ((by rw [hg]; exact (below_size (by repeat (first | (with_reducible first | exact HB.out | apply below_alloc | apply pw_below_drewN | apply below_drew1) | exact HB.out))) : w.heap.size ≤ gb101)); have n3_ := Aside0.mk ((by rw [hg]; exact (below_size (by repeat (first | (with_reducible first | exact HB.out | apply below_alloc | apply pw_below_drewN | apply below_drew1) | exact HB.out))) : w.heap.size ≤ gb101)); clear HB; have HB := n0_; have BK101 := n1_; have GW101 := n2_; have GE101 := n3_; clear n0_ n1_ n2_ n3_; clear hb hbox hg) | ((with_reducible refine gate_callee (f := 48) rfl ?_); refine goesL_ (some 9) rfl rfl Tryz.func48 (by kernel_rfl) rfl #[.string a1, .string (⟨#[48]⟩ : ByteArray)] rfl (by (try simp only [List.map_toArray, List.map_cons, List.map_nil]); first | done | rfl | (simp only [List.length_drop, List.length_take]; rfl)) ?_; (with_reducible refine (strings_TrimLeft.calls a1 (⟨#[48]⟩ : ByteArray) t102 _ A4.out).mono ?_); rintro e w9 ⟨rfl, hb⟩; refine ⟨_, rfl, ?_⟩; have n0_ := Aside0.mk (blk_below (g := gb101) (o := .cells #[.bool false, .string (⟨#[]⟩ : ByteArray), .int .i64 0] 23 (0, 0)) (by (with_reducible repeat (first | refine blk_drewN ?_ _ | refine blk_drew ?_ | refine blk_alloc ?_ _)); exact BK101.out) hb); have n1_ := Aside0.mk (below_step (by repeat (first | (with_reducible first | exact HB.out | apply below_alloc | apply pw_below_drewN | apply below_drew1 | refine below_set ?_ GE101.out) | exact HB.out)) hb); clear BK101; clear HB; have BK101 := n0_; have HB := n1_; clear n0_ n1_; (try clear hb); (try clear hb2); (try clear hk); (try clear hi)) | ((with_reducible refine gate_callee (f := 34) rfl ?_); refine goesL_ (some 18) rfl rfl Tryz.func34 (by kernel_rfl) rfl #[.string (⟨#[48]⟩ : ByteArray), .int .i64 (wrap64 ((wrap64 (a2 + 1)) - (t102.size : Int)))] rfl (by (try simp only [List.map_toArray, List.map_cons, List.map_nil]); first | done | rfl | (simp only [List.length_drop, List.length_take]; rfl)) ?_; (with_reducible refine (strings_Repeat.calls (⟨#[48]⟩ : ByteArray) (wrap64 ((wrap64 (a2 + 1)) - (t102.size : Int))) t103 _ A6.out).mono ?_); rintro e w10 ⟨rfl, hb⟩; refine ⟨_, rfl, ?_⟩; have n0_ := Aside0.mk (blk_below (g := gb101) (o := .cells #[.bool false, .string (⟨#[]⟩ : ByteArray), .int .i64 0] 23 (0, 0)) (by (with_reducible repeat (first | refine blk_drewN ?_ _ | refine blk_drew ?_ | refine blk_alloc ?_ _)); exact BK101.out) hb); have n1_ := Aside0.mk (below_step (by repeat (first | (with_reducible first | exact HB.out | apply below_alloc | apply pw_below_drewN | apply below_drew1 | refine below_set ?_ GE101.out) | exact HB.out)) hb); clear BK101; clear HB; have BK101 := n0_; have HB := n1_; clear n0_ n1_; (try clear hb); (try clear hb2); (try clear hk); (try clear hi); have hcz11_0 : w10.cell? ⟨gb101, 0, none⟩ = some (.bool false) := (blk_cell BK101.out 0).trans rfl; have hcz11_1 : w10.cell? ⟨gb101, 1, none⟩ = some (.string (⟨#[]⟩ : ByteArray)) := (blk_cell BK101.out 1).trans rfl; have hcz11_2 : w10.cell? ⟨gb101, 2, none⟩ = some (.int .i64 0) := (blk_cell BK101.out 2).trans rfl; have hfz11_0 := blk_frozen BK101.out 0; have hfz11_1 := blk_frozen BK101.out 1; have hfz11_2 := blk_frozen BK101.out 2))
      refine bodyPost_ret (results_cell_row rfl _ _ gb101 23 #[.bool a0, .string (t103 ++ t102), .int .i64 a2] (0, 0) _ rfl (by (with_reducible repeat (first | refine blk_drewN ?_ _ | refine blk_drew ?_ | refine blk_alloc ?_ _)); refine blk_put (cs := #[.bool a0, .string (t103 ++ t102), .int .i64 0]) ?_ 2 _ rfl; (with_reducible repeat (first | refine blk_drewN ?_ _ | refine blk_drew ?_ | refine blk_alloc ?_ _)); refine blk_put (cs := #[.bool a0, .string (⟨#[]⟩ : ByteArray), .int .i64 0]) ?_ 1 _ rfl; (with_reducible repeat (first | refine blk_drewN ?_ _ | refine blk_drew ?_ | refine blk_alloc ?_ _)); refine blk_put (cs := #[.bool false, .string (⟨#[]⟩ : ByteArray), .int .i64 0]) ?_ 0 _ rfl; (with_reducible repeat (first | refine blk_drewN ?_ _ | refine blk_drew ?_ | refine blk_alloc ?_ _)); exact BK101.out) Tryz.underlying23 rfl (by kernel_rfl)) rfl ?_
      exact ⟨by first | rfl | (simp [errW_none, errW_some] <;> rfl) | (simp [*, errW_none, errW_some] <;> rfl), by repeat (first | (with_reducible first | exact HB.out | apply below_alloc | apply pw_below_drewN | apply below_drew1 | refine below_set ?_ GE101.out) | exact HB.out)⟩
    · rw [if_neg c7] at H
      exact absurd H (by simp)
  · rw [if_neg c5] at H
    have c5b0 : decide (0 < (wrap64 ((wrap64 (a2 + 1)) - (t102.size : Int)))) = false := decide_eq_false c5
    clear c5
    simp only [Option.some.injEq, Prod.mk.injEq] at H
    obtain ⟨rfl, rfl, rfl⟩ := H
    go_enter Tryz.func46, Tryz.ntmps46
    go_wp2_with (first | ((with_reducible refine gate_dst (N := 6) rfl ?_); refine box_event ?hg (N := 6) ?hd (cs := #[.bool false, .string (⟨#[]⟩ : ByteArray), .int .i64 0]) (t := 23) ?hr ?_; (case hd => rfl); (case hg => rfl); (case hr => first | (go_simp; done) | (go_simp; rfl)); intro gb101 hg w12 hbox hb; have n0_ := Aside0.mk (below_step (by repeat (first | (with_reducible first | exact HB.out | apply below_alloc | apply pw_below_drewN | apply below_drew1) | exact HB.out)) hb); have n1_ := Aside0.mk (hbox); have n2_ := Aside0.mk ((by rw [hg]; exact (below_size (by repeat (first | (with_reducible first | exact HB.out | apply below_alloc | apply pw_below_drewN | apply below_drew1) | exact HB.out))) : w.heap.size ≤ gb101)); have n3_ := Aside0.mk ((by rw [hg]; exact (below_size (by repeat (first | (with_reducible first | exact HB.out | apply below_alloc | apply pw_below_drewN | apply below_drew1) | exact HB.out))) : w.heap.size ≤ gb101)); clear HB; have HB := n0_; have BK101 := n1_; have GW101 := n2_; have GE101 := n3_; clear n0_ n1_ n2_ n3_; clear hb hbox hg) | ((with_reducible refine gate_callee (f := 48) rfl ?_); refine goesL_ (some 9) rfl rfl Tryz.func48 (by kernel_rfl) rfl #[.string a1, .string (⟨#[48]⟩ : ByteArray)] rfl (by (try simp only [List.map_toArray, List.map_cons, List.map_nil]); first | done | rfl | (simp only [List.length_drop, List.length_take]; rfl)) ?_; (with_reducible refine (strings_TrimLeft.calls a1 (⟨#[48]⟩ : ByteArray) t102 _ A4.out).mono ?_); rintro e w13 ⟨rfl, hb⟩; refine ⟨_, rfl, ?_⟩; have n0_ := Aside0.mk (blk_below (g := gb101) (o := .cells #[.bool false, .string (⟨#[]⟩ : ByteArray), .int .i64 0] 23 (0, 0)) (by (with_reducible repeat (first | refine blk_drewN ?_ _ | refine blk_drew ?_ | refine blk_alloc ?_ _)); exact BK101.out) hb); have n1_ := Aside0.mk (below_step (by repeat (first | (with_reducible first | exact HB.out | apply below_alloc | apply pw_below_drewN | apply below_drew1 | refine below_set ?_ GE101.out) | exact HB.out)) hb); clear BK101; clear HB; have BK101 := n0_; have HB := n1_; clear n0_ n1_; (try clear hb); (try clear hb2); (try clear hk); (try clear hi); have hcz14_0 : w13.cell? ⟨gb101, 0, none⟩ = some (.bool false) := (blk_cell BK101.out 0).trans rfl; have hcz14_1 : w13.cell? ⟨gb101, 1, none⟩ = some (.string (⟨#[]⟩ : ByteArray)) := (blk_cell BK101.out 1).trans rfl; have hcz14_2 : w13.cell? ⟨gb101, 2, none⟩ = some (.int .i64 0) := (blk_cell BK101.out 2).trans rfl; have hfz14_0 := blk_frozen BK101.out 0; have hfz14_1 := blk_frozen BK101.out 1; have hfz14_2 := blk_frozen BK101.out 2))
    refine bodyPost_ret (results_cell_row rfl _ _ gb101 23 #[.bool a0, .string t102, .int .i64 a2] (0, 0) _ rfl (by (with_reducible repeat (first | refine blk_drewN ?_ _ | refine blk_drew ?_ | refine blk_alloc ?_ _)); refine blk_put (cs := #[.bool a0, .string t102, .int .i64 0]) ?_ 2 _ rfl; (with_reducible repeat (first | refine blk_drewN ?_ _ | refine blk_drew ?_ | refine blk_alloc ?_ _)); refine blk_put (cs := #[.bool a0, .string (⟨#[]⟩ : ByteArray), .int .i64 0]) ?_ 1 _ rfl; (with_reducible repeat (first | refine blk_drewN ?_ _ | refine blk_drew ?_ | refine blk_alloc ?_ _)); refine blk_put (cs := #[.bool false, .string (⟨#[]⟩ : ByteArray), .int .i64 0]) ?_ 0 _ rfl; (with_reducible repeat (first | refine blk_drewN ?_ _ | refine blk_drew ?_ | refine blk_alloc ?_ _)); exact BK101.out) Tryz.underlying23 rfl (by kernel_rfl)) rfl ?_
    exact ⟨by first | rfl | (simp [errW_none, errW_some] <;> rfl) | (simp [*, errW_none, errW_some] <;> rfl), by repeat (first | (with_reducible first | exact HB.out | apply below_alloc | apply pw_below_drewN | apply below_drew1 | refine below_set ?_ GE101.out) | exact HB.out)⟩
end Go.Proofs.YtgjboghnnhcgiaaGreatDoor.U
namespace Go.Proofs.YtgjboghnnhcgiaaGreatDoor
open Go.RowKit Go.Proofs.YtgjboghnnhcgiaaGreatDoorW.PrintWords Go.Proofs.YtgjboghnnhcgiaaGreatDoorW.PrintMore
set_option linter.unusedVariables false
set_option linter.unusedSimpArgs false
structure Lies (g : Nat) (M : List UInt8) (w : World) : Prop where
  cell : ∀ j c, M[j]? = some c → w.cell? ⟨g, j, none⟩ = some (.int .u8 c.toNat)
  free : ∀ j, j < M.length → w.frozen? ⟨g, j, none⟩ = false
theorem Lies.below {g : Nat} {M : List UInt8} {w w' : World} (h : Lies g M w) (hb : Below w.heap.size w w') (hg : g < w.heap.size) : Lies g M w' :=
  ⟨fun j c hj => by rw [hb.cell (p := ⟨g, j, none⟩) hg]; exact h.cell j c hj, fun j hj => by rw [hb.frozen (p := ⟨g, j, none⟩) hg]; exact h.free j hj⟩
theorem Lies.set {g : Nat} {M : List UInt8} {w : World} (h : Lies g M w) (i : Nat) (hi : i < M.length) (c : UInt8) : Lies g (M.set i c) (w.setCell ⟨g, i, none⟩ (.int .u8 c.toNat)) := by
  refine ⟨fun j x hj => ?_, fun j hj => ?_⟩
  · rw [List.getElem?_set] at hj
    by_cases e : i = j
    · subst e
      rw [if_pos rfl, if_pos hi] at hj
      obtain rfl := Option.some.inj hj
      exact World.cell?_setCell_same _ _ _ (h.cell i _ (List.getElem?_eq_getElem hi))
    · rw [if_neg e] at hj
      rw [World.cell?_setCell_other _ _ ⟨g, j, none⟩ _ (by intro h; exact e (by injection h))]
      exact h.cell j x hj
  · rw [World.frozen?_setCell]
    rw [List.length_set] at hj
    exact h.free j hj
structure RG (w : World) (n : Bool) (W : World) : Prop where
  c0 : W.cell? ⟨w.heap.size, 0, none⟩ = some (.bool n)
  e0 : W.cell? ⟨w.heap.size + 1, 0, none⟩ = some (.bool false)
  e1 : W.cell? ⟨w.heap.size + 1, 1, none⟩ = some (.string ⟨#[]⟩)
  e2 : W.cell? ⟨w.heap.size + 1, 2, none⟩ = some (.int .i64 0)
  fr : ∀ j, W.frozen? ⟨w.heap.size + 1, j, none⟩ = false
  sz : w.heap.size + 1 + 1 < W.heap.size
  bel : Below w.heap.size w W
theorem RG.step {w W W' : World} {n : Bool} (h : RG w n W) (b : Below (w.heap.size + 1 + 1) W W') : RG w n W' where
  c0 := (b.cell (p := ⟨w.heap.size, 0, none⟩) (by show w.heap.size < _; omega)).trans h.c0
  e0 := (b.cell (p := ⟨w.heap.size + 1, 0, none⟩) (by show w.heap.size + 1 < _; omega)).trans h.e0
  e1 := (b.cell (p := ⟨w.heap.size + 1, 1, none⟩) (by show w.heap.size + 1 < _; omega)).trans h.e1
  e2 := (b.cell (p := ⟨w.heap.size + 1, 2, none⟩) (by show w.heap.size + 1 < _; omega)).trans h.e2
  fr := fun j => (b.frozen (p := ⟨w.heap.size + 1, j, none⟩) (by show w.heap.size + 1 < _; omega)).trans (h.fr j)
  sz := Nat.lt_of_lt_of_le h.sz b.size
  bel := h.bel.trans (b.mono (by omega))
attribute [local go_sem] max2_int max_two
end Go.Proofs.YtgjboghnnhcgiaaGreatDoor
namespace Go.Proofs.YtgjboghnnhcgiaaGreatDoor.G
open Go.RowKit Go.Proofs.YtgjboghnnhcgiaaGreatDoor Go.Proofs.YtgjboghnnhcgiaaGreatDoorW.PrintWords Go.Proofs.YtgjboghnnhcgiaaGreatDoorW.PrintMore
set_option linter.unusedVariables false
set_option linter.unusedSimpArgs false
attribute [local go_sem] max2_int max_two
set_option maxRecDepth 100000 in
theorem round_same (n : Bool) (d : ByteArray) (k : Int) (sc : Int) (s : Int) (w : World) (hsc : (if s < 0 then (0 : Int) else s) = sc) (hks : k ≤ sc) :
    Calls Tryz.prog 60 #[decV n d k, .int .i64 s] w fun e w' => e = .returned (decV n d k) ∧ Below w.heap.size w w' := by
  unfold decV
  have bX : Below w.heap.size w ((w.alloc (.cells #[.bool n, .string d, .int .i64 k] 23)).alloc (.cells #[.bool false, .string ⟨#[]⟩, .int .i64 0] 23)) := ((Below.refl _ _).alloc (Nat.le_refl _) _).alloc (by simp) _
  go_enter Tryz.func60, Tryz.ntmps60
  go_wp2
  go_returns
  exact ⟨rfl, ((Below.refl _ _).alloc (Nat.le_refl _) _).alloc (by simp) _⟩
theorem repeatL_one (c : UInt8) : ∀ m, Lib.repeatL [c] m = List.replicate m c
  | 0 => rfl
  | m + 1 => by
    show [c] ++ Lib.repeatL [c] m = _
    rw [repeatL_one c m, List.replicate_succ]
    rfl
end Go.Proofs.YtgjboghnnhcgiaaGreatDoor.G
namespace Go.Proofs.YtgjboghnnhcgiaaGreatDoor
open Go.RowKit Go.Proofs.YtgjboghnnhcgiaaGreatDoor.M
set_option linter.unusedVariables false
set_option linter.unusedSimpArgs false
theorem below_grown {w W W1 : World} {B b : Nat} (h : Below B w W) (hg : W.grownBy W1 (some b)) (hB : B ≤ b) (hw : B ≤ w.heap.size) : Below B w W1 :=
  ⟨hg.os.trans h.os, hg.tape.trans h.tape, hg.output.trans h.output, Nat.le_trans h.size hg.size, fun j hj => (hg.block j (Nat.lt_of_lt_of_le hj (Nat.le_trans hw h.size)) (fun e => by cases e; omega)).trans (h.block j hj)⟩
set_option maxRecDepth 100000 in
theorem default_any (w : World) : Calls Tryz.prog 24 #[] w fun e w' => e = .returned (optV 1 0 3 false false) ∧ Below w.heap.size w w' := by
  unfold optV
  have b1 := (Below.refl w.heap.size w).alloc (Nat.le_refl _) (.cells #[.int .i64 1, .int .i64 0, .int .i64 3, .bool false, .bool false] 28)
  go_enter Tryz.func24, Tryz.ntmps24
  go_wp2
  go_returns
  exact ⟨rfl, (Below.refl w.heap.size w).alloc (Nat.le_refl _) _⟩
def d5 : ByteArray := ⟨#[49, 50, 51, 52, 53]⟩
structure Hd (w : World) (cnt : Int) (W : World) : Prop where
  mks : Mks w.heap.size cnt W
  blk : W.heap[w.heap.size + 1]? = some (.cells #[.bool false, .string d5, .int .i64 1] 23 (0, 0))
  bel : Below w.heap.size w W
theorem Hd.step {w W W1 : World} {cnt : Int} (h : Hd w cnt W) (c : Below W.heap.size W W1) : Hd w cnt W1 := ⟨h.mks.step c, below_blockOf c (Nat.le_refl _) h.blk, below_on h.bel c h.bel.size⟩
theorem Hd.drew {w W : World} {cnt : Int} (h : Hd w cnt W) : Hd w cnt W.drew := h.step ((Below.refl _ _).drew)
theorem Hd.of {w W W1 : World} {cnt c1 : Int} (h : Hd w cnt W) (hm : Mks w.heap.size c1 W1) (hg : W.grownBy W1 (some w.heap.size)) : Hd w c1 W1 :=
  ⟨hm, (hg.block _ (Array.getElem?_eq_some_iff.1 h.blk).1 (fun e => by have := Option.some.inj e; omega)).trans h.blk, below_grown h.bel hg (Nat.le_refl _) (Nat.le_refl _)⟩
theorem Hd.get {w W : World} {cnt : Int} (h : Hd w cnt W) : W.cell? ⟨w.heap.size + 1, 0, none⟩ = some (.bool false) ∧ W.cell? ⟨w.heap.size + 1, 1, none⟩ = some (.string d5) ∧ W.cell? ⟨w.heap.size + 1, 2, none⟩ = some (.int .i64 1) :=
  ⟨(Lib.cell_of_heap h.blk 0).trans rfl, (Lib.cell_of_heap h.blk 1).trans rfl, (Lib.cell_of_heap h.blk 2).trans rfl⟩
theorem Hd.lt {w W : World} {cnt : Int} (h : Hd w cnt W) : w.heap.size < W.heap.size := by
  have := (Array.getElem?_eq_some_iff.1 h.blk).1
  omega
end Go.Proofs.YtgjboghnnhcgiaaGreatDoor
namespace Go.Proofs.YtgjboghnnhcgiaaGreatDoor
open Go.RowKit Go.Proofs.YtgjboghnnhcgiaaGreatDoorW.PrintWords Go.Proofs.YtgjboghnnhcgiaaGreatDoorW.PrintLast
set_option linter.unusedVariables false
set_option linter.unusedSimpArgs false
def VsI (w0 : World) (gv gw : Nat) (n1 : Bool) (A A2 : ByteArray) (k1 : Int) (n2 : Bool) (B : ByteArray) (k2 mf xf : Int) (W : World) : Prop :=
  Own w0 [(gw, .cells #[.int .i64 1, .string ⟨#[]⟩, .bool n1, .string A2, .int .i64 k1, .int .i64 1, .int .i64 mf, .int .i64 xf, .bool false, .bool false, .int .i64 0, .int .i64 0] 31 (0, 0)), (gv, .cells #[.int .i64 1, .string ⟨#[]⟩, .bool n1, .string A, .int .i64 k1, .int .i64 1, .int .i64 0, .int .i64 3, .bool false, .bool false, .int .i64 0, .int .i64 0] 31 (0, 0)), (w0.heap.size + 1, .cells #[.bool n2, .string B, .int .i64 k2] 23 (0, 0)), (w0.heap.size, .cells #[.bool n1, .string A, .int .i64 k1] 23 (0, 0))] W
theorem VsI.step {w0 : World} {gv gw : Nat} {n1 : Bool} {A A2 : ByteArray} {k1 : Int} {n2 : Bool} {B : ByteArray} {k2 mf xf : Int} {W W1 : World} (h : VsI w0 gv gw n1 A A2 k1 n2 B k2 mf xf W) (b : Below W.heap.size W W1) : VsI w0 gv gw n1 A A2 k1 n2 B k2 mf xf W1 := Own.step h b
theorem VsI.drew {w0 : World} {gv gw : Nat} {n1 : Bool} {A A2 : ByteArray} {k1 : Int} {n2 : Bool} {B : ByteArray} {k2 mf xf : Int} {W : World} (h : VsI w0 gv gw n1 A A2 k1 n2 B k2 mf xf W) : VsI w0 gv gw n1 A A2 k1 n2 B k2 mf xf W.drew := Own.drew h
theorem VsI.bel {w0 : World} {gv gw : Nat} {n1 : Bool} {A A2 : ByteArray} {k1 : Int} {n2 : Bool} {B : ByteArray} {k2 mf xf : Int} {W : World} (h : VsI w0 gv gw n1 A A2 k1 n2 B k2 mf xf W) : Below w0.heap.size w0 W := Own.bel h
def same_end.T : Bool × List (List Nat × List Nat) := (true, [([], []), ([], []), ([1], [1]), ([], []), ([0, 2, 3, 2], [0, 2, 3]), ([], []), ([4, 5], [4, 5]), ([6, 4], [6]), ([7], [7]), ([7], [7]), ([9, 7, 7], [7, 9]), ([7], [7]), ([8, 10, 11, 10, 7], [7, 8, 10, 11]), ([7], [7]), ([12, 13, 7], [7, 12, 13]), ([7, 14], [7, 14]), ([15, 12], [15]), ([16], [16]), ([16], [16]), ([16], [16]), ([19, 16], [16, 19]), ([20, 16], [16, 20]), ([18, 21, 16, 16], [16, 18, 21]), ([22, 22, 16], [16, 22]), ([16], [16]), ([17, 23, 24, 23, 16], [16, 17, 23, 24]), ([16, 25], [16, 25]), ([26, 25], [26]), ([27], [27]), ([28, 27, 27], [27, 28]), ([29, 29, 27], [27, 29]), ([27], [27]), ([31, 30, 27], [27, 31]), ([27], [27]), ([30, 32, 33, 32, 27], [27, 30, 32, 33]), ([27, 34], [27, 34]), ([35, 34], [35]), ([36, 36], [36]), ([36], [36]), ([37, 38, 37, 36], [36, 37, 38]), ([39, 36], [36, 39]), ([36, 40], [36, 40]), ([41, 39, 0, 1, 2, 3, 4, 5, 6, 7, 8, 9, 10, 11, 12, 13, 14, 15, 16, 17, 18, 19, 20, 21, 22, 23, 24, 25, 26, 27, 28, 29, 30, 31, 32, 33, 34, 35, 36, 37, 38, 39, 40, 41], [41])])
def same_end.B : List Nat := [0, 0, 2, 0, 15, 0, 63, 127, 255, 255, 767, 255, 4095, 255, 16383, 32767, 65535, 131071, 131071, 131071, 655359, 1703935, 4063231, 8257535, 131071, 33554431, 67108863, 134217727, 268435455, 536870911, 1073741823, 268435455, 4294967295, 268435455, 17179869183, 34359738367, 68719476735, 137438953471, 137438953471, 549755813887, 1099511627775, 2199023255551, 4398046511103]
theorem same_end.tab : rtab .any (opsOf Tryz.f3 8) = same_end.T := by kernel_rfl
theorem same_end.bits : waitsOk same_end.T.2 same_end.B = true := by kernel_rfl
set_option maxRecDepth 100000 in
set_option maxHeartbeats 4000000 in
theorem same_end (w0 : World) (gv gw : Nat) (n1 : Bool) (A A2 : ByteArray) (k1 : Int) (n2 : Bool) (B : ByteArray) (k2 mf xf : Int) (SA SB SP PA lang : ByteArray) (sm : Bool) (hk : -9223372036854775808 ≤ k1 + 3 ∧ k1 + 3 ≤ 9223372036854775807) (cSa : ∀ W, Calls Tryz.prog 10 #[.agg #[.bool n1, .string A, .int .i64 k1]] W fun e w' => e = .returned (.string SA) ∧ Below W.heap.size W w') (cSb : ∀ W, Calls Tryz.prog 10 #[.agg #[.bool n2, .string B, .int .i64 k2]] W fun e w' => e = .returned (.string SB) ∧ Below W.heap.size W w') (cSp : ∀ W, Calls Tryz.prog 10 #[.agg #[.bool n1, .string PA, .int .i64 (k1 + 3)]] W fun e w' => e = .returned (.string SP) ∧ Below W.heap.size W w') (cPad : ∀ W, Calls Tryz.prog 13 #[.agg #[.bool n1, .string A, .int .i64 k1], .int .i64 (k1 + 3)] W fun e w' => e = .returned (.agg #[.bool n1, .string PA, .int .i64 (k1 + 3)]) ∧ Below W.heap.size W w') (cI1 : ∀ W, Below w0.heap.size w0 W → Calls Tryz.prog 12 #[.agg #[.int .i64 1, .string ⟨#[]⟩, .bool n1, .string A, .int .i64 k1, .int .i64 1, .int .i64 0, .int .i64 3, .bool false, .bool false, .int .i64 0, .int .i64 0], .string SB, .string lang] W fun e w' => e = .returned (.bool sm) ∧ Below W.heap.size W w') (cI2 : ∀ W, Below w0.heap.size w0 W → Calls Tryz.prog 12 #[.agg #[.int .i64 1, .string ⟨#[]⟩, .bool n1, .string A2, .int .i64 k1, .int .i64 1, .int .i64 mf, .int .i64 xf, .bool false, .bool false, .int .i64 0, .int .i64 0], .string SB, .string lang] W fun e w' => e = .returned (.bool sm) ∧ Below W.heap.size W w') (cI3 : ∀ W, Below w0.heap.size w0 W → Calls Tryz.prog 12 #[.agg #[.int .i64 1, .string ⟨#[]⟩, .bool n1, .string A, .int .i64 k1, .int .i64 1, .int .i64 0, .int .i64 3, .bool false, .bool false, .int .i64 0, .int .i64 0], .string SP, .string lang] W fun e w' => e = .returned (.bool true) ∧ Below W.heap.size W w') (cI4 : ∀ W, Below w0.heap.size w0 W → Calls Tryz.prog 12 #[.agg #[.int .i64 0, .string SA, .bool false, .string ⟨#[]⟩, .int .i64 0, .int .i64 0, .int .i64 0, .int .i64 0, .bool false, .bool false, .int .i64 0, .int .i64 0], .string SA, .string lang] W fun e w' => e = .returned (.bool true) ∧ Below W.heap.size W w') (cI5 : ∀ W, Below w0.heap.size w0 W → Calls Tryz.prog 12 #[.agg #[.int .i64 2, .string ⟨#[]⟩, .bool false, .string ⟨#[]⟩, .int .i64 0, .int .i64 0, .int .i64 0, .int .i64 0, .bool false, .bool false, .int .i64 1, .int .i64 0], .string ⟨#[49]⟩, .string lang] W fun e w' => e = .returned (.bool false) ∧ Below W.heap.size W w') (cStr : ∀ W, Calls Tryz.prog 14 #[.string SA] W fun e w' => e = .returned (.agg #[.int .i64 0, .string SA, .bool false, .string ⟨#[]⟩, .int .i64 0, .int .i64 0, .int .i64 0, .int .i64 0, .bool false, .bool false, .int .i64 0, .int .i64 0]) ∧ Below W.heap.size W w') (cAt : ∀ W, Calls Tryz.prog 15 #[.int .i64 1] W fun e w' => e = .returned (.agg #[.int .i64 2, .string ⟨#[]⟩, .bool false, .string ⟨#[]⟩, .int .i64 0, .int .i64 0, .int .i64 0, .int .i64 0, .bool false, .bool false, .int .i64 1, .int .i64 0]) ∧ Below W.heap.size W w') (a0 : Act) (s2 : a0.tmps[2]? = some (.string lang)) (s3 : a0.tmps[3]? = some (.pointer (some ⟨w0.heap.size, 0, none⟩))) (s4 : a0.tmps[4]? = some (.pointer (some ⟨w0.heap.size + 1, 0, none⟩))) (s7 : a0.tmps[7]? = some (.pointer (some ⟨gv, 0, none⟩))) (s8 : a0.tmps[8]? = some (.pointer (some ⟨gw, 0, none⟩))) (s9 : a0.tmps[9]? = some (.bool sm)) (hsz : a0.tmps.size = Tryz.f3.ntmps) (W : World) (hI : VsI w0 gv gw n1 A A2 k1 n2 B k2 mf xf W.drew) (Q : Exit → Act → World → Prop) (hend : ∀ (a9 : Act) w', VsI w0 gv gw n1 A A2 k1 n2 B k2 mf xf w' → a9 = putSel a0 (fun _ => true) [(0, 41, .agg #[.int .i64 1, .string ⟨#[]⟩, .bool n1, .string A, .int .i64 k1, .int .i64 1, .int .i64 0, .int .i64 3, .bool false, .bool false, .int .i64 0, .int .i64 0]), (1, 42, .agg #[.bool n2, .string B, .int .i64 k2]), (2, 43, .string SB), (3, 44, .string lang), (4, 45, .bool sm), (5, 46, .bool sm), (6, 47, .bool true), (7, 48, .bool true), (8, 49, .agg #[.int .i64 1, .string ⟨#[]⟩, .bool n1, .string A2, .int .i64 k1, .int .i64 1, .int .i64 mf, .int .i64 xf, .bool false, .bool false, .int .i64 0, .int .i64 0]), (9, 50, .agg #[.bool n2, .string B, .int .i64 k2]), (10, 51, .string SB), (11, 52, .string lang), (12, 53, .bool sm), (13, 54, .bool sm), (14, 55, .bool true), (15, 56, .bool true), (16, 57, .bool true), (17, 58, .agg #[.int .i64 1, .string ⟨#[]⟩, .bool n1, .string A, .int .i64 k1, .int .i64 1, .int .i64 0, .int .i64 3, .bool false, .bool false, .int .i64 0, .int .i64 0]), (18, 59, .agg #[.bool n1, .string A, .int .i64 k1]), (19, 60, .pointer (some ⟨w0.heap.size, 2, none⟩)), (20, 61, .int .i64 k1), (21, 62, .int .i64 (k1 + 3)), (22, 63, .agg #[.bool n1, .string PA, .int .i64 (k1 + 3)]), (23, 64, .string SP), (24, 65, .string lang), (25, 66, .bool true), (26, 67, .bool true), (27, 68, .bool true), (28, 69, .agg #[.bool n1, .string A, .int .i64 k1]), (29, 70, .string SA), (30, 71, .agg #[.int .i64 0, .string SA, .bool false, .string ⟨#[]⟩, .int .i64 0, .int .i64 0, .int .i64 0, .int .i64 0, .bool false, .bool false, .int .i64 0, .int .i64 0]), (31, 72, .agg #[.bool n1, .string A, .int .i64 k1]), (32, 73, .string SA), (33, 74, .string lang), (34, 75, .bool true), (35, 76, .bool true), (36, 77, .bool true), (37, 78, .agg #[.int .i64 2, .string ⟨#[]⟩, .bool false, .string ⟨#[]⟩, .int .i64 0, .int .i64 0, .int .i64 0, .int .i64 0, .bool false, .bool false, .int .i64 1, .int .i64 0]), (38, 79, .string lang), (39, 80, .bool false), (40, 81, .bool true), (41, 82, .bool true), (42, 6, .bool true)] → a9.defers = a0.defers → a9.tmps[6]? = some (.bool true) → Q .normal a9 w') :
    (Code.region 8 #[{ dst := some 41, op := Op.load 31 (Operand.tmp 7), type := 31, pos := "law.go:148", after := #[], guard := none }, { dst := some 42, op := Op.load 23 (Operand.tmp 4), type := 23, pos := "law.go:148", after := #[], guard := none }, { dst := some 43, op := Op.call { callee := Callee.value (Operand.func 10), args := #[Operand.tmp 42], argTypes := #[23] }, type := 9, pos := "law.go:148", after := #[{ on := 1, ground := Ground.data }], guard := none }, { dst := some 44, op := Op.move (Operand.tmp 2), type := 9, pos := "law.go:148", after := #[], guard := none }, { dst := some 45, op := Op.call { callee := Callee.value (Operand.func 12), args := #[Operand.tmp 41, Operand.tmp 43, Operand.tmp 44], argTypes := #[31, 9, 9] }, type := 4, pos := "law.go:148", after := #[{ on := 0, ground := Ground.data }, { on := 2, ground := Ground.data }, { on := 3, ground := Ground.data }, { on := 2, ground := Ground.chain }], guard := none }, { dst := some 46, op := Op.move (Operand.tmp 9), type := 4, pos := "law.go:148", after := #[], guard := none }, { dst := some 47, op := Op.binOp BinOp.eql 4 (Operand.tmp 45) (Operand.tmp 46) 4, type := 4, pos := "law.go:148", after := #[{ on := 4, ground := Ground.data }, { on := 5, ground := Ground.data }], guard := none }, { dst := some 48, op := Op.move (Operand.tmp 47), type := 4, pos := "law.go:148", after := #[{ on := 6, ground := Ground.data }, { on := 4, ground := Ground.chain }], guard := none }, { dst := some 49, op := Op.load 31 (Operand.tmp 8), type := 31, pos := "law.go:148", after := #[{ on := 7, ground := Ground.guard }], guard := some (7, true) }, { dst := some 50, op := Op.load 23 (Operand.tmp 4), type := 23, pos := "law.go:148", after := #[{ on := 7, ground := Ground.guard }], guard := some (7, true) }, { dst := some 51, op := Op.call { callee := Callee.value (Operand.func 10), args := #[Operand.tmp 50], argTypes := #[23] }, type := 9, pos := "law.go:148", after := #[{ on := 9, ground := Ground.data }, { on := 7, ground := Ground.chain }, { on := 7, ground := Ground.guard }], guard := some (7, true) }, { dst := some 52, op := Op.move (Operand.tmp 2), type := 9, pos := "law.go:148", after := #[{ on := 7, ground := Ground.guard }], guard := some (7, true) }, { dst := some 53, op := Op.call { callee := Callee.value (Operand.func 12), args := #[Operand.tmp 49, Operand.tmp 51, Operand.tmp 52], argTypes := #[31, 9, 9] }, type := 4, pos := "law.go:148", after := #[{ on := 8, ground := Ground.data }, { on := 10, ground := Ground.data }, { on := 11, ground := Ground.data }, { on := 10, ground := Ground.chain }, { on := 7, ground := Ground.guard }], guard := some (7, true) }, { dst := some 54, op := Op.move (Operand.tmp 9), type := 4, pos := "law.go:148", after := #[{ on := 7, ground := Ground.guard }], guard := some (7, true) }, { dst := some 55, op := Op.binOp BinOp.eql 4 (Operand.tmp 53) (Operand.tmp 54) 4, type := 4, pos := "law.go:148", after := #[{ on := 12, ground := Ground.data }, { on := 13, ground := Ground.data }, { on := 7, ground := Ground.guard }], guard := some (7, true) }, { dst := some 56, op := Op.pick (Operand.tmp 48) (Operand.tmp 55) (Operand.const (Value.bool false)), type := 4, pos := "law.go:148", after := #[{ on := 7, ground := Ground.data }, { on := 14, ground := Ground.data }], guard := none }, { dst := some 57, op := Op.move (Operand.tmp 56), type := 4, pos := "law.go:148", after := #[{ on := 15, ground := Ground.data }, { on := 12, ground := Ground.chain }], guard := none }, { dst := some 58, op := Op.load 31 (Operand.tmp 7), type := 31, pos := "law.go:148", after := #[{ on := 16, ground := Ground.guard }], guard := some (16, true) }, { dst := some 59, op := Op.load 23 (Operand.tmp 3), type := 23, pos := "law.go:148", after := #[{ on := 16, ground := Ground.guard }], guard := some (16, true) }, { dst := some 60, op := Op.fieldAddr 23 (Operand.tmp 3) 2, type := 0, pos := "law.go:148", after := #[{ on := 16, ground := Ground.guard }], guard := some (16, true) }, { dst := some 61, op := Op.load 3 (Operand.tmp 60), type := 3, pos := "law.go:148", after := #[{ on := 19, ground := Ground.data }, { on := 16, ground := Ground.guard }], guard := some (16, true) }, { dst := some 62, op := Op.binOp BinOp.add 3 (Operand.tmp 61) (Operand.const (Value.int IntKind.i64 3)) 3, type := 3, pos := "law.go:148", after := #[{ on := 20, ground := Ground.data }, { on := 16, ground := Ground.guard }], guard := some (16, true) }, { dst := some 63, op := Op.call { callee := Callee.value (Operand.func 13), args := #[Operand.tmp 59, Operand.tmp 62], argTypes := #[23, 3] }, type := 23, pos := "law.go:148", after := #[{ on := 18, ground := Ground.data }, { on := 21, ground := Ground.data }, { on := 16, ground := Ground.chain }, { on := 16, ground := Ground.guard }], guard := some (16, true) }, { dst := some 64, op := Op.call { callee := Callee.value (Operand.func 10), args := #[Operand.tmp 63], argTypes := #[23] }, type := 9, pos := "law.go:148", after := #[{ on := 22, ground := Ground.data }, { on := 22, ground := Ground.chain }, { on := 16, ground := Ground.guard }], guard := some (16, true) }, { dst := some 65, op := Op.move (Operand.tmp 2), type := 9, pos := "law.go:148", after := #[{ on := 16, ground := Ground.guard }], guard := some (16, true) }, { dst := some 66, op := Op.call { callee := Callee.value (Operand.func 12), args := #[Operand.tmp 58, Operand.tmp 64, Operand.tmp 65], argTypes := #[31, 9, 9] }, type := 4, pos := "law.go:148", after := #[{ on := 17, ground := Ground.data }, { on := 23, ground := Ground.data }, { on := 24, ground := Ground.data }, { on := 23, ground := Ground.chain }, { on := 16, ground := Ground.guard }], guard := some (16, true) }, { dst := some 67, op := Op.pick (Operand.tmp 57) (Operand.tmp 66) (Operand.const (Value.bool false)), type := 4, pos := "law.go:148", after := #[{ on := 16, ground := Ground.data }, { on := 25, ground := Ground.data }], guard := none }, { dst := some 68, op := Op.move (Operand.tmp 67), type := 4, pos := "law.go:148", after := #[{ on := 26, ground := Ground.data }, { on := 25, ground := Ground.chain }], guard := none }, { dst := some 69, op := Op.load 23 (Operand.tmp 3), type := 23, pos := "law.go:148", after := #[{ on := 27, ground := Ground.guard }], guard := some (27, true) }, { dst := some 70, op := Op.call { callee := Callee.value (Operand.func 10), args := #[Operand.tmp 69], argTypes := #[23] }, type := 9, pos := "law.go:148", after := #[{ on := 28, ground := Ground.data }, { on := 27, ground := Ground.chain }, { on := 27, ground := Ground.guard }], guard := some (27, true) }, { dst := some 71, op := Op.call { callee := Callee.value (Operand.func 14), args := #[Operand.tmp 70], argTypes := #[9] }, type := 31, pos := "law.go:148", after := #[{ on := 29, ground := Ground.data }, { on := 29, ground := Ground.chain }, { on := 27, ground := Ground.guard }], guard := some (27, true) }, { dst := some 72, op := Op.load 23 (Operand.tmp 3), type := 23, pos := "law.go:148", after := #[{ on := 27, ground := Ground.guard }], guard := some (27, true) }, { dst := some 73, op := Op.call { callee := Callee.value (Operand.func 10), args := #[Operand.tmp 72], argTypes := #[23] }, type := 9, pos := "law.go:148", after := #[{ on := 31, ground := Ground.data }, { on := 30, ground := Ground.chain }, { on := 27, ground := Ground.guard }], guard := some (27, true) }, { dst := some 74, op := Op.move (Operand.tmp 2), type := 9, pos := "law.go:148", after := #[{ on := 27, ground := Ground.guard }], guard := some (27, true) }, { dst := some 75, op := Op.call { callee := Callee.value (Operand.func 12), args := #[Operand.tmp 71, Operand.tmp 73, Operand.tmp 74], argTypes := #[31, 9, 9] }, type := 4, pos := "law.go:148", after := #[{ on := 30, ground := Ground.data }, { on := 32, ground := Ground.data }, { on := 33, ground := Ground.data }, { on := 32, ground := Ground.chain }, { on := 27, ground := Ground.guard }], guard := some (27, true) }, { dst := some 76, op := Op.pick (Operand.tmp 68) (Operand.tmp 75) (Operand.const (Value.bool false)), type := 4, pos := "law.go:148", after := #[{ on := 27, ground := Ground.data }, { on := 34, ground := Ground.data }], guard := none }, { dst := some 77, op := Op.move (Operand.tmp 76), type := 4, pos := "law.go:148", after := #[{ on := 35, ground := Ground.data }, { on := 34, ground := Ground.chain }], guard := none }, { dst := some 78, op := Op.call { callee := Callee.value (Operand.func 15), args := #[Operand.const (Value.int IntKind.i64 1)], argTypes := #[2] }, type := 31, pos := "law.go:148", after := #[{ on := 36, ground := Ground.chain }, { on := 36, ground := Ground.guard }], guard := some (36, true) }, { dst := some 79, op := Op.move (Operand.tmp 2), type := 9, pos := "law.go:148", after := #[{ on := 36, ground := Ground.guard }], guard := some (36, true) }, { dst := some 80, op := Op.call { callee := Callee.value (Operand.func 12), args := #[Operand.tmp 78, Operand.const (Value.string { data := #[49] }), Operand.tmp 79], argTypes := #[31, 9, 9] }, type := 4, pos := "law.go:148", after := #[{ on := 37, ground := Ground.data }, { on := 38, ground := Ground.data }, { on := 37, ground := Ground.chain }, { on := 36, ground := Ground.guard }], guard := some (36, true) }, { dst := some 81, op := Op.unOp UnOp.not 4 (Operand.tmp 80), type := 4, pos := "law.go:148", after := #[{ on := 39, ground := Ground.data }, { on := 36, ground := Ground.guard }], guard := some (36, true) }, { dst := some 82, op := Op.pick (Operand.tmp 77) (Operand.tmp 81) (Operand.const (Value.bool false)), type := 4, pos := "law.go:148", after := #[{ on := 36, ground := Ground.data }, { on := 40, ground := Ground.data }], guard := none }, { dst := some 6, op := Op.assign (Operand.tmp 82), type := 4, pos := "law.go:148", after := #[{ on := 41, ground := Ground.data }, { on := 39, ground := Ground.chain }, { on := 0, ground := Ground.phase }, { on := 1, ground := Ground.phase }, { on := 2, ground := Ground.phase }, { on := 3, ground := Ground.phase }, { on := 4, ground := Ground.phase }, { on := 5, ground := Ground.phase }, { on := 6, ground := Ground.phase }, { on := 7, ground := Ground.phase }, { on := 8, ground := Ground.phase }, { on := 9, ground := Ground.phase }, { on := 10, ground := Ground.phase }, { on := 11, ground := Ground.phase }, { on := 12, ground := Ground.phase }, { on := 13, ground := Ground.phase }, { on := 14, ground := Ground.phase }, { on := 15, ground := Ground.phase }, { on := 16, ground := Ground.phase }, { on := 17, ground := Ground.phase }, { on := 18, ground := Ground.phase }, { on := 19, ground := Ground.phase }, { on := 20, ground := Ground.phase }, { on := 21, ground := Ground.phase }, { on := 22, ground := Ground.phase }, { on := 23, ground := Ground.phase }, { on := 24, ground := Ground.phase }, { on := 25, ground := Ground.phase }, { on := 26, ground := Ground.phase }, { on := 27, ground := Ground.phase }, { on := 28, ground := Ground.phase }, { on := 29, ground := Ground.phase }, { on := 30, ground := Ground.phase }, { on := 31, ground := Ground.phase }, { on := 32, ground := Ground.phase }, { on := 33, ground := Ground.phase }, { on := 34, ground := Ground.phase }, { on := 35, ground := Ground.phase }, { on := 36, ground := Ground.phase }, { on := 37, ground := Ground.phase }, { on := 38, ground := Ground.phase }, { on := 39, ground := Ground.phase }, { on := 40, ground := Ground.phase }, { on := 41, ground := Ground.phase }], guard := none }] true).wp Tryz.prog Q a0 W := by
  refine start_ (n := 43) (S := fun w' => True) (ds := []) #[false, false, false, false, false, false, false, false, false, false, false, false, false, false, false, false, false, false, false, false, false, false, false, false, false, false, false, false, false, false, false, false, false, false, false, false, false, false, false, false, false, false, false] (by kernel_rfl) rfl rfl trivial (fun hHeld => ?_)
  refine with_tabW same_end.tab same_end.bits (fun HT_ HW_ => ?_)
  refine inv_at [0, 1, 2, 3, 4, 5, 6, 7, 8, 9, 10, 11, 12, 13, 14, 15, 16, 17, 18, 19, 20, 21, 22, 23, 24, 25, 26, 27, 28, 29, 30, 31, 32, 33, 34, 35, 36, 37, 38, 39, 40, 41, 42] (fun a0_ b a w' => a = putSel a0_ b [(0, 41, .agg #[.int .i64 1, .string ⟨#[]⟩, .bool n1, .string A, .int .i64 k1, .int .i64 1, .int .i64 0, .int .i64 3, .bool false, .bool false, .int .i64 0, .int .i64 0]), (1, 42, .agg #[.bool n2, .string B, .int .i64 k2]), (2, 43, .string SB), (3, 44, .string lang), (4, 45, .bool sm), (5, 46, .bool sm), (6, 47, .bool true), (7, 48, .bool true), (8, 49, .agg #[.int .i64 1, .string ⟨#[]⟩, .bool n1, .string A2, .int .i64 k1, .int .i64 1, .int .i64 mf, .int .i64 xf, .bool false, .bool false, .int .i64 0, .int .i64 0]), (9, 50, .agg #[.bool n2, .string B, .int .i64 k2]), (10, 51, .string SB), (11, 52, .string lang), (12, 53, .bool sm), (13, 54, .bool sm), (14, 55, .bool true), (15, 56, .bool true), (16, 57, .bool true), (17, 58, .agg #[.int .i64 1, .string ⟨#[]⟩, .bool n1, .string A, .int .i64 k1, .int .i64 1, .int .i64 0, .int .i64 3, .bool false, .bool false, .int .i64 0, .int .i64 0]), (18, 59, .agg #[.bool n1, .string A, .int .i64 k1]), (19, 60, .pointer (some ⟨w0.heap.size, 2, none⟩)), (20, 61, .int .i64 k1), (21, 62, .int .i64 (k1 + 3)), (22, 63, .agg #[.bool n1, .string PA, .int .i64 (k1 + 3)]), (23, 64, .string SP), (24, 65, .string lang), (25, 66, .bool true), (26, 67, .bool true), (27, 68, .bool true), (28, 69, .agg #[.bool n1, .string A, .int .i64 k1]), (29, 70, .string SA), (30, 71, .agg #[.int .i64 0, .string SA, .bool false, .string ⟨#[]⟩, .int .i64 0, .int .i64 0, .int .i64 0, .int .i64 0, .bool false, .bool false, .int .i64 0, .int .i64 0]), (31, 72, .agg #[.bool n1, .string A, .int .i64 k1]), (32, 73, .string SA), (33, 74, .string lang), (34, 75, .bool true), (35, 76, .bool true), (36, 77, .bool true), (37, 78, .agg #[.int .i64 2, .string ⟨#[]⟩, .bool false, .string ⟨#[]⟩, .int .i64 0, .int .i64 0, .int .i64 0, .int .i64 0, .bool false, .bool false, .int .i64 1, .int .i64 0]), (38, 79, .string lang), (39, 80, .bool false), (40, 81, .bool true), (41, 82, .bool true), (42, 6, .bool true)] ∧ (VsI w0 gv gw n1 A A2 k1 n2 B k2 mf xf w')) HT_.out HW_.out (by kernel_rfl) (by kernel_rfl) ?_ ?_ ?_
  · exact ⟨(by simp only [putSel, Bool.false_eq_true, if_false]), hI⟩
  · clear hI hend hHeld
    refine steps_cons ?_ ?_
    · rintro b a w' ⟨ha, hI⟩ hb_ hon hoff
      refine ⟨_, rfl, fun K hK => ?_⟩
      have e7 : a.tmps[7]? = some (.pointer (some ⟨gv, 0, none⟩)) := by rw [ha]; exact (putSel_off rfl).trans s7
      replace ha := Aside0.mk ha
      have p0 := Own.c hI 1 0 rfl rfl
      have p1 := Own.c hI 1 1 rfl rfl
      have p2 := Own.c hI 1 2 rfl rfl
      have p3 := Own.c hI 1 3 rfl rfl
      have p4 := Own.c hI 1 4 rfl rfl
      have p5 := Own.c hI 1 5 rfl rfl
      have p6 := Own.c hI 1 6 rfl rfl
      have p7 := Own.c hI 1 7 rfl rfl
      have p8 := Own.c hI 1 8 rfl rfl
      have p9 := Own.c hI 1 9 rfl rfl
      have p10 := Own.c hI 1 10 rfl rfl
      have p11 := Own.c hI 1 11 rfl rfl
      refine value_ (w1 := w') (v := .agg #[.int .i64 1, .string ⟨#[]⟩, .bool n1, .string A, .int .i64 k1, .int .i64 1, .int .i64 0, .int .i64 3, .bool false, .bool false, .int .i64 0, .int .i64 0]) (by rfl) rfl ?_ ?_
      · go_simp; try rfl
        all_goals (try (simp only [IntKind.wrap_i64]; omega))
      exact hK.out _ _ ⟨(by rw [ha.out]; exact putSel_upk 0 hb_ rfl rfl rfl), hI⟩
    refine steps_cons ?_ ?_
    · rintro b a w' ⟨ha, hI⟩ hb_ hon hoff
      refine ⟨_, rfl, fun K hK => ?_⟩
      have e4 : a.tmps[4]? = some (.pointer (some ⟨w0.heap.size + 1, 0, none⟩)) := by rw [ha]; exact (putSel_off rfl).trans s4
      replace ha := Aside0.mk ha
      have p0 := Own.c hI 2 0 rfl rfl
      have p1 := Own.c hI 2 1 rfl rfl
      have p2 := Own.c hI 2 2 rfl rfl
      refine value_ (w1 := w') (v := .agg #[.bool n2, .string B, .int .i64 k2]) (by rfl) rfl ?_ ?_
      · go_simp; try rfl
        all_goals (try (simp only [IntKind.wrap_i64]; omega))
      exact hK.out _ _ ⟨(by rw [ha.out]; exact putSel_upk 1 hb_ rfl rfl rfl), hI⟩
    refine steps_cons ?_ ?_
    · rintro b a w' ⟨ha, hI⟩ hb_ hon hoff
      refine ⟨_, rfl, fun K hK => ?_⟩
      have e42 : a.tmps[42]? = some (.agg #[.bool n2, .string B, .int .i64 k2]) := by rw [ha]; exact putSel_on (e := (1, 42, .agg #[.bool n2, .string B, .int .i64 k2])) 1 rfl rfl (hon 1 (by kernel_rfl)) (by rw [hsz]; rfl)
      replace ha := Aside0.mk ha
      refine goes_ Tryz.func10 (by kernel_rfl) rfl #[.agg #[.bool n2, .string B, .int .i64 k2]] (by rfl) rfl rfl (by first | (simp only [List.map_toArray, List.map_cons, List.map_nil, Act.eval, Array.getD_eq_getD_getElem?, Option.getD_some, e42]; done) | (simp only [List.map_toArray, List.map_cons, List.map_nil, Act.eval, Array.getD_eq_getD_getElem?, Option.getD_some, e42]; rfl)) ?_
      refine (cSb w').mono ?_
      rintro e w1 ⟨rfl, b1⟩; have hI1 := hI.step b1
      exact ⟨_, rfl, hK.out _ _ ⟨(by rw [ha.out]; exact putSel_upk 2 hb_ rfl rfl rfl), hI1⟩⟩
    refine steps_cons ?_ ?_
    · rintro b a w' ⟨ha, hI⟩ hb_ hon hoff
      refine ⟨_, rfl, fun K hK => ?_⟩
      have e2 : a.tmps[2]? = some (.string lang) := by rw [ha]; exact (putSel_off rfl).trans s2
      replace ha := Aside0.mk ha
      refine value_ (w1 := w') (v := .string lang) (by rfl) rfl ?_ ?_
      · go_simp; try rfl
        all_goals (try (simp only [IntKind.wrap_i64]; omega))
      exact hK.out _ _ ⟨(by rw [ha.out]; exact putSel_upk 3 hb_ rfl rfl rfl), hI⟩
    refine steps_cons ?_ ?_
    · rintro b a w' ⟨ha, hI⟩ hb_ hon hoff
      refine ⟨_, rfl, fun K hK => ?_⟩
      have e41 : a.tmps[41]? = some (.agg #[.int .i64 1, .string ⟨#[]⟩, .bool n1, .string A, .int .i64 k1, .int .i64 1, .int .i64 0, .int .i64 3, .bool false, .bool false, .int .i64 0, .int .i64 0]) := by rw [ha]; exact putSel_on (e := (0, 41, .agg #[.int .i64 1, .string ⟨#[]⟩, .bool n1, .string A, .int .i64 k1, .int .i64 1, .int .i64 0, .int .i64 3, .bool false, .bool false, .int .i64 0, .int .i64 0])) 0 rfl rfl (hon 0 (by kernel_rfl)) (by rw [hsz]; rfl)
      have e43 : a.tmps[43]? = some (.string SB) := by rw [ha]; exact putSel_on (e := (2, 43, .string SB)) 2 rfl rfl (hon 2 (by kernel_rfl)) (by rw [hsz]; rfl)
      have e44 : a.tmps[44]? = some (.string lang) := by rw [ha]; exact putSel_on (e := (3, 44, .string lang)) 3 rfl rfl (hon 3 (by kernel_rfl)) (by rw [hsz]; rfl)
      replace ha := Aside0.mk ha
      refine goes_ Tryz.func12 (by kernel_rfl) rfl #[.agg #[.int .i64 1, .string ⟨#[]⟩, .bool n1, .string A, .int .i64 k1, .int .i64 1, .int .i64 0, .int .i64 3, .bool false, .bool false, .int .i64 0, .int .i64 0], .string SB, .string lang] (by rfl) rfl rfl (by first | (simp only [List.map_toArray, List.map_cons, List.map_nil, Act.eval, Array.getD_eq_getD_getElem?, Option.getD_some, e41, e43, e44]; done) | (simp only [List.map_toArray, List.map_cons, List.map_nil, Act.eval, Array.getD_eq_getD_getElem?, Option.getD_some, e41, e43, e44]; rfl)) ?_
      refine (cI1 w' hI.bel).mono ?_
      rintro e w1 ⟨rfl, b1⟩; have hI1 := hI.step b1
      exact ⟨_, rfl, hK.out _ _ ⟨(by rw [ha.out]; exact putSel_upk 4 hb_ rfl rfl rfl), hI1⟩⟩
    refine steps_cons ?_ ?_
    · rintro b a w' ⟨ha, hI⟩ hb_ hon hoff
      refine ⟨_, rfl, fun K hK => ?_⟩
      have e9 : a.tmps[9]? = some (.bool sm) := by rw [ha]; exact (putSel_off rfl).trans s9
      replace ha := Aside0.mk ha
      refine value_ (w1 := w') (v := .bool sm) (by rfl) rfl ?_ ?_
      · go_simp; try rfl
        all_goals (try (simp only [IntKind.wrap_i64]; omega))
      exact hK.out _ _ ⟨(by rw [ha.out]; exact putSel_upk 5 hb_ rfl rfl rfl), hI⟩
    refine steps_cons ?_ ?_
    · rintro b a w' ⟨ha, hI⟩ hb_ hon hoff
      refine ⟨_, rfl, fun K hK => ?_⟩
      have e45 : a.tmps[45]? = some (.bool sm) := by rw [ha]; exact putSel_on (e := (4, 45, .bool sm)) 4 rfl rfl (hon 4 (by kernel_rfl)) (by rw [hsz]; rfl)
      have e46 : a.tmps[46]? = some (.bool sm) := by rw [ha]; exact putSel_on (e := (5, 46, .bool sm)) 5 rfl rfl (hon 5 (by kernel_rfl)) (by rw [hsz]; rfl)
      replace ha := Aside0.mk ha
      refine value_ (w1 := w') (v := .bool true) (by rfl) rfl ?_ ?_
      · go_simp; try rfl
        all_goals (try (cases sm <;> rfl))
      exact hK.out _ _ ⟨(by rw [ha.out]; exact putSel_upk 6 hb_ rfl rfl rfl), hI⟩
    refine steps_cons ?_ ?_
    · rintro b a w' ⟨ha, hI⟩ hb_ hon hoff
      refine ⟨_, rfl, fun K hK => ?_⟩
      have e47 : a.tmps[47]? = some (.bool true) := by rw [ha]; exact putSel_on (e := (6, 47, .bool true)) 6 rfl rfl (hon 6 (by kernel_rfl)) (by rw [hsz]; rfl)
      replace ha := Aside0.mk ha
      refine value_ (w1 := w') (v := .bool true) (by rfl) rfl ?_ ?_
      · go_simp; try rfl
        all_goals (try (simp only [IntKind.wrap_i64]; omega))
      exact hK.out _ _ ⟨(by rw [ha.out]; exact putSel_upk 7 hb_ rfl rfl rfl), hI⟩
    refine steps_cons ?_ ?_
    · rintro b a w' ⟨ha, hI⟩ hb_ hon hoff
      refine ⟨_, rfl, fun K hK => ?_⟩
      have e8 : a.tmps[8]? = some (.pointer (some ⟨gw, 0, none⟩)) := by rw [ha]; exact (putSel_off rfl).trans s8
      have e48 : a.tmps[48]? = some (.bool true) := by rw [ha]; exact putSel_on (e := (7, 48, .bool true)) 7 rfl rfl (hon 7 (by kernel_rfl)) (by rw [hsz]; rfl)
      replace ha := Aside0.mk ha
      have p0 := Own.c hI 0 0 rfl rfl
      have p1 := Own.c hI 0 1 rfl rfl
      have p2 := Own.c hI 0 2 rfl rfl
      have p3 := Own.c hI 0 3 rfl rfl
      have p4 := Own.c hI 0 4 rfl rfl
      have p5 := Own.c hI 0 5 rfl rfl
      have p6 := Own.c hI 0 6 rfl rfl
      have p7 := Own.c hI 0 7 rfl rfl
      have p8 := Own.c hI 0 8 rfl rfl
      have p9 := Own.c hI 0 9 rfl rfl
      have p10 := Own.c hI 0 10 rfl rfl
      have p11 := Own.c hI 0 11 rfl rfl
      refine value_ (w1 := w') (v := .agg #[.int .i64 1, .string ⟨#[]⟩, .bool n1, .string A2, .int .i64 k1, .int .i64 1, .int .i64 mf, .int .i64 xf, .bool false, .bool false, .int .i64 0, .int .i64 0]) (wanted_on rfl rfl rfl e48) rfl ?_ ?_
      · go_simp; try rfl
        all_goals (try (simp only [IntKind.wrap_i64]; omega))
      exact hK.out _ _ ⟨(by rw [ha.out]; exact putSel_upk 8 hb_ rfl rfl rfl), hI⟩
    refine steps_cons ?_ ?_
    · rintro b a w' ⟨ha, hI⟩ hb_ hon hoff
      refine ⟨_, rfl, fun K hK => ?_⟩
      have e4 : a.tmps[4]? = some (.pointer (some ⟨w0.heap.size + 1, 0, none⟩)) := by rw [ha]; exact (putSel_off rfl).trans s4
      have e48 : a.tmps[48]? = some (.bool true) := by rw [ha]; exact putSel_on (e := (7, 48, .bool true)) 7 rfl rfl (hon 7 (by kernel_rfl)) (by rw [hsz]; rfl)
      replace ha := Aside0.mk ha
      have p0 := Own.c hI 2 0 rfl rfl
      have p1 := Own.c hI 2 1 rfl rfl
      have p2 := Own.c hI 2 2 rfl rfl
      refine value_ (w1 := w') (v := .agg #[.bool n2, .string B, .int .i64 k2]) (wanted_on rfl rfl rfl e48) rfl ?_ ?_
      · go_simp; try rfl
        all_goals (try (simp only [IntKind.wrap_i64]; omega))
      exact hK.out _ _ ⟨(by rw [ha.out]; exact putSel_upk 9 hb_ rfl rfl rfl), hI⟩
    refine steps_cons ?_ ?_
    · rintro b a w' ⟨ha, hI⟩ hb_ hon hoff
      refine ⟨_, rfl, fun K hK => ?_⟩
      have e50 : a.tmps[50]? = some (.agg #[.bool n2, .string B, .int .i64 k2]) := by rw [ha]; exact putSel_on (e := (9, 50, .agg #[.bool n2, .string B, .int .i64 k2])) 9 rfl rfl (hon 9 (by kernel_rfl)) (by rw [hsz]; rfl)
      have e48 : a.tmps[48]? = some (.bool true) := by rw [ha]; exact putSel_on (e := (7, 48, .bool true)) 7 rfl rfl (hon 7 (by kernel_rfl)) (by rw [hsz]; rfl)
      replace ha := Aside0.mk ha
      refine goes_ Tryz.func10 (by kernel_rfl) rfl #[.agg #[.bool n2, .string B, .int .i64 k2]] (wanted_on rfl rfl rfl e48) rfl rfl (by first | (simp only [List.map_toArray, List.map_cons, List.map_nil, Act.eval, Array.getD_eq_getD_getElem?, Option.getD_some, e50]; done) | (simp only [List.map_toArray, List.map_cons, List.map_nil, Act.eval, Array.getD_eq_getD_getElem?, Option.getD_some, e50]; rfl)) ?_
      refine (cSb w').mono ?_
      rintro e w1 ⟨rfl, b1⟩; have hI1 := hI.step b1
      exact ⟨_, rfl, hK.out _ _ ⟨(by rw [ha.out]; exact putSel_upk 10 hb_ rfl rfl rfl), hI1⟩⟩
    refine steps_cons ?_ ?_
    · rintro b a w' ⟨ha, hI⟩ hb_ hon hoff
      refine ⟨_, rfl, fun K hK => ?_⟩
      have e2 : a.tmps[2]? = some (.string lang) := by rw [ha]; exact (putSel_off rfl).trans s2
      have e48 : a.tmps[48]? = some (.bool true) := by rw [ha]; exact putSel_on (e := (7, 48, .bool true)) 7 rfl rfl (hon 7 (by kernel_rfl)) (by rw [hsz]; rfl)
      replace ha := Aside0.mk ha
      refine value_ (w1 := w') (v := .string lang) (wanted_on rfl rfl rfl e48) rfl ?_ ?_
      · go_simp; try rfl
        all_goals (try (simp only [IntKind.wrap_i64]; omega))
      exact hK.out _ _ ⟨(by rw [ha.out]; exact putSel_upk 11 hb_ rfl rfl rfl), hI⟩
    refine steps_cons ?_ ?_
    · rintro b a w' ⟨ha, hI⟩ hb_ hon hoff
      refine ⟨_, rfl, fun K hK => ?_⟩
      have e49 : a.tmps[49]? = some (.agg #[.int .i64 1, .string ⟨#[]⟩, .bool n1, .string A2, .int .i64 k1, .int .i64 1, .int .i64 mf, .int .i64 xf, .bool false, .bool false, .int .i64 0, .int .i64 0]) := by rw [ha]; exact putSel_on (e := (8, 49, .agg #[.int .i64 1, .string ⟨#[]⟩, .bool n1, .string A2, .int .i64 k1, .int .i64 1, .int .i64 mf, .int .i64 xf, .bool false, .bool false, .int .i64 0, .int .i64 0])) 8 rfl rfl (hon 8 (by kernel_rfl)) (by rw [hsz]; rfl)
      have e51 : a.tmps[51]? = some (.string SB) := by rw [ha]; exact putSel_on (e := (10, 51, .string SB)) 10 rfl rfl (hon 10 (by kernel_rfl)) (by rw [hsz]; rfl)
      have e52 : a.tmps[52]? = some (.string lang) := by rw [ha]; exact putSel_on (e := (11, 52, .string lang)) 11 rfl rfl (hon 11 (by kernel_rfl)) (by rw [hsz]; rfl)
      have e48 : a.tmps[48]? = some (.bool true) := by rw [ha]; exact putSel_on (e := (7, 48, .bool true)) 7 rfl rfl (hon 7 (by kernel_rfl)) (by rw [hsz]; rfl)
      replace ha := Aside0.mk ha
      refine goes_ Tryz.func12 (by kernel_rfl) rfl #[.agg #[.int .i64 1, .string ⟨#[]⟩, .bool n1, .string A2, .int .i64 k1, .int .i64 1, .int .i64 mf, .int .i64 xf, .bool false, .bool false, .int .i64 0, .int .i64 0], .string SB, .string lang] (wanted_on rfl rfl rfl e48) rfl rfl (by first | (simp only [List.map_toArray, List.map_cons, List.map_nil, Act.eval, Array.getD_eq_getD_getElem?, Option.getD_some, e49, e51, e52]; done) | (simp only [List.map_toArray, List.map_cons, List.map_nil, Act.eval, Array.getD_eq_getD_getElem?, Option.getD_some, e49, e51, e52]; rfl)) ?_
      refine (cI2 w' hI.bel).mono ?_
      rintro e w1 ⟨rfl, b1⟩; have hI1 := hI.step b1
      exact ⟨_, rfl, hK.out _ _ ⟨(by rw [ha.out]; exact putSel_upk 12 hb_ rfl rfl rfl), hI1⟩⟩
    refine steps_cons ?_ ?_
    · rintro b a w' ⟨ha, hI⟩ hb_ hon hoff
      refine ⟨_, rfl, fun K hK => ?_⟩
      have e9 : a.tmps[9]? = some (.bool sm) := by rw [ha]; exact (putSel_off rfl).trans s9
      have e48 : a.tmps[48]? = some (.bool true) := by rw [ha]; exact putSel_on (e := (7, 48, .bool true)) 7 rfl rfl (hon 7 (by kernel_rfl)) (by rw [hsz]; rfl)
      replace ha := Aside0.mk ha
      refine value_ (w1 := w') (v := .bool sm) (wanted_on rfl rfl rfl e48) rfl ?_ ?_
      · go_simp; try rfl
        all_goals (try (simp only [IntKind.wrap_i64]; omega))
      exact hK.out _ _ ⟨(by rw [ha.out]; exact putSel_upk 13 hb_ rfl rfl rfl), hI⟩
    refine steps_cons ?_ ?_
    · rintro b a w' ⟨ha, hI⟩ hb_ hon hoff
      refine ⟨_, rfl, fun K hK => ?_⟩
      have e53 : a.tmps[53]? = some (.bool sm) := by rw [ha]; exact putSel_on (e := (12, 53, .bool sm)) 12 rfl rfl (hon 12 (by kernel_rfl)) (by rw [hsz]; rfl)
      have e54 : a.tmps[54]? = some (.bool sm) := by rw [ha]; exact putSel_on (e := (13, 54, .bool sm)) 13 rfl rfl (hon 13 (by kernel_rfl)) (by rw [hsz]; rfl)
      have e48 : a.tmps[48]? = some (.bool true) := by rw [ha]; exact putSel_on (e := (7, 48, .bool true)) 7 rfl rfl (hon 7 (by kernel_rfl)) (by rw [hsz]; rfl)
      replace ha := Aside0.mk ha
      refine value_ (w1 := w') (v := .bool true) (wanted_on rfl rfl rfl e48) rfl ?_ ?_
      · go_simp; try rfl
        all_goals (try (cases sm <;> rfl))
      exact hK.out _ _ ⟨(by rw [ha.out]; exact putSel_upk 14 hb_ rfl rfl rfl), hI⟩
    refine steps_cons ?_ ?_
    · rintro b a w' ⟨ha, hI⟩ hb_ hon hoff
      refine ⟨_, rfl, fun K hK => ?_⟩
      have e48 : a.tmps[48]? = some (.bool true) := by rw [ha]; exact putSel_on (e := (7, 48, .bool true)) 7 rfl rfl (hon 7 (by kernel_rfl)) (by rw [hsz]; rfl)
      have e55 : a.tmps[55]? = some (.bool true) := by rw [ha]; exact putSel_on (e := (14, 55, .bool true)) 14 rfl rfl (hon 14 (by kernel_rfl)) (by rw [hsz]; rfl)
      replace ha := Aside0.mk ha
      refine value_ (w1 := w') (v := .bool true) (by rfl) rfl ?_ ?_
      · go_simp; try rfl
        all_goals (try (simp only [IntKind.wrap_i64]; omega))
      exact hK.out _ _ ⟨(by rw [ha.out]; exact putSel_upk 15 hb_ rfl rfl rfl), hI⟩
    refine steps_cons ?_ ?_
    · rintro b a w' ⟨ha, hI⟩ hb_ hon hoff
      refine ⟨_, rfl, fun K hK => ?_⟩
      have e56 : a.tmps[56]? = some (.bool true) := by rw [ha]; exact putSel_on (e := (15, 56, .bool true)) 15 rfl rfl (hon 15 (by kernel_rfl)) (by rw [hsz]; rfl)
      replace ha := Aside0.mk ha
      refine value_ (w1 := w') (v := .bool true) (by rfl) rfl ?_ ?_
      · go_simp; try rfl
        all_goals (try (simp only [IntKind.wrap_i64]; omega))
      exact hK.out _ _ ⟨(by rw [ha.out]; exact putSel_upk 16 hb_ rfl rfl rfl), hI⟩
    refine steps_cons ?_ ?_
    · rintro b a w' ⟨ha, hI⟩ hb_ hon hoff
      refine ⟨_, rfl, fun K hK => ?_⟩
      have e7 : a.tmps[7]? = some (.pointer (some ⟨gv, 0, none⟩)) := by rw [ha]; exact (putSel_off rfl).trans s7
      have e57 : a.tmps[57]? = some (.bool true) := by rw [ha]; exact putSel_on (e := (16, 57, .bool true)) 16 rfl rfl (hon 16 (by kernel_rfl)) (by rw [hsz]; rfl)
      replace ha := Aside0.mk ha
      have p0 := Own.c hI 1 0 rfl rfl
      have p1 := Own.c hI 1 1 rfl rfl
      have p2 := Own.c hI 1 2 rfl rfl
      have p3 := Own.c hI 1 3 rfl rfl
      have p4 := Own.c hI 1 4 rfl rfl
      have p5 := Own.c hI 1 5 rfl rfl
      have p6 := Own.c hI 1 6 rfl rfl
      have p7 := Own.c hI 1 7 rfl rfl
      have p8 := Own.c hI 1 8 rfl rfl
      have p9 := Own.c hI 1 9 rfl rfl
      have p10 := Own.c hI 1 10 rfl rfl
      have p11 := Own.c hI 1 11 rfl rfl
      refine value_ (w1 := w') (v := .agg #[.int .i64 1, .string ⟨#[]⟩, .bool n1, .string A, .int .i64 k1, .int .i64 1, .int .i64 0, .int .i64 3, .bool false, .bool false, .int .i64 0, .int .i64 0]) (wanted_on rfl rfl rfl e57) rfl ?_ ?_
      · go_simp; try rfl
        all_goals (try (simp only [IntKind.wrap_i64]; omega))
      exact hK.out _ _ ⟨(by rw [ha.out]; exact putSel_upk 17 hb_ rfl rfl rfl), hI⟩
    refine steps_cons ?_ ?_
    · rintro b a w' ⟨ha, hI⟩ hb_ hon hoff
      refine ⟨_, rfl, fun K hK => ?_⟩
      have e3 : a.tmps[3]? = some (.pointer (some ⟨w0.heap.size, 0, none⟩)) := by rw [ha]; exact (putSel_off rfl).trans s3
      have e57 : a.tmps[57]? = some (.bool true) := by rw [ha]; exact putSel_on (e := (16, 57, .bool true)) 16 rfl rfl (hon 16 (by kernel_rfl)) (by rw [hsz]; rfl)
      replace ha := Aside0.mk ha
      have p0 := Own.c hI 3 0 rfl rfl
      have p1 := Own.c hI 3 1 rfl rfl
      have p2 := Own.c hI 3 2 rfl rfl
      refine value_ (w1 := w') (v := .agg #[.bool n1, .string A, .int .i64 k1]) (wanted_on rfl rfl rfl e57) rfl ?_ ?_
      · go_simp; try rfl
        all_goals (try (simp only [IntKind.wrap_i64]; omega))
      exact hK.out _ _ ⟨(by rw [ha.out]; exact putSel_upk 18 hb_ rfl rfl rfl), hI⟩
    refine steps_cons ?_ ?_
    · rintro b a w' ⟨ha, hI⟩ hb_ hon hoff
      refine ⟨_, rfl, fun K hK => ?_⟩
      have e3 : a.tmps[3]? = some (.pointer (some ⟨w0.heap.size, 0, none⟩)) := by rw [ha]; exact (putSel_off rfl).trans s3
      have e57 : a.tmps[57]? = some (.bool true) := by rw [ha]; exact putSel_on (e := (16, 57, .bool true)) 16 rfl rfl (hon 16 (by kernel_rfl)) (by rw [hsz]; rfl)
      replace ha := Aside0.mk ha
      refine value_ (w1 := w') (v := .pointer (some ⟨w0.heap.size, 2, none⟩)) (wanted_on rfl rfl rfl e57) rfl ?_ ?_
      · go_simp; try rfl
        all_goals (try (simp only [IntKind.wrap_i64]; omega))
      exact hK.out _ _ ⟨(by rw [ha.out]; exact putSel_upk 19 hb_ rfl rfl rfl), hI⟩
    refine steps_cons ?_ ?_
    · rintro b a w' ⟨ha, hI⟩ hb_ hon hoff
      refine ⟨_, rfl, fun K hK => ?_⟩
      have e60 : a.tmps[60]? = some (.pointer (some ⟨w0.heap.size, 2, none⟩)) := by rw [ha]; exact putSel_on (e := (19, 60, .pointer (some ⟨w0.heap.size, 2, none⟩))) 19 rfl rfl (hon 19 (by kernel_rfl)) (by rw [hsz]; rfl)
      have e57 : a.tmps[57]? = some (.bool true) := by rw [ha]; exact putSel_on (e := (16, 57, .bool true)) 16 rfl rfl (hon 16 (by kernel_rfl)) (by rw [hsz]; rfl)
      replace ha := Aside0.mk ha
      have p2 := Own.c hI 3 2 rfl rfl
      refine value_ (w1 := w') (v := .int .i64 k1) (wanted_on rfl rfl rfl e57) rfl ?_ ?_
      · go_simp; try rfl
        all_goals (try (simp only [IntKind.wrap_i64]; omega))
      exact hK.out _ _ ⟨(by rw [ha.out]; exact putSel_upk 20 hb_ rfl rfl rfl), hI⟩
    refine steps_cons ?_ ?_
    · rintro b a w' ⟨ha, hI⟩ hb_ hon hoff
      refine ⟨_, rfl, fun K hK => ?_⟩
      have e61 : a.tmps[61]? = some (.int .i64 k1) := by rw [ha]; exact putSel_on (e := (20, 61, .int .i64 k1)) 20 rfl rfl (hon 20 (by kernel_rfl)) (by rw [hsz]; rfl)
      have e57 : a.tmps[57]? = some (.bool true) := by rw [ha]; exact putSel_on (e := (16, 57, .bool true)) 16 rfl rfl (hon 16 (by kernel_rfl)) (by rw [hsz]; rfl)
      replace ha := Aside0.mk ha
      refine value_ (w1 := w') (v := .int .i64 (k1 + 3)) (wanted_on rfl rfl rfl e57) rfl ?_ ?_
      · go_simp; try rfl
        all_goals (try (simp only [IntKind.wrap_i64]; omega))
      exact hK.out _ _ ⟨(by rw [ha.out]; exact putSel_upk 21 hb_ rfl rfl rfl), hI⟩
    refine steps_cons ?_ ?_
    · rintro b a w' ⟨ha, hI⟩ hb_ hon hoff
      refine ⟨_, rfl, fun K hK => ?_⟩
      have e59 : a.tmps[59]? = some (.agg #[.bool n1, .string A, .int .i64 k1]) := by rw [ha]; exact putSel_on (e := (18, 59, .agg #[.bool n1, .string A, .int .i64 k1])) 18 rfl rfl (hon 18 (by kernel_rfl)) (by rw [hsz]; rfl)
      have e62 : a.tmps[62]? = some (.int .i64 (k1 + 3)) := by rw [ha]; exact putSel_on (e := (21, 62, .int .i64 (k1 + 3))) 21 rfl rfl (hon 21 (by kernel_rfl)) (by rw [hsz]; rfl)
      have e57 : a.tmps[57]? = some (.bool true) := by rw [ha]; exact putSel_on (e := (16, 57, .bool true)) 16 rfl rfl (hon 16 (by kernel_rfl)) (by rw [hsz]; rfl)
      replace ha := Aside0.mk ha
      refine goes_ Tryz.func13 (by kernel_rfl) rfl #[.agg #[.bool n1, .string A, .int .i64 k1], .int .i64 (k1 + 3)] (wanted_on rfl rfl rfl e57) rfl rfl (by first | (simp only [List.map_toArray, List.map_cons, List.map_nil, Act.eval, Array.getD_eq_getD_getElem?, Option.getD_some, e59, e62]; done) | (simp only [List.map_toArray, List.map_cons, List.map_nil, Act.eval, Array.getD_eq_getD_getElem?, Option.getD_some, e59, e62]; rfl)) ?_
      refine (cPad w').mono ?_
      rintro e w1 ⟨rfl, b1⟩; have hI1 := hI.step b1
      exact ⟨_, rfl, hK.out _ _ ⟨(by rw [ha.out]; exact putSel_upk 22 hb_ rfl rfl rfl), hI1⟩⟩
    refine steps_cons ?_ ?_
    · rintro b a w' ⟨ha, hI⟩ hb_ hon hoff
      refine ⟨_, rfl, fun K hK => ?_⟩
      have e63 : a.tmps[63]? = some (.agg #[.bool n1, .string PA, .int .i64 (k1 + 3)]) := by rw [ha]; exact putSel_on (e := (22, 63, .agg #[.bool n1, .string PA, .int .i64 (k1 + 3)])) 22 rfl rfl (hon 22 (by kernel_rfl)) (by rw [hsz]; rfl)
      have e57 : a.tmps[57]? = some (.bool true) := by rw [ha]; exact putSel_on (e := (16, 57, .bool true)) 16 rfl rfl (hon 16 (by kernel_rfl)) (by rw [hsz]; rfl)
      replace ha := Aside0.mk ha
      refine goes_ Tryz.func10 (by kernel_rfl) rfl #[.agg #[.bool n1, .string PA, .int .i64 (k1 + 3)]] (wanted_on rfl rfl rfl e57) rfl rfl (by first | (simp only [List.map_toArray, List.map_cons, List.map_nil, Act.eval, Array.getD_eq_getD_getElem?, Option.getD_some, e63]; done) | (simp only [List.map_toArray, List.map_cons, List.map_nil, Act.eval, Array.getD_eq_getD_getElem?, Option.getD_some, e63]; rfl)) ?_
      refine (cSp w').mono ?_
      rintro e w1 ⟨rfl, b1⟩; have hI1 := hI.step b1
      exact ⟨_, rfl, hK.out _ _ ⟨(by rw [ha.out]; exact putSel_upk 23 hb_ rfl rfl rfl), hI1⟩⟩
    refine steps_cons ?_ ?_
    · rintro b a w' ⟨ha, hI⟩ hb_ hon hoff
      refine ⟨_, rfl, fun K hK => ?_⟩
      have e2 : a.tmps[2]? = some (.string lang) := by rw [ha]; exact (putSel_off rfl).trans s2
      have e57 : a.tmps[57]? = some (.bool true) := by rw [ha]; exact putSel_on (e := (16, 57, .bool true)) 16 rfl rfl (hon 16 (by kernel_rfl)) (by rw [hsz]; rfl)
      replace ha := Aside0.mk ha
      refine value_ (w1 := w') (v := .string lang) (wanted_on rfl rfl rfl e57) rfl ?_ ?_
      · go_simp; try rfl
        all_goals (try (simp only [IntKind.wrap_i64]; omega))
      exact hK.out _ _ ⟨(by rw [ha.out]; exact putSel_upk 24 hb_ rfl rfl rfl), hI⟩
    refine steps_cons ?_ ?_
    · rintro b a w' ⟨ha, hI⟩ hb_ hon hoff
      refine ⟨_, rfl, fun K hK => ?_⟩
      have e58 : a.tmps[58]? = some (.agg #[.int .i64 1, .string ⟨#[]⟩, .bool n1, .string A, .int .i64 k1, .int .i64 1, .int .i64 0, .int .i64 3, .bool false, .bool false, .int .i64 0, .int .i64 0]) := by rw [ha]; exact putSel_on (e := (17, 58, .agg #[.int .i64 1, .string ⟨#[]⟩, .bool n1, .string A, .int .i64 k1, .int .i64 1, .int .i64 0, .int .i64 3, .bool false, .bool false, .int .i64 0, .int .i64 0])) 17 rfl rfl (hon 17 (by kernel_rfl)) (by rw [hsz]; rfl)
      have e64 : a.tmps[64]? = some (.string SP) := by rw [ha]; exact putSel_on (e := (23, 64, .string SP)) 23 rfl rfl (hon 23 (by kernel_rfl)) (by rw [hsz]; rfl)
      have e65 : a.tmps[65]? = some (.string lang) := by rw [ha]; exact putSel_on (e := (24, 65, .string lang)) 24 rfl rfl (hon 24 (by kernel_rfl)) (by rw [hsz]; rfl)
      have e57 : a.tmps[57]? = some (.bool true) := by rw [ha]; exact putSel_on (e := (16, 57, .bool true)) 16 rfl rfl (hon 16 (by kernel_rfl)) (by rw [hsz]; rfl)
      replace ha := Aside0.mk ha
      refine goes_ Tryz.func12 (by kernel_rfl) rfl #[.agg #[.int .i64 1, .string ⟨#[]⟩, .bool n1, .string A, .int .i64 k1, .int .i64 1, .int .i64 0, .int .i64 3, .bool false, .bool false, .int .i64 0, .int .i64 0], .string SP, .string lang] (wanted_on rfl rfl rfl e57) rfl rfl (by first | (simp only [List.map_toArray, List.map_cons, List.map_nil, Act.eval, Array.getD_eq_getD_getElem?, Option.getD_some, e58, e64, e65]; done) | (simp only [List.map_toArray, List.map_cons, List.map_nil, Act.eval, Array.getD_eq_getD_getElem?, Option.getD_some, e58, e64, e65]; rfl)) ?_
      refine (cI3 w' hI.bel).mono ?_
      rintro e w1 ⟨rfl, b1⟩; have hI1 := hI.step b1
      exact ⟨_, rfl, hK.out _ _ ⟨(by rw [ha.out]; exact putSel_upk 25 hb_ rfl rfl rfl), hI1⟩⟩
    refine steps_cons ?_ ?_
    · rintro b a w' ⟨ha, hI⟩ hb_ hon hoff
      refine ⟨_, rfl, fun K hK => ?_⟩
      have e57 : a.tmps[57]? = some (.bool true) := by rw [ha]; exact putSel_on (e := (16, 57, .bool true)) 16 rfl rfl (hon 16 (by kernel_rfl)) (by rw [hsz]; rfl)
      have e66 : a.tmps[66]? = some (.bool true) := by rw [ha]; exact putSel_on (e := (25, 66, .bool true)) 25 rfl rfl (hon 25 (by kernel_rfl)) (by rw [hsz]; rfl)
      replace ha := Aside0.mk ha
      refine value_ (w1 := w') (v := .bool true) (by rfl) rfl ?_ ?_
      · go_simp; try rfl
        all_goals (try (simp only [IntKind.wrap_i64]; omega))
      exact hK.out _ _ ⟨(by rw [ha.out]; exact putSel_upk 26 hb_ rfl rfl rfl), hI⟩
    refine steps_cons ?_ ?_
    · rintro b a w' ⟨ha, hI⟩ hb_ hon hoff
      refine ⟨_, rfl, fun K hK => ?_⟩
      have e67 : a.tmps[67]? = some (.bool true) := by rw [ha]; exact putSel_on (e := (26, 67, .bool true)) 26 rfl rfl (hon 26 (by kernel_rfl)) (by rw [hsz]; rfl)
      replace ha := Aside0.mk ha
      refine value_ (w1 := w') (v := .bool true) (by rfl) rfl ?_ ?_
      · go_simp; try rfl
        all_goals (try (simp only [IntKind.wrap_i64]; omega))
      exact hK.out _ _ ⟨(by rw [ha.out]; exact putSel_upk 27 hb_ rfl rfl rfl), hI⟩
    refine steps_cons ?_ ?_
    · rintro b a w' ⟨ha, hI⟩ hb_ hon hoff
      refine ⟨_, rfl, fun K hK => ?_⟩
      have e3 : a.tmps[3]? = some (.pointer (some ⟨w0.heap.size, 0, none⟩)) := by rw [ha]; exact (putSel_off rfl).trans s3
      have e68 : a.tmps[68]? = some (.bool true) := by rw [ha]; exact putSel_on (e := (27, 68, .bool true)) 27 rfl rfl (hon 27 (by kernel_rfl)) (by rw [hsz]; rfl)
      replace ha := Aside0.mk ha
      have p0 := Own.c hI 3 0 rfl rfl
      have p1 := Own.c hI 3 1 rfl rfl
      have p2 := Own.c hI 3 2 rfl rfl
      refine value_ (w1 := w') (v := .agg #[.bool n1, .string A, .int .i64 k1]) (wanted_on rfl rfl rfl e68) rfl ?_ ?_
      · go_simp; try rfl
        all_goals (try (simp only [IntKind.wrap_i64]; omega))
      exact hK.out _ _ ⟨(by rw [ha.out]; exact putSel_upk 28 hb_ rfl rfl rfl), hI⟩
    refine steps_cons ?_ ?_
    · rintro b a w' ⟨ha, hI⟩ hb_ hon hoff
      refine ⟨_, rfl, fun K hK => ?_⟩
      have e69 : a.tmps[69]? = some (.agg #[.bool n1, .string A, .int .i64 k1]) := by rw [ha]; exact putSel_on (e := (28, 69, .agg #[.bool n1, .string A, .int .i64 k1])) 28 rfl rfl (hon 28 (by kernel_rfl)) (by rw [hsz]; rfl)
      have e68 : a.tmps[68]? = some (.bool true) := by rw [ha]; exact putSel_on (e := (27, 68, .bool true)) 27 rfl rfl (hon 27 (by kernel_rfl)) (by rw [hsz]; rfl)
      replace ha := Aside0.mk ha
      refine goes_ Tryz.func10 (by kernel_rfl) rfl #[.agg #[.bool n1, .string A, .int .i64 k1]] (wanted_on rfl rfl rfl e68) rfl rfl (by first | (simp only [List.map_toArray, List.map_cons, List.map_nil, Act.eval, Array.getD_eq_getD_getElem?, Option.getD_some, e69]; done) | (simp only [List.map_toArray, List.map_cons, List.map_nil, Act.eval, Array.getD_eq_getD_getElem?, Option.getD_some, e69]; rfl)) ?_
      refine (cSa w').mono ?_
      rintro e w1 ⟨rfl, b1⟩; have hI1 := hI.step b1
      exact ⟨_, rfl, hK.out _ _ ⟨(by rw [ha.out]; exact putSel_upk 29 hb_ rfl rfl rfl), hI1⟩⟩
    refine steps_cons ?_ ?_
    · rintro b a w' ⟨ha, hI⟩ hb_ hon hoff
      refine ⟨_, rfl, fun K hK => ?_⟩
      have e70 : a.tmps[70]? = some (.string SA) := by rw [ha]; exact putSel_on (e := (29, 70, .string SA)) 29 rfl rfl (hon 29 (by kernel_rfl)) (by rw [hsz]; rfl)
      have e68 : a.tmps[68]? = some (.bool true) := by rw [ha]; exact putSel_on (e := (27, 68, .bool true)) 27 rfl rfl (hon 27 (by kernel_rfl)) (by rw [hsz]; rfl)
      replace ha := Aside0.mk ha
      refine goes_ Tryz.func14 (by kernel_rfl) rfl #[.string SA] (wanted_on rfl rfl rfl e68) rfl rfl (by first | (simp only [List.map_toArray, List.map_cons, List.map_nil, Act.eval, Array.getD_eq_getD_getElem?, Option.getD_some, e70]; done) | (simp only [List.map_toArray, List.map_cons, List.map_nil, Act.eval, Array.getD_eq_getD_getElem?, Option.getD_some, e70]; rfl)) ?_
      refine (cStr w').mono ?_
      rintro e w1 ⟨rfl, b1⟩; have hI1 := hI.step b1
      exact ⟨_, rfl, hK.out _ _ ⟨(by rw [ha.out]; exact putSel_upk 30 hb_ rfl rfl rfl), hI1⟩⟩
    refine steps_cons ?_ ?_
    · rintro b a w' ⟨ha, hI⟩ hb_ hon hoff
      refine ⟨_, rfl, fun K hK => ?_⟩
      have e3 : a.tmps[3]? = some (.pointer (some ⟨w0.heap.size, 0, none⟩)) := by rw [ha]; exact (putSel_off rfl).trans s3
      have e68 : a.tmps[68]? = some (.bool true) := by rw [ha]; exact putSel_on (e := (27, 68, .bool true)) 27 rfl rfl (hon 27 (by kernel_rfl)) (by rw [hsz]; rfl)
      replace ha := Aside0.mk ha
      have p0 := Own.c hI 3 0 rfl rfl
      have p1 := Own.c hI 3 1 rfl rfl
      have p2 := Own.c hI 3 2 rfl rfl
      refine value_ (w1 := w') (v := .agg #[.bool n1, .string A, .int .i64 k1]) (wanted_on rfl rfl rfl e68) rfl ?_ ?_
      · go_simp; try rfl
        all_goals (try (simp only [IntKind.wrap_i64]; omega))
      exact hK.out _ _ ⟨(by rw [ha.out]; exact putSel_upk 31 hb_ rfl rfl rfl), hI⟩
    refine steps_cons ?_ ?_
    · rintro b a w' ⟨ha, hI⟩ hb_ hon hoff
      refine ⟨_, rfl, fun K hK => ?_⟩
      have e72 : a.tmps[72]? = some (.agg #[.bool n1, .string A, .int .i64 k1]) := by rw [ha]; exact putSel_on (e := (31, 72, .agg #[.bool n1, .string A, .int .i64 k1])) 31 rfl rfl (hon 31 (by kernel_rfl)) (by rw [hsz]; rfl)
      have e68 : a.tmps[68]? = some (.bool true) := by rw [ha]; exact putSel_on (e := (27, 68, .bool true)) 27 rfl rfl (hon 27 (by kernel_rfl)) (by rw [hsz]; rfl)
      replace ha := Aside0.mk ha
      refine goes_ Tryz.func10 (by kernel_rfl) rfl #[.agg #[.bool n1, .string A, .int .i64 k1]] (wanted_on rfl rfl rfl e68) rfl rfl (by first | (simp only [List.map_toArray, List.map_cons, List.map_nil, Act.eval, Array.getD_eq_getD_getElem?, Option.getD_some, e72]; done) | (simp only [List.map_toArray, List.map_cons, List.map_nil, Act.eval, Array.getD_eq_getD_getElem?, Option.getD_some, e72]; rfl)) ?_
      refine (cSa w').mono ?_
      rintro e w1 ⟨rfl, b1⟩; have hI1 := hI.step b1
      exact ⟨_, rfl, hK.out _ _ ⟨(by rw [ha.out]; exact putSel_upk 32 hb_ rfl rfl rfl), hI1⟩⟩
    refine steps_cons ?_ ?_
    · rintro b a w' ⟨ha, hI⟩ hb_ hon hoff
      refine ⟨_, rfl, fun K hK => ?_⟩
      have e2 : a.tmps[2]? = some (.string lang) := by rw [ha]; exact (putSel_off rfl).trans s2
      have e68 : a.tmps[68]? = some (.bool true) := by rw [ha]; exact putSel_on (e := (27, 68, .bool true)) 27 rfl rfl (hon 27 (by kernel_rfl)) (by rw [hsz]; rfl)
      replace ha := Aside0.mk ha
      refine value_ (w1 := w') (v := .string lang) (wanted_on rfl rfl rfl e68) rfl ?_ ?_
      · go_simp; try rfl
        all_goals (try (simp only [IntKind.wrap_i64]; omega))
      exact hK.out _ _ ⟨(by rw [ha.out]; exact putSel_upk 33 hb_ rfl rfl rfl), hI⟩
    refine steps_cons ?_ ?_
    · rintro b a w' ⟨ha, hI⟩ hb_ hon hoff
      refine ⟨_, rfl, fun K hK => ?_⟩
      have e71 : a.tmps[71]? = some (.agg #[.int .i64 0, .string SA, .bool false, .string ⟨#[]⟩, .int .i64 0, .int .i64 0, .int .i64 0, .int .i64 0, .bool false, .bool false, .int .i64 0, .int .i64 0]) := by rw [ha]; exact putSel_on (e := (30, 71, .agg #[.int .i64 0, .string SA, .bool false, .string ⟨#[]⟩, .int .i64 0, .int .i64 0, .int .i64 0, .int .i64 0, .bool false, .bool false, .int .i64 0, .int .i64 0])) 30 rfl rfl (hon 30 (by kernel_rfl)) (by rw [hsz]; rfl)
      have e73 : a.tmps[73]? = some (.string SA) := by rw [ha]; exact putSel_on (e := (32, 73, .string SA)) 32 rfl rfl (hon 32 (by kernel_rfl)) (by rw [hsz]; rfl)
      have e74 : a.tmps[74]? = some (.string lang) := by rw [ha]; exact putSel_on (e := (33, 74, .string lang)) 33 rfl rfl (hon 33 (by kernel_rfl)) (by rw [hsz]; rfl)
      have e68 : a.tmps[68]? = some (.bool true) := by rw [ha]; exact putSel_on (e := (27, 68, .bool true)) 27 rfl rfl (hon 27 (by kernel_rfl)) (by rw [hsz]; rfl)
      replace ha := Aside0.mk ha
      refine goes_ Tryz.func12 (by kernel_rfl) rfl #[.agg #[.int .i64 0, .string SA, .bool false, .string ⟨#[]⟩, .int .i64 0, .int .i64 0, .int .i64 0, .int .i64 0, .bool false, .bool false, .int .i64 0, .int .i64 0], .string SA, .string lang] (wanted_on rfl rfl rfl e68) rfl rfl (by first | (simp only [List.map_toArray, List.map_cons, List.map_nil, Act.eval, Array.getD_eq_getD_getElem?, Option.getD_some, e71, e73, e74]; done) | (simp only [List.map_toArray, List.map_cons, List.map_nil, Act.eval, Array.getD_eq_getD_getElem?, Option.getD_some, e71, e73, e74]; rfl)) ?_
      refine (cI4 w' hI.bel).mono ?_
      rintro e w1 ⟨rfl, b1⟩; have hI1 := hI.step b1
      exact ⟨_, rfl, hK.out _ _ ⟨(by rw [ha.out]; exact putSel_upk 34 hb_ rfl rfl rfl), hI1⟩⟩
    refine steps_cons ?_ ?_
    · rintro b a w' ⟨ha, hI⟩ hb_ hon hoff
      refine ⟨_, rfl, fun K hK => ?_⟩
      have e68 : a.tmps[68]? = some (.bool true) := by rw [ha]; exact putSel_on (e := (27, 68, .bool true)) 27 rfl rfl (hon 27 (by kernel_rfl)) (by rw [hsz]; rfl)
      have e75 : a.tmps[75]? = some (.bool true) := by rw [ha]; exact putSel_on (e := (34, 75, .bool true)) 34 rfl rfl (hon 34 (by kernel_rfl)) (by rw [hsz]; rfl)
      replace ha := Aside0.mk ha
      refine value_ (w1 := w') (v := .bool true) (by rfl) rfl ?_ ?_
      · go_simp; try rfl
        all_goals (try (simp only [IntKind.wrap_i64]; omega))
      exact hK.out _ _ ⟨(by rw [ha.out]; exact putSel_upk 35 hb_ rfl rfl rfl), hI⟩
    refine steps_cons ?_ ?_
    · rintro b a w' ⟨ha, hI⟩ hb_ hon hoff
      refine ⟨_, rfl, fun K hK => ?_⟩
      have e76 : a.tmps[76]? = some (.bool true) := by rw [ha]; exact putSel_on (e := (35, 76, .bool true)) 35 rfl rfl (hon 35 (by kernel_rfl)) (by rw [hsz]; rfl)
      replace ha := Aside0.mk ha
      refine value_ (w1 := w') (v := .bool true) (by rfl) rfl ?_ ?_
      · go_simp; try rfl
        all_goals (try (simp only [IntKind.wrap_i64]; omega))
      exact hK.out _ _ ⟨(by rw [ha.out]; exact putSel_upk 36 hb_ rfl rfl rfl), hI⟩
    refine steps_cons ?_ ?_
    · rintro b a w' ⟨ha, hI⟩ hb_ hon hoff
      refine ⟨_, rfl, fun K hK => ?_⟩
      have e77 : a.tmps[77]? = some (.bool true) := by rw [ha]; exact putSel_on (e := (36, 77, .bool true)) 36 rfl rfl (hon 36 (by kernel_rfl)) (by rw [hsz]; rfl)
      replace ha := Aside0.mk ha
      refine goes_ Tryz.func15 (by kernel_rfl) rfl #[Go.Value.int Go.IntKind.i64 1] (wanted_on rfl rfl rfl e77) rfl rfl (by first | (simp only [List.map_toArray, List.map_cons, List.map_nil, Act.eval, Array.getD_eq_getD_getElem?, Option.getD_some, ]; done) | (simp only [List.map_toArray, List.map_cons, List.map_nil, Act.eval, Array.getD_eq_getD_getElem?, Option.getD_some, ]; rfl)) ?_
      refine (cAt w').mono ?_
      rintro e w1 ⟨rfl, b1⟩; have hI1 := hI.step b1
      exact ⟨_, rfl, hK.out _ _ ⟨(by rw [ha.out]; exact putSel_upk 37 hb_ rfl rfl rfl), hI1⟩⟩
    refine steps_cons ?_ ?_
    · rintro b a w' ⟨ha, hI⟩ hb_ hon hoff
      refine ⟨_, rfl, fun K hK => ?_⟩
      have e2 : a.tmps[2]? = some (.string lang) := by rw [ha]; exact (putSel_off rfl).trans s2
      have e77 : a.tmps[77]? = some (.bool true) := by rw [ha]; exact putSel_on (e := (36, 77, .bool true)) 36 rfl rfl (hon 36 (by kernel_rfl)) (by rw [hsz]; rfl)
      replace ha := Aside0.mk ha
      refine value_ (w1 := w') (v := .string lang) (wanted_on rfl rfl rfl e77) rfl ?_ ?_
      · go_simp; try rfl
        all_goals (try (simp only [IntKind.wrap_i64]; omega))
      exact hK.out _ _ ⟨(by rw [ha.out]; exact putSel_upk 38 hb_ rfl rfl rfl), hI⟩
    refine steps_cons ?_ ?_
    · rintro b a w' ⟨ha, hI⟩ hb_ hon hoff
      refine ⟨_, rfl, fun K hK => ?_⟩
      have e78 : a.tmps[78]? = some (.agg #[.int .i64 2, .string ⟨#[]⟩, .bool false, .string ⟨#[]⟩, .int .i64 0, .int .i64 0, .int .i64 0, .int .i64 0, .bool false, .bool false, .int .i64 1, .int .i64 0]) := by rw [ha]; exact putSel_on (e := (37, 78, .agg #[.int .i64 2, .string ⟨#[]⟩, .bool false, .string ⟨#[]⟩, .int .i64 0, .int .i64 0, .int .i64 0, .int .i64 0, .bool false, .bool false, .int .i64 1, .int .i64 0])) 37 rfl rfl (hon 37 (by kernel_rfl)) (by rw [hsz]; rfl)
      have e79 : a.tmps[79]? = some (.string lang) := by rw [ha]; exact putSel_on (e := (38, 79, .string lang)) 38 rfl rfl (hon 38 (by kernel_rfl)) (by rw [hsz]; rfl)
      have e77 : a.tmps[77]? = some (.bool true) := by rw [ha]; exact putSel_on (e := (36, 77, .bool true)) 36 rfl rfl (hon 36 (by kernel_rfl)) (by rw [hsz]; rfl)
      replace ha := Aside0.mk ha
      refine goes_ Tryz.func12 (by kernel_rfl) rfl #[.agg #[.int .i64 2, .string ⟨#[]⟩, .bool false, .string ⟨#[]⟩, .int .i64 0, .int .i64 0, .int .i64 0, .int .i64 0, .bool false, .bool false, .int .i64 1, .int .i64 0], Go.Value.string { data := #[49] }, .string lang] (wanted_on rfl rfl rfl e77) rfl rfl (by first | (simp only [List.map_toArray, List.map_cons, List.map_nil, Act.eval, Array.getD_eq_getD_getElem?, Option.getD_some, e78, e79]; done) | (simp only [List.map_toArray, List.map_cons, List.map_nil, Act.eval, Array.getD_eq_getD_getElem?, Option.getD_some, e78, e79]; rfl)) ?_
      refine (cI5 w' hI.bel).mono ?_
      rintro e w1 ⟨rfl, b1⟩; have hI1 := hI.step b1
      exact ⟨_, rfl, hK.out _ _ ⟨(by rw [ha.out]; exact putSel_upk 39 hb_ rfl rfl rfl), hI1⟩⟩
    refine steps_cons ?_ ?_
    · rintro b a w' ⟨ha, hI⟩ hb_ hon hoff
      refine ⟨_, rfl, fun K hK => ?_⟩
      have e80 : a.tmps[80]? = some (.bool false) := by rw [ha]; exact putSel_on (e := (39, 80, .bool false)) 39 rfl rfl (hon 39 (by kernel_rfl)) (by rw [hsz]; rfl)
      have e77 : a.tmps[77]? = some (.bool true) := by rw [ha]; exact putSel_on (e := (36, 77, .bool true)) 36 rfl rfl (hon 36 (by kernel_rfl)) (by rw [hsz]; rfl)
      replace ha := Aside0.mk ha
      refine value_ (w1 := w') (v := .bool true) (wanted_on rfl rfl rfl e77) rfl ?_ ?_
      · go_simp; try rfl
        all_goals (try (simp only [IntKind.wrap_i64]; omega))
      exact hK.out _ _ ⟨(by rw [ha.out]; exact putSel_upk 40 hb_ rfl rfl rfl), hI⟩
    refine steps_cons ?_ ?_
    · rintro b a w' ⟨ha, hI⟩ hb_ hon hoff
      refine ⟨_, rfl, fun K hK => ?_⟩
      have e77 : a.tmps[77]? = some (.bool true) := by rw [ha]; exact putSel_on (e := (36, 77, .bool true)) 36 rfl rfl (hon 36 (by kernel_rfl)) (by rw [hsz]; rfl)
      have e81 : a.tmps[81]? = some (.bool true) := by rw [ha]; exact putSel_on (e := (40, 81, .bool true)) 40 rfl rfl (hon 40 (by kernel_rfl)) (by rw [hsz]; rfl)
      replace ha := Aside0.mk ha
      refine value_ (w1 := w') (v := .bool true) (by rfl) rfl ?_ ?_
      · go_simp; try rfl
        all_goals (try (simp only [IntKind.wrap_i64]; omega))
      exact hK.out _ _ ⟨(by rw [ha.out]; exact putSel_upk 41 hb_ rfl rfl rfl), hI⟩
    refine steps_cons ?_ ?_
    · rintro b a w' ⟨ha, hI⟩ hb_ hon hoff
      refine ⟨_, rfl, fun K hK => ?_⟩
      have e82 : a.tmps[82]? = some (.bool true) := by rw [ha]; exact putSel_on (e := (41, 82, .bool true)) 41 rfl rfl (hon 41 (by kernel_rfl)) (by rw [hsz]; rfl)
      replace ha := Aside0.mk ha
      refine value_ (w1 := w') (v := .bool true) (by rfl) rfl ?_ ?_
      · go_simp; try rfl
        all_goals (try (simp only [IntKind.wrap_i64]; omega))
      exact hK.out _ _ ⟨(by rw [ha.out]; exact putSel_upk 42 hb_ rfl rfl rfl), hI⟩
    exact steps_nil
  rintro b a w1 hall ⟨ha, hI1⟩
  exact hend a w1 hI1 (by rw [ha]; simp only [putSel, if_true, hall 0 (by kernel_rfl), hall 1 (by kernel_rfl), hall 2 (by kernel_rfl), hall 3 (by kernel_rfl), hall 4 (by kernel_rfl), hall 5 (by kernel_rfl), hall 6 (by kernel_rfl), hall 7 (by kernel_rfl), hall 8 (by kernel_rfl), hall 9 (by kernel_rfl), hall 10 (by kernel_rfl), hall 11 (by kernel_rfl), hall 12 (by kernel_rfl), hall 13 (by kernel_rfl), hall 14 (by kernel_rfl), hall 15 (by kernel_rfl), hall 16 (by kernel_rfl), hall 17 (by kernel_rfl), hall 18 (by kernel_rfl), hall 19 (by kernel_rfl), hall 20 (by kernel_rfl), hall 21 (by kernel_rfl), hall 22 (by kernel_rfl), hall 23 (by kernel_rfl), hall 24 (by kernel_rfl), hall 25 (by kernel_rfl), hall 26 (by kernel_rfl), hall 27 (by kernel_rfl), hall 28 (by kernel_rfl), hall 29 (by kernel_rfl), hall 30 (by kernel_rfl), hall 31 (by kernel_rfl), hall 32 (by kernel_rfl), hall 33 (by kernel_rfl), hall 34 (by kernel_rfl), hall 35 (by kernel_rfl), hall 36 (by kernel_rfl), hall 37 (by kernel_rfl), hall 38 (by kernel_rfl), hall 39 (by kernel_rfl), hall 40 (by kernel_rfl), hall 41 (by kernel_rfl), hall 42 (by kernel_rfl)]) (by rw [ha]; exact (putSel_size b _ a0).2) (by rw [ha]; exact putSel_on (e := (42, 6, .bool true)) 42 rfl rfl (hall 42 (by kernel_rfl)) (by rw [hsz]; rfl))
end Go.Proofs.YtgjboghnnhcgiaaGreatDoor
namespace Go.Proofs.YtgjboghnnhcgiaaGreatDoor
open Go.RowKit Go.Proofs.YtgjboghnnhcgiaaGreatDoorW.PrintWords Go.Proofs.YtgjboghnnhcgiaaGreatDoorW.PrintLast
set_option linter.unusedVariables false
set_option linter.unusedSimpArgs false
set_option maxRecDepth 100000 in
set_option maxHeartbeats 4000000 in
theorem str14_any (s : ByteArray) (w : World) : Calls Tryz.prog 14 #[.string s] w fun e w' => e = .returned (.agg #[.int .i64 0, .string s, .bool false, .string ⟨#[]⟩, .int .i64 0, .int .i64 0, .int .i64 0, .int .i64 0, .bool false, .bool false, .int .i64 0, .int .i64 0]) ∧ Below w.heap.size w w' := by
  have h0 := Own.one w (.cells #[.int .i64 0, .string ⟨#[]⟩, .bool false, .string ⟨#[]⟩, .int .i64 0, .int .i64 0, .int .i64 0, .int .i64 0, .bool false, .bool false, .int .i64 0, .int .i64 0] 31)
  go_enter Tryz.func14, Tryz.ntmps14
  go_upto_region 1 with (fail)
  generalize w.alloc _ = W0 at *
  have r0 := h0.c 0 0 rfl rfl
  have f0 := h0.fz 0 0 rfl
  have r1 := h0.c 0 1 rfl rfl
  have f1 := h0.fz 0 1 rfl
  have r2 := h0.c 0 2 rfl rfl
  have f2 := h0.fz 0 2 rfl
  have r3 := h0.c 0 3 rfl rfl
  have f3 := h0.fz 0 3 rfl
  have r4 := h0.c 0 4 rfl rfl
  have f4 := h0.fz 0 4 rfl
  have r5 := h0.c 0 5 rfl rfl
  have f5 := h0.fz 0 5 rfl
  have r6 := h0.c 0 6 rfl rfl
  have f6 := h0.fz 0 6 rfl
  have r7 := h0.c 0 7 rfl rfl
  have f7 := h0.fz 0 7 rfl
  have r8 := h0.c 0 8 rfl rfl
  have f8 := h0.fz 0 8 rfl
  have r9 := h0.c 0 9 rfl rfl
  have f9 := h0.fz 0 9 rfl
  have r10 := h0.c 0 10 rfl rfl
  have f10 := h0.fz 0 10 rfl
  have r11 := h0.c 0 11 rfl rfl
  have f11 := h0.fz 0 11 rfl
  go_upto_region 2 with (fail)
  have h1 : Own w _ ((((((((((((W0.setCell ⟨w.heap.size, 0, none⟩ (.int .i64 0)).setCell ⟨w.heap.size, 1, none⟩ (.string s)).setCell ⟨w.heap.size, 2, none⟩ (.bool false)).setCell ⟨w.heap.size, 3, none⟩ (.string ⟨#[]⟩)).setCell ⟨w.heap.size, 4, none⟩ (.int .i64 0)).setCell ⟨w.heap.size, 5, none⟩ (.int .i64 0)).setCell ⟨w.heap.size, 6, none⟩ (.int .i64 0)).setCell ⟨w.heap.size, 7, none⟩ (.int .i64 0)).setCell ⟨w.heap.size, 8, none⟩ (.bool false)).setCell ⟨w.heap.size, 9, none⟩ (.bool false)).setCell ⟨w.heap.size, 10, none⟩ (.int .i64 0)).setCell ⟨w.heap.size, 11, none⟩ (.int .i64 0)) := Own.setAll h0 0 [.int .i64 0, .string s, .bool false, .string ⟨#[]⟩, .int .i64 0, .int .i64 0, .int .i64 0, .int .i64 0, .bool false, .bool false, .int .i64 0, .int .i64 0] rfl rfl
  clear h0 r0 f0 r1 f1 r2 f2 r3 f3 r4 f4 r5 f5 r6 f6 r7 f7 r8 f8 r9 f9 r10 f10 r11 f11
  generalize ((((((((((((W0.setCell ⟨w.heap.size, 0, none⟩ (.int .i64 0)).setCell ⟨w.heap.size, 1, none⟩ (.string s)).setCell ⟨w.heap.size, 2, none⟩ (.bool false)).setCell ⟨w.heap.size, 3, none⟩ (.string ⟨#[]⟩)).setCell ⟨w.heap.size, 4, none⟩ (.int .i64 0)).setCell ⟨w.heap.size, 5, none⟩ (.int .i64 0)).setCell ⟨w.heap.size, 6, none⟩ (.int .i64 0)).setCell ⟨w.heap.size, 7, none⟩ (.int .i64 0)).setCell ⟨w.heap.size, 8, none⟩ (.bool false)).setCell ⟨w.heap.size, 9, none⟩ (.bool false)).setCell ⟨w.heap.size, 10, none⟩ (.int .i64 0)).setCell ⟨w.heap.size, 11, none⟩ (.int .i64 0)) = W1 at *
  have q0 := h1.c 0 0 rfl rfl
  have q1 := h1.c 0 1 rfl rfl
  have q2 := h1.c 0 2 rfl rfl
  have q3 := h1.c 0 3 rfl rfl
  have q4 := h1.c 0 4 rfl rfl
  have q5 := h1.c 0 5 rfl rfl
  have q6 := h1.c 0 6 rfl rfl
  have q7 := h1.c 0 7 rfl rfl
  have q8 := h1.c 0 8 rfl rfl
  have q9 := h1.c 0 9 rfl rfl
  have q10 := h1.c 0 10 rfl rfl
  have q11 := h1.c 0 11 rfl rfl
  refine bodyPost_ret (v := .agg #[.int .i64 0, .string s, .bool false, .string ⟨#[]⟩, .int .i64 0, .int .i64 0, .int .i64 0, .int .i64 0, .bool false, .bool false, .int .i64 0, .int .i64 0]) (by simp [results, Tryz.results14, go_sem, q0, q1, q2, q3, q4, q5, q6, q7, q8, q9, q10, q11]) rfl ?_
  exact ⟨rfl, h1.bel⟩
set_option maxRecDepth 100000 in
set_option maxHeartbeats 4000000 in
theorem at14_any (x : Int) (w : World) : Calls Tryz.prog 15 #[.int .i64 x] w fun e w' => e = .returned (.agg #[.int .i64 2, .string ⟨#[]⟩, .bool false, .string ⟨#[]⟩, .int .i64 0, .int .i64 0, .int .i64 0, .int .i64 0, .bool false, .bool false, .int .i64 x, .int .i64 0]) ∧ Below w.heap.size w w' := by
  have h0 := Own.one w (.cells #[.int .i64 0, .string ⟨#[]⟩, .bool false, .string ⟨#[]⟩, .int .i64 0, .int .i64 0, .int .i64 0, .int .i64 0, .bool false, .bool false, .int .i64 0, .int .i64 0] 31)
  go_enter Tryz.func15, Tryz.ntmps15
  go_upto_region 1 with (fail)
  generalize w.alloc _ = W0 at *
  have r0 := h0.c 0 0 rfl rfl
  have f0 := h0.fz 0 0 rfl
  have r1 := h0.c 0 1 rfl rfl
  have f1 := h0.fz 0 1 rfl
  have r2 := h0.c 0 2 rfl rfl
  have f2 := h0.fz 0 2 rfl
  have r3 := h0.c 0 3 rfl rfl
  have f3 := h0.fz 0 3 rfl
  have r4 := h0.c 0 4 rfl rfl
  have f4 := h0.fz 0 4 rfl
  have r5 := h0.c 0 5 rfl rfl
  have f5 := h0.fz 0 5 rfl
  have r6 := h0.c 0 6 rfl rfl
  have f6 := h0.fz 0 6 rfl
  have r7 := h0.c 0 7 rfl rfl
  have f7 := h0.fz 0 7 rfl
  have r8 := h0.c 0 8 rfl rfl
  have f8 := h0.fz 0 8 rfl
  have r9 := h0.c 0 9 rfl rfl
  have f9 := h0.fz 0 9 rfl
  have r10 := h0.c 0 10 rfl rfl
  have f10 := h0.fz 0 10 rfl
  have r11 := h0.c 0 11 rfl rfl
  have f11 := h0.fz 0 11 rfl
  go_upto_region 2 with (fail)
  have h1 : Own w _ ((((((((((((W0.setCell ⟨w.heap.size, 0, none⟩ (.int .i64 2)).setCell ⟨w.heap.size, 1, none⟩ (.string ⟨#[]⟩)).setCell ⟨w.heap.size, 2, none⟩ (.bool false)).setCell ⟨w.heap.size, 3, none⟩ (.string ⟨#[]⟩)).setCell ⟨w.heap.size, 4, none⟩ (.int .i64 0)).setCell ⟨w.heap.size, 5, none⟩ (.int .i64 0)).setCell ⟨w.heap.size, 6, none⟩ (.int .i64 0)).setCell ⟨w.heap.size, 7, none⟩ (.int .i64 0)).setCell ⟨w.heap.size, 8, none⟩ (.bool false)).setCell ⟨w.heap.size, 9, none⟩ (.bool false)).setCell ⟨w.heap.size, 10, none⟩ (.int .i64 x)).setCell ⟨w.heap.size, 11, none⟩ (.int .i64 0)) := Own.setAll h0 0 [.int .i64 2, .string ⟨#[]⟩, .bool false, .string ⟨#[]⟩, .int .i64 0, .int .i64 0, .int .i64 0, .int .i64 0, .bool false, .bool false, .int .i64 x, .int .i64 0] rfl rfl
  clear h0 r0 f0 r1 f1 r2 f2 r3 f3 r4 f4 r5 f5 r6 f6 r7 f7 r8 f8 r9 f9 r10 f10 r11 f11
  generalize ((((((((((((W0.setCell ⟨w.heap.size, 0, none⟩ (.int .i64 2)).setCell ⟨w.heap.size, 1, none⟩ (.string ⟨#[]⟩)).setCell ⟨w.heap.size, 2, none⟩ (.bool false)).setCell ⟨w.heap.size, 3, none⟩ (.string ⟨#[]⟩)).setCell ⟨w.heap.size, 4, none⟩ (.int .i64 0)).setCell ⟨w.heap.size, 5, none⟩ (.int .i64 0)).setCell ⟨w.heap.size, 6, none⟩ (.int .i64 0)).setCell ⟨w.heap.size, 7, none⟩ (.int .i64 0)).setCell ⟨w.heap.size, 8, none⟩ (.bool false)).setCell ⟨w.heap.size, 9, none⟩ (.bool false)).setCell ⟨w.heap.size, 10, none⟩ (.int .i64 x)).setCell ⟨w.heap.size, 11, none⟩ (.int .i64 0)) = W1 at *
  have q0 := h1.c 0 0 rfl rfl
  have q1 := h1.c 0 1 rfl rfl
  have q2 := h1.c 0 2 rfl rfl
  have q3 := h1.c 0 3 rfl rfl
  have q4 := h1.c 0 4 rfl rfl
  have q5 := h1.c 0 5 rfl rfl
  have q6 := h1.c 0 6 rfl rfl
  have q7 := h1.c 0 7 rfl rfl
  have q8 := h1.c 0 8 rfl rfl
  have q9 := h1.c 0 9 rfl rfl
  have q10 := h1.c 0 10 rfl rfl
  have q11 := h1.c 0 11 rfl rfl
  refine bodyPost_ret (v := .agg #[.int .i64 2, .string ⟨#[]⟩, .bool false, .string ⟨#[]⟩, .int .i64 0, .int .i64 0, .int .i64 0, .int .i64 0, .bool false, .bool false, .int .i64 x, .int .i64 0]) (by simp [results, Tryz.results15, go_sem, q0, q1, q2, q3, q4, q5, q6, q7, q8, q9, q10, q11]) rfl ?_
  exact ⟨rfl, h1.bel⟩
end Go.Proofs.YtgjboghnnhcgiaaGreatDoor
namespace Go.Proofs.YtgjboghnnhcgiaaGreatDoor
open Go.RowKit Go.Proofs.YtgjboghnnhcgiaaGreatDoorW.PrintWords Go.Proofs.YtgjboghnnhcgiaaGreatDoorW.PrintLast
set_option linter.unusedVariables false
set_option linter.unusedSimpArgs false
def vnC (z : Bool) (n : Bool) (D : ByteArray) (k : Int) : Array Value := valC (if z = true then 1 else 0) ⟨#[]⟩ (if z = true then n else false) (if z = true then D else ⟨#[]⟩) (if z = true then k else 0) (if z = true then 1 else 0) 0 (if z = true then 3 else 0) false false 0 0
def VnI (w0 : World) (z n : Bool) (D : ByteArray) (k : Int) (W : World) : Prop := Own w0 [(w0.heap.size + 1, .cells (vnC z n D k) 31 (0, 0)), (w0.heap.size, .cells #[.bool n, .string D, .int .i64 k] 23 (0, 0))] W
theorem VnI.drew {w0 : World} {z n : Bool} {D : ByteArray} {k : Int} {W : World} (h : VnI w0 z n D k W) : VnI w0 z n D k W.drew := Own.drew h
theorem VnI.step {w0 : World} {z n : Bool} {D : ByteArray} {k : Int} {W W1 : World} (h : VnI w0 z n D k W) (b : Below W.heap.size W W1) : VnI w0 z n D k W1 := Own.step h b
theorem VnI.res {w0 : World} {z n : Bool} {D : ByteArray} {k : Int} {W : World} (h : VnI w0 z n D k W) (j : Nat) (hj : j < 12) : ∃ v, W.cell? ⟨w0.heap.size + 1, j, none⟩ = some v := ⟨_, (Own.c h 0 j rfl (Array.getElem?_eq_getElem (by show j < 12; exact hj)))⟩
theorem VnI.put {w0 : World} {z n : Bool} {D : ByteArray} {k : Int} {W : World} (h : VnI w0 z n D k W) : VnI w0 true n D k ((((((((((((W.setCell ⟨w0.heap.size + 1, 0, none⟩ (.int .i64 1)).setCell ⟨w0.heap.size + 1, 1, none⟩ (.string ⟨#[]⟩)).setCell ⟨w0.heap.size + 1, 2, none⟩ (.bool n)).setCell ⟨w0.heap.size + 1, 3, none⟩ (.string D)).setCell ⟨w0.heap.size + 1, 4, none⟩ (.int .i64 k)).setCell ⟨w0.heap.size + 1, 5, none⟩ (.int .i64 1)).setCell ⟨w0.heap.size + 1, 6, none⟩ (.int .i64 0)).setCell ⟨w0.heap.size + 1, 7, none⟩ (.int .i64 3)).setCell ⟨w0.heap.size + 1, 8, none⟩ (.bool false)).setCell ⟨w0.heap.size + 1, 9, none⟩ (.bool false)).setCell ⟨w0.heap.size + 1, 10, none⟩ (.int .i64 0)).setCell ⟨w0.heap.size + 1, 11, none⟩ (.int .i64 0)) := by
  exact Own.setAll h 0 [.int .i64 1, .string ⟨#[]⟩, .bool n, .string D, .int .i64 k, .int .i64 1, .int .i64 0, .int .i64 3, .bool false, .bool false, .int .i64 0, .int .i64 0] rfl rfl
def num_one.T : Bool × List (List Nat × List Nat) := (true, [([], []), ([], []), ([0, 1], [0, 1]), ([2, 1, 0, 1, 2], [2])])
def num_one.B : List Nat := [0, 0, 3, 7]
theorem num_one.tab : rtab .any (opsOf Tryz.f8 1) = num_one.T := by kernel_rfl
theorem num_one.bits : waitsOk num_one.T.2 num_one.B = true := by kernel_rfl
set_option maxRecDepth 100000 in
set_option maxHeartbeats 4000000 in
theorem num_one (w0 : World) (n : Bool) (D : ByteArray) (k : Int) (cD : ∀ W, Calls Tryz.prog 24 #[] W fun e w' => e = .returned (.agg #[.int .i64 1, .int .i64 0, .int .i64 3, .bool false, .bool false]) ∧ Below W.heap.size W w') (a0 : Act) (s1 : a0.tmps[1]? = some (.pointer (some ⟨w0.heap.size, 0, none⟩))) (s2 : a0.tmps[2]? = some (.pointer (some ⟨w0.heap.size + 1, 0, none⟩))) (hsz : a0.tmps.size = Tryz.f8.ntmps) (W : World) (hI : VnI w0 ((fun _ => false) 3) n D k W.drew) (Q : Exit → Act → World → Prop) (hend : ∀ (a9 : Act) w', VnI w0 ((fun _ => true) 3) n D k w' → a9 = putSel a0 (fun _ => true) [(0, 3, .agg #[.bool n, .string D, .int .i64 k]), (1, 4, .agg #[.int .i64 1, .int .i64 0, .int .i64 3, .bool false, .bool false]), (2, 5, .agg #[.int .i64 1, .string ⟨#[]⟩, .bool n, .string D, .int .i64 k, .int .i64 1, .int .i64 0, .int .i64 3, .bool false, .bool false, .int .i64 0, .int .i64 0])] → a9.defers = a0.defers → Q .normal a9 w') :
    (Code.region 1 #[{ dst := some 3, op := Op.load 23 (Operand.tmp 1), type := 23, pos := "value.go:35", after := #[], guard := none }, { dst := some 4, op := Op.call { callee := Callee.value (Operand.func 24), args := #[], argTypes := #[] }, type := 28, pos := "value.go:35", after := #[], guard := none }, { dst := some 5, op := Op.build 31 #[(0, Operand.const (Value.int IntKind.i64 1)), (2, Operand.tmp 3), (3, Operand.tmp 4)], type := 31, pos := "value.go:35", after := #[{ on := 0, ground := Ground.data }, { on := 1, ground := Ground.data }], guard := none }, { dst := none, op := Op.store 31 (Operand.tmp 2) (Operand.tmp 5), type := 0, pos := "value.go:35", after := #[{ on := 2, ground := Ground.data }, { on := 1, ground := Ground.chain }, { on := 0, ground := Ground.phase }, { on := 1, ground := Ground.phase }, { on := 2, ground := Ground.phase }], guard := none }] true).wp Tryz.prog Q a0 W := by
  refine start_ (n := 4) (S := fun w' => True) (ds := []) #[false, false, false, false] (by kernel_rfl) rfl rfl trivial (fun hHeld => ?_)
  refine with_tabW num_one.tab num_one.bits (fun HT_ HW_ => ?_)
  refine inv_at [0, 1, 2, 3] (fun a0_ b a w' => a = putSel a0_ b [(0, 3, .agg #[.bool n, .string D, .int .i64 k]), (1, 4, .agg #[.int .i64 1, .int .i64 0, .int .i64 3, .bool false, .bool false]), (2, 5, .agg #[.int .i64 1, .string ⟨#[]⟩, .bool n, .string D, .int .i64 k, .int .i64 1, .int .i64 0, .int .i64 3, .bool false, .bool false, .int .i64 0, .int .i64 0])] ∧ (VnI w0 (b 3) n D k w')) HT_.out HW_.out (by kernel_rfl) (by kernel_rfl) ?_ ?_ ?_
  · exact ⟨(by simp only [putSel, Bool.false_eq_true, if_false]), hI⟩
  · clear hI hend hHeld
    refine steps_cons ?_ ?_
    · rintro b a w' ⟨ha, hI⟩ hb_ hon hoff
      refine ⟨_, rfl, fun K hK => ?_⟩
      have e1 : a.tmps[1]? = some (.pointer (some ⟨w0.heap.size, 0, none⟩)) := by rw [ha]; exact (putSel_off rfl).trans s1
      replace ha := Aside0.mk ha
      have p0 := Own.c hI 1 0 rfl rfl
      have p1 := Own.c hI 1 1 rfl rfl
      have p2 := Own.c hI 1 2 rfl rfl
      obtain ⟨v0, r0⟩ := hI.res 0 (by decide)
      have z0 := Own.fz hI 0 0 rfl
      obtain ⟨v1, r1⟩ := hI.res 1 (by decide)
      have z1 := Own.fz hI 0 1 rfl
      obtain ⟨v2, r2⟩ := hI.res 2 (by decide)
      have z2 := Own.fz hI 0 2 rfl
      obtain ⟨v3, r3⟩ := hI.res 3 (by decide)
      have z3 := Own.fz hI 0 3 rfl
      obtain ⟨v4, r4⟩ := hI.res 4 (by decide)
      have z4 := Own.fz hI 0 4 rfl
      obtain ⟨v5, r5⟩ := hI.res 5 (by decide)
      have z5 := Own.fz hI 0 5 rfl
      obtain ⟨v6, r6⟩ := hI.res 6 (by decide)
      have z6 := Own.fz hI 0 6 rfl
      obtain ⟨v7, r7⟩ := hI.res 7 (by decide)
      have z7 := Own.fz hI 0 7 rfl
      obtain ⟨v8, r8⟩ := hI.res 8 (by decide)
      have z8 := Own.fz hI 0 8 rfl
      obtain ⟨v9, r9⟩ := hI.res 9 (by decide)
      have z9 := Own.fz hI 0 9 rfl
      obtain ⟨v10, r10⟩ := hI.res 10 (by decide)
      have z10 := Own.fz hI 0 10 rfl
      obtain ⟨v11, r11⟩ := hI.res 11 (by decide)
      have z11 := Own.fz hI 0 11 rfl
      skip
      refine value_ (w1 := w') (v := .agg #[.bool n, .string D, .int .i64 k]) (by rfl) rfl ?_ ?_
      · go_simp; try rfl
        all_goals (try (simp only [IntKind.wrap_i64]; omega))
      exact hK.out _ _ ⟨(by rw [ha.out]; exact putSel_upk 0 hb_ rfl rfl rfl), hI⟩
    refine steps_cons ?_ ?_
    · rintro b a w' ⟨ha, hI⟩ hb_ hon hoff
      refine ⟨_, rfl, fun K hK => ?_⟩
      replace ha := Aside0.mk ha
      have p0 := Own.c hI 1 0 rfl rfl
      have p1 := Own.c hI 1 1 rfl rfl
      have p2 := Own.c hI 1 2 rfl rfl
      obtain ⟨v0, r0⟩ := hI.res 0 (by decide)
      have z0 := Own.fz hI 0 0 rfl
      obtain ⟨v1, r1⟩ := hI.res 1 (by decide)
      have z1 := Own.fz hI 0 1 rfl
      obtain ⟨v2, r2⟩ := hI.res 2 (by decide)
      have z2 := Own.fz hI 0 2 rfl
      obtain ⟨v3, r3⟩ := hI.res 3 (by decide)
      have z3 := Own.fz hI 0 3 rfl
      obtain ⟨v4, r4⟩ := hI.res 4 (by decide)
      have z4 := Own.fz hI 0 4 rfl
      obtain ⟨v5, r5⟩ := hI.res 5 (by decide)
      have z5 := Own.fz hI 0 5 rfl
      obtain ⟨v6, r6⟩ := hI.res 6 (by decide)
      have z6 := Own.fz hI 0 6 rfl
      obtain ⟨v7, r7⟩ := hI.res 7 (by decide)
      have z7 := Own.fz hI 0 7 rfl
      obtain ⟨v8, r8⟩ := hI.res 8 (by decide)
      have z8 := Own.fz hI 0 8 rfl
      obtain ⟨v9, r9⟩ := hI.res 9 (by decide)
      have z9 := Own.fz hI 0 9 rfl
      obtain ⟨v10, r10⟩ := hI.res 10 (by decide)
      have z10 := Own.fz hI 0 10 rfl
      obtain ⟨v11, r11⟩ := hI.res 11 (by decide)
      have z11 := Own.fz hI 0 11 rfl
      skip
      refine goes_ Tryz.func24 (by kernel_rfl) rfl #[] (by rfl) rfl rfl (by first | (simp only [List.map_toArray, List.map_cons, List.map_nil, Act.eval, Array.getD_eq_getD_getElem?, Option.getD_some, ]; done) | (simp only [List.map_toArray, List.map_cons, List.map_nil, Act.eval, Array.getD_eq_getD_getElem?, Option.getD_some, ]; rfl)) ?_
      refine (cD w').mono ?_
      rintro e w1 ⟨rfl, b1⟩; have hI1 := hI.step b1
      exact ⟨_, rfl, hK.out _ _ ⟨(by rw [ha.out]; exact putSel_upk 1 hb_ rfl rfl rfl), hI1⟩⟩
    refine steps_cons ?_ ?_
    · rintro b a w' ⟨ha, hI⟩ hb_ hon hoff
      refine ⟨_, rfl, fun K hK => ?_⟩
      have e3 : a.tmps[3]? = some (.agg #[.bool n, .string D, .int .i64 k]) := by rw [ha]; exact putSel_on (e := (0, 3, .agg #[.bool n, .string D, .int .i64 k])) 0 rfl rfl (hon 0 (by kernel_rfl)) (by rw [hsz]; rfl)
      have e4 : a.tmps[4]? = some (.agg #[.int .i64 1, .int .i64 0, .int .i64 3, .bool false, .bool false]) := by rw [ha]; exact putSel_on (e := (1, 4, .agg #[.int .i64 1, .int .i64 0, .int .i64 3, .bool false, .bool false])) 1 rfl rfl (hon 1 (by kernel_rfl)) (by rw [hsz]; rfl)
      replace ha := Aside0.mk ha
      have p0 := Own.c hI 1 0 rfl rfl
      have p1 := Own.c hI 1 1 rfl rfl
      have p2 := Own.c hI 1 2 rfl rfl
      obtain ⟨v0, r0⟩ := hI.res 0 (by decide)
      have z0 := Own.fz hI 0 0 rfl
      obtain ⟨v1, r1⟩ := hI.res 1 (by decide)
      have z1 := Own.fz hI 0 1 rfl
      obtain ⟨v2, r2⟩ := hI.res 2 (by decide)
      have z2 := Own.fz hI 0 2 rfl
      obtain ⟨v3, r3⟩ := hI.res 3 (by decide)
      have z3 := Own.fz hI 0 3 rfl
      obtain ⟨v4, r4⟩ := hI.res 4 (by decide)
      have z4 := Own.fz hI 0 4 rfl
      obtain ⟨v5, r5⟩ := hI.res 5 (by decide)
      have z5 := Own.fz hI 0 5 rfl
      obtain ⟨v6, r6⟩ := hI.res 6 (by decide)
      have z6 := Own.fz hI 0 6 rfl
      obtain ⟨v7, r7⟩ := hI.res 7 (by decide)
      have z7 := Own.fz hI 0 7 rfl
      obtain ⟨v8, r8⟩ := hI.res 8 (by decide)
      have z8 := Own.fz hI 0 8 rfl
      obtain ⟨v9, r9⟩ := hI.res 9 (by decide)
      have z9 := Own.fz hI 0 9 rfl
      obtain ⟨v10, r10⟩ := hI.res 10 (by decide)
      have z10 := Own.fz hI 0 10 rfl
      obtain ⟨v11, r11⟩ := hI.res 11 (by decide)
      have z11 := Own.fz hI 0 11 rfl
      skip
      refine value_ (w1 := w') (v := .agg #[.int .i64 1, .string ⟨#[]⟩, .bool n, .string D, .int .i64 k, .int .i64 1, .int .i64 0, .int .i64 3, .bool false, .bool false, .int .i64 0, .int .i64 0]) (by rfl) rfl ?_ ?_
      · go_simp; try rfl
        all_goals (try (simp only [IntKind.wrap_i64]; omega))
      exact hK.out _ _ ⟨(by rw [ha.out]; exact putSel_upk 2 hb_ rfl rfl rfl), hI⟩
    refine steps_cons ?_ ?_
    · rintro b a w' ⟨ha, hI⟩ hb_ hon hoff
      refine ⟨_, rfl, fun K hK => ?_⟩
      have e2 : a.tmps[2]? = some (.pointer (some ⟨w0.heap.size + 1, 0, none⟩)) := by rw [ha]; exact (putSel_off rfl).trans s2
      have e5 : a.tmps[5]? = some (.agg #[.int .i64 1, .string ⟨#[]⟩, .bool n, .string D, .int .i64 k, .int .i64 1, .int .i64 0, .int .i64 3, .bool false, .bool false, .int .i64 0, .int .i64 0]) := by rw [ha]; exact putSel_on (e := (2, 5, .agg #[.int .i64 1, .string ⟨#[]⟩, .bool n, .string D, .int .i64 k, .int .i64 1, .int .i64 0, .int .i64 3, .bool false, .bool false, .int .i64 0, .int .i64 0])) 2 rfl rfl (hon 2 (by kernel_rfl)) (by rw [hsz]; rfl)
      replace ha := Aside0.mk ha
      have p0 := Own.c hI 1 0 rfl rfl
      have p1 := Own.c hI 1 1 rfl rfl
      have p2 := Own.c hI 1 2 rfl rfl
      obtain ⟨v0, r0⟩ := hI.res 0 (by decide)
      have z0 := Own.fz hI 0 0 rfl
      obtain ⟨v1, r1⟩ := hI.res 1 (by decide)
      have z1 := Own.fz hI 0 1 rfl
      obtain ⟨v2, r2⟩ := hI.res 2 (by decide)
      have z2 := Own.fz hI 0 2 rfl
      obtain ⟨v3, r3⟩ := hI.res 3 (by decide)
      have z3 := Own.fz hI 0 3 rfl
      obtain ⟨v4, r4⟩ := hI.res 4 (by decide)
      have z4 := Own.fz hI 0 4 rfl
      obtain ⟨v5, r5⟩ := hI.res 5 (by decide)
      have z5 := Own.fz hI 0 5 rfl
      obtain ⟨v6, r6⟩ := hI.res 6 (by decide)
      have z6 := Own.fz hI 0 6 rfl
      obtain ⟨v7, r7⟩ := hI.res 7 (by decide)
      have z7 := Own.fz hI 0 7 rfl
      obtain ⟨v8, r8⟩ := hI.res 8 (by decide)
      have z8 := Own.fz hI 0 8 rfl
      obtain ⟨v9, r9⟩ := hI.res 9 (by decide)
      have z9 := Own.fz hI 0 9 rfl
      obtain ⟨v10, r10⟩ := hI.res 10 (by decide)
      have z10 := Own.fz hI 0 10 rfl
      obtain ⟨v11, r11⟩ := hI.res 11 (by decide)
      have z11 := Own.fz hI 0 11 rfl
      skip
      refine skip_ (w1 := ((((((((((((w'.setCell ⟨w0.heap.size + 1, 0, none⟩ (.int .i64 1)).setCell ⟨w0.heap.size + 1, 1, none⟩ (.string ⟨#[]⟩)).setCell ⟨w0.heap.size + 1, 2, none⟩ (.bool n)).setCell ⟨w0.heap.size + 1, 3, none⟩ (.string D)).setCell ⟨w0.heap.size + 1, 4, none⟩ (.int .i64 k)).setCell ⟨w0.heap.size + 1, 5, none⟩ (.int .i64 1)).setCell ⟨w0.heap.size + 1, 6, none⟩ (.int .i64 0)).setCell ⟨w0.heap.size + 1, 7, none⟩ (.int .i64 3)).setCell ⟨w0.heap.size + 1, 8, none⟩ (.bool false)).setCell ⟨w0.heap.size + 1, 9, none⟩ (.bool false)).setCell ⟨w0.heap.size + 1, 10, none⟩ (.int .i64 0)).setCell ⟨w0.heap.size + 1, 11, none⟩ (.int .i64 0))) (by rfl) rfl ?_ ?_
      · go_simp
      exact hK.out _ _ ⟨(by rw [ha.out]; exact (putSel_same rfl).symm), hI.put⟩
    exact steps_nil
  rintro b a w1 hall ⟨ha, hI1⟩
  simp only [hall 3 (by kernel_rfl)] at hI1
  exact hend a w1 hI1 (by rw [ha]; simp only [putSel, if_true, hall 0 (by kernel_rfl), hall 1 (by kernel_rfl), hall 2 (by kernel_rfl)]) (by rw [ha]; exact (putSel_size b _ a0).2)
end Go.Proofs.YtgjboghnnhcgiaaGreatDoor
namespace Go.Proofs.YtgjboghnnhcgiaaGreatDoor
open Go.RowKit Go.Proofs.YtgjboghnnhcgiaaGreatDoor.M Go.Proofs.YtgjboghnnhcgiaaGreatDoorW.PrintWords Go.Proofs.YtgjboghnnhcgiaaGreatDoorW.PrintLast
set_option linter.unusedVariables false
set_option linter.unusedSimpArgs false
end Go.Proofs.YtgjboghnnhcgiaaGreatDoor
namespace Go.Proofs.YtgjboghnnhcgiaaGreatDoor
open Go.RowKit Go.Proofs.YtgjboghnnhcgiaaGreatDoor.M
open Go.Proofs.YtgjboghnnhcgiaaGreatDoorW.PrintWords Go.Proofs.YtgjboghnnhcgiaaGreatDoorW.PrintLast
set_option linter.unusedVariables false
set_option linter.unusedSimpArgs false
theorem mks_new (w : World) : Mks w.heap.size 0 (w.alloc (.cells (mkc 0 0 0 none none) 62)) := .inl ⟨⟨heap_alloc_new w _⟩, rfl⟩
theorem Hd.start (w : World) : Hd w 0 ((w.alloc (.cells (mkc 0 0 0 none none) 62)).alloc (.cells #[.bool false, .string d5, .int .i64 1] 23)) := by
  have h1 := mks_new w
  have z1 : (w.alloc (.cells (mkc 0 0 0 none none) 62)).heap.size = w.heap.size + 1 := by simp
  have b1 := (Below.refl w.heap.size w).alloc (Nat.le_refl _) (.cells (mkc 0 0 0 none none) 62)
  generalize w.alloc (.cells (mkc 0 0 0 none none) 62) = U at *
  have m2 := heap_alloc_new U (.cells #[.bool false, .string d5, .int .i64 1] 23)
  rw [z1] at m2
  exact ⟨h1.step ((Below.refl _ _).alloc (Nat.le_refl _) _), m2, b1.alloc (by rw [z1]; omega) _⟩
end Go.Proofs.YtgjboghnnhcgiaaGreatDoor
namespace Go.Proofs.YtgjboghnnhcgiaaGreatDoor
open Go.RowKit Go.Proofs.YtgjboghnnhcgiaaGreatDoorW.PrintWords Go.Proofs.YtgjboghnnhcgiaaGreatDoorW.PrintLast Go.Proofs.YtgjboghnnhcgiaaGreatDoorW.PrintMore
set_option linter.unusedVariables false
set_option linter.unusedSimpArgs false
set_option maxRecDepth 100000 in
set_option maxHeartbeats 4000000 in
theorem num14_any (n : Bool) (D : ByteArray) (k : Int) (w : World) : Calls Tryz.prog 8 #[decV n D k] w fun e w' => e = .returned (.agg (valC 1 ⟨#[]⟩ n D k 1 0 3 false false 0 0)) ∧ Below w.heap.size w w' := by
  have h0 := Own.two w (.cells #[.bool n, .string D, .int .i64 k] 23) (.cells #[.int .i64 (0), .string ⟨#[]⟩, .bool false, .string ⟨#[]⟩, .int .i64 (0), .int .i64 (0), .int .i64 (0), .int .i64 (0), .bool false, .bool false, .int .i64 (0), .int .i64 (0)] 31)
  have hI : VnI w false n D k _ := h0
  have cD := default_any
  unfold optV at cD
  unfold valC decV
  go_enter Tryz.func8, Tryz.ntmps8
  go_upto_region 1 with (fail)
  refine num_one w n D k cD _ rfl rfl rfl _ hI.drew _ ?_
  intro a9 w9 h9 ha9 hd9
  have h8 : Own w [(w.heap.size + 1, .cells #[.int .i64 (1), .string ⟨#[]⟩, .bool n, .string D, .int .i64 (k), .int .i64 (1), .int .i64 (0), .int .i64 (3), .bool false, .bool false, .int .i64 (0), .int .i64 (0)] 31 (0, 0)), (w.heap.size, .cells #[.bool n, .string D, .int .i64 k] 23 (0, 0))] w9 := h9
  have bel := h8.bel
  have q0 := h8.c 0 0 rfl rfl
  have q1 := h8.c 0 1 rfl rfl
  have q2 := h8.c 0 2 rfl rfl
  have q3 := h8.c 0 3 rfl rfl
  have q4 := h8.c 0 4 rfl rfl
  have q5 := h8.c 0 5 rfl rfl
  have q6 := h8.c 0 6 rfl rfl
  have q7 := h8.c 0 7 rfl rfl
  have q8 := h8.c 0 8 rfl rfl
  have q9 := h8.c 0 9 rfl rfl
  have q10 := h8.c 0 10 rfl rfl
  have q11 := h8.c 0 11 rfl rfl
  clear hI h0 h9
  rw [ha9]
  simp only [putSel, if_true, Act.put, List.setIfInBounds_toArray, List.set_cons_zero, List.set_cons_succ]
  clear ha9
  go_wp2
  refine bodyPost_ret (v := .agg #[.int .i64 (1), .string ⟨#[]⟩, .bool n, .string D, .int .i64 (k), .int .i64 (1), .int .i64 (0), .int .i64 (3), .bool false, .bool false, .int .i64 (0), .int .i64 (0)]) (by simp [results, Tryz.results8, go_sem, q0, q1, q2, q3, q4, q5, q6, q7, q8, q9, q10, q11]) rfl ?_
  exact ⟨rfl, bel⟩
set_option maxRecDepth 100000 in
set_option maxHeartbeats 4000000 in
theorem written_num (key : ByteArray) (n : Bool) (D : ByteArray) (k m x : Int) (w : World) (hm : (if 20 < k then 20 else k) = m) (hx : (if 3 < m then m else 3) = x)
    (cP : ∀ W, Below w.heap.size w W → Calls Tryz.prog 25 #[.string key] W fun e w' => e = .returned (.tuple #[decV n D k, .bool true]) ∧ Below W.heap.size W w') :
    Calls Tryz.prog 9 #[.string key] w fun e w' => e = .returned (.agg (valC 1 ⟨#[]⟩ n D k 1 m x false false 0 0)) ∧ Below w.heap.size w w' := by
  have h0 := Own.one w (.cells #[.int .i64 (0), .string ⟨#[]⟩, .bool false, .string ⟨#[]⟩, .int .i64 (0), .int .i64 (0), .int .i64 (0), .int .i64 (0), .bool false, .bool false, .int .i64 (0), .int .i64 (0)] 31)
  have cN := num14_any n D k
  have e1 : min k 20 = m := by rw [← hm]; omega
  have e2 : max 3 m = x := by rw [← hx]; omega
  unfold valC decV at *
  go_enter Tryz.func9, Tryz.ntmps9
  go_upto_region 1 with (fail)
  generalize w.alloc _ = W0 at *
  go_upto_region 2 with (go_at_call 25; refine (cP _ h0.bel).mono ?_; rintro e W1 ⟨rfl, b1⟩; have h1 := h0.step b1)
  have h2 := h1.alloc (.cells #[.bool n, .string D, .int .i64 k] 23)
  clear h0 h1 b1 cP
  generalize W1.alloc _ = W2 at *
  generalize W1.heap.size = g at *
  have p0 := h2.c 0 0 rfl rfl
  have p1 := h2.c 0 1 rfl rfl
  have p2 := h2.c 0 2 rfl rfl
  go_upto_region 5 with (go_at_call 8; refine (cN _).mono ?_; rintro e W3 ⟨rfl, b3⟩; have h3 := h2.step b3)
  have h4 := h3.alloc (.cells #[.int .i64 (1), .string ⟨#[]⟩, .bool n, .string D, .int .i64 (k), .int .i64 (1), .int .i64 (0), .int .i64 (3), .bool false, .bool false, .int .i64 (0), .int .i64 (0)] 31)
  clear h2 h3 b3 cN p0 p1 p2
  generalize W3.alloc _ = W4 at *
  generalize W3.heap.size = g2 at *
  have p2 := h4.c 1 2 rfl rfl
  have r6 := h4.c 0 6 rfl rfl
  have f6 := h4.fz 0 6 rfl
  go_upto_region 6 with (fail)
  have h5 : Own w [(g2, .cells #[.int .i64 (1), .string ⟨#[]⟩, .bool n, .string D, .int .i64 (k), .int .i64 (1), .int .i64 (m), .int .i64 (3), .bool false, .bool false, .int .i64 (0), .int .i64 (0)] 31 (0, 0)), (g, .cells #[.bool n, .string D, .int .i64 k] 23 (0, 0)), (w.heap.size, .cells #[.int .i64 (0), .string ⟨#[]⟩, .bool false, .string ⟨#[]⟩, .int .i64 (0), .int .i64 (0), .int .i64 (0), .int .i64 (0), .bool false, .bool false, .int .i64 (0), .int .i64 (0)] 31 (0, 0))] _ := h4.set 0 6 (.int .i64 m) rfl
  clear p2 r6 f6 h4
  generalize W4.setCell ⟨g2, 6, none⟩ (.int .i64 m) = W5 at *
  have r6 := h5.c 0 6 rfl rfl
  have r7 := h5.c 0 7 rfl rfl
  have f7 := h5.fz 0 7 rfl
  go_upto_region 7 with (fail)
  have h6 : Own w [(g2, .cells #[.int .i64 (1), .string ⟨#[]⟩, .bool n, .string D, .int .i64 (k), .int .i64 (1), .int .i64 (m), .int .i64 (x), .bool false, .bool false, .int .i64 (0), .int .i64 (0)] 31 (0, 0)), (g, .cells #[.bool n, .string D, .int .i64 k] 23 (0, 0)), (w.heap.size, .cells #[.int .i64 (0), .string ⟨#[]⟩, .bool false, .string ⟨#[]⟩, .int .i64 (0), .int .i64 (0), .int .i64 (0), .int .i64 (0), .bool false, .bool false, .int .i64 (0), .int .i64 (0)] 31 (0, 0))] _ := h5.set 0 7 (.int .i64 x) rfl
  clear r6 r7 f7 h5
  generalize W5.setCell ⟨g2, 7, none⟩ (.int .i64 x) = W6 at *
  have p0 := h6.c 0 0 rfl rfl
  have p1 := h6.c 0 1 rfl rfl
  have p2 := h6.c 0 2 rfl rfl
  have p3 := h6.c 0 3 rfl rfl
  have p4 := h6.c 0 4 rfl rfl
  have p5 := h6.c 0 5 rfl rfl
  have p6 := h6.c 0 6 rfl rfl
  have p7 := h6.c 0 7 rfl rfl
  have p8 := h6.c 0 8 rfl rfl
  have p9 := h6.c 0 9 rfl rfl
  have p10 := h6.c 0 10 rfl rfl
  have p11 := h6.c 0 11 rfl rfl
  have r0 := h6.c 2 0 rfl rfl
  have r1 := h6.c 2 1 rfl rfl
  have r2 := h6.c 2 2 rfl rfl
  have r3 := h6.c 2 3 rfl rfl
  have r4 := h6.c 2 4 rfl rfl
  have r5 := h6.c 2 5 rfl rfl
  have r6 := h6.c 2 6 rfl rfl
  have r7 := h6.c 2 7 rfl rfl
  have r8 := h6.c 2 8 rfl rfl
  have r9 := h6.c 2 9 rfl rfl
  have r10 := h6.c 2 10 rfl rfl
  have r11 := h6.c 2 11 rfl rfl
  have f0 := h6.fz 2 0 rfl
  have f1 := h6.fz 2 1 rfl
  have f2 := h6.fz 2 2 rfl
  have f3 := h6.fz 2 3 rfl
  have f4 := h6.fz 2 4 rfl
  have f5 := h6.fz 2 5 rfl
  have f6 := h6.fz 2 6 rfl
  have f7 := h6.fz 2 7 rfl
  have f8 := h6.fz 2 8 rfl
  have f9 := h6.fz 2 9 rfl
  have f10 := h6.fz 2 10 rfl
  have f11 := h6.fz 2 11 rfl
  have h7 : Own w [(g2, .cells #[.int .i64 (1), .string ⟨#[]⟩, .bool n, .string D, .int .i64 (k), .int .i64 (1), .int .i64 (m), .int .i64 (x), .bool false, .bool false, .int .i64 (0), .int .i64 (0)] 31 (0, 0)), (g, .cells #[.bool n, .string D, .int .i64 k] 23 (0, 0)), (w.heap.size, .cells #[.int .i64 (1), .string ⟨#[]⟩, .bool n, .string D, .int .i64 (k), .int .i64 (1), .int .i64 (m), .int .i64 (x), .bool false, .bool false, .int .i64 (0), .int .i64 (0)] 31 (0, 0))] ((((((((((((W6.setCell ⟨w.heap.size, 0, none⟩ (.int .i64 (1))).setCell ⟨w.heap.size, 1, none⟩ (.string ⟨#[]⟩)).setCell ⟨w.heap.size, 2, none⟩ (.bool n)).setCell ⟨w.heap.size, 3, none⟩ (.string D)).setCell ⟨w.heap.size, 4, none⟩ (.int .i64 (k))).setCell ⟨w.heap.size, 5, none⟩ (.int .i64 (1))).setCell ⟨w.heap.size, 6, none⟩ (.int .i64 (m))).setCell ⟨w.heap.size, 7, none⟩ (.int .i64 (x))).setCell ⟨w.heap.size, 8, none⟩ (.bool false)).setCell ⟨w.heap.size, 9, none⟩ (.bool false)).setCell ⟨w.heap.size, 10, none⟩ (.int .i64 (0))).setCell ⟨w.heap.size, 11, none⟩ (.int .i64 (0))) := Own.setAll h6 2 [.int .i64 (1), .string ⟨#[]⟩, .bool n, .string D, .int .i64 (k), .int .i64 (1), .int .i64 (m), .int .i64 (x), .bool false, .bool false, .int .i64 (0), .int .i64 (0)] rfl rfl
  have bel := h7.bel
  have q0 := h7.c 2 0 rfl rfl
  have q1 := h7.c 2 1 rfl rfl
  have q2 := h7.c 2 2 rfl rfl
  have q3 := h7.c 2 3 rfl rfl
  have q4 := h7.c 2 4 rfl rfl
  have q5 := h7.c 2 5 rfl rfl
  have q6 := h7.c 2 6 rfl rfl
  have q7 := h7.c 2 7 rfl rfl
  have q8 := h7.c 2 8 rfl rfl
  have q9 := h7.c 2 9 rfl rfl
  have q10 := h7.c 2 10 rfl rfl
  have q11 := h7.c 2 11 rfl rfl
  clear h6 h7
  go_wp2
  refine bodyPost_ret (v := .agg #[.int .i64 (1), .string ⟨#[]⟩, .bool n, .string D, .int .i64 (k), .int .i64 (1), .int .i64 (m), .int .i64 (x), .bool false, .bool false, .int .i64 (0), .int .i64 (0)]) (by simp [results, Tryz.results9, go_sem, q0, q1, q2, q3, q4, q5, q6, q7, q8, q9, q10, q11]) rfl ?_
  exact ⟨rfl, bel⟩
end Go.Proofs.YtgjboghnnhcgiaaGreatDoor
