/- of the words of categories just one is meant of any number (Text 3 of 7: what the law's proof rests on, joined; walks printed by the kit's print over given contracts, walks and plain laws by hand.) -/
import Derived.Carry
import Derived.StillTailTactics
import Derived.Deep.QuietTactic
import Derived.BigQuiet
import Derived.Lib.Small
import Derived.Laws.Cover1
import Derived.Laws.StructEq
import Derived.Test.YtgjboghnnhcgiaaGreatDoorProg
import Derived.Below
import Derived.Deep.Draws
import Derived.Deep.AppendLies
import Derived.Maps.AppendAt
import Derived.OwnWalk
import Derived.Laws.BytesArg
import Derived.Laws.MakeOwn
import Derived.Laws.OwnMore
import Derived.Deep.OwnRows
import Derived.Tactics
import Derived.Lib.ConvBytes
import Derived.Laws.Slices
import Derived.WalkKit
import Derived.KernelRfl
import Derived.RowKit3
import Derived.Deep.LoopGhost
import Derived.WideLaws
import Derived.Deep.DeepCutAuto
import Derived.Deep.CutBlock
import Derived.Deep.RegionHeld3
import Derived.Laws.Rows
import Derived.Lib.AppendStr
import Derived.ArgAppend
import Derived.Laws.IdiomCopy
import Derived.OrdersHeld
import Derived.Laws.BitsLemmas
import Derived.RowKit
import Derived.Laws.Runes
import Derived.Deep.RegionWith
import Derived.Deep.DrawnRows
import Derived.Handy
import Derived.Lib.LaidTab
import Derived.Laws.EntriesVeiled
import Derived.Test.YtgjboghnnhcgiaaGreatDoorVon0
import Derived.Test.YtgjboghnnhcgiaaGreatDoorVon1
namespace Go.Proofs.YtgjboghnnhcgiaaGreatDoor.M
open Go.RowKit Go.Proofs.YtgjboghnnhcgiaaGreatDoorW.PrintWords Go.Proofs.YtgjboghnnhcgiaaGreatDoorW.PrintLast
set_option linter.unusedVariables false
set_option linter.unusedSimpArgs false
def fill_round.T : Bool × List (List Nat × List Nat) := (true, [([], []), ([0], [0]), ([1], [1]), ([2], [2]), ([], []), ([4], [4]), ([], []), ([6], [6]), ([7], [7]), ([8], [8]), ([], []), ([10], [10]), ([], []), ([12], [12]), ([], []), ([14], [14]), ([3, 5, 9], [3, 5]), ([16], [16]), ([3, 17, 13, 16, 0, 1, 2, 3, 4, 5, 9, 12, 13, 16], [3, 13, 17]), ([9, 11, 18, 0, 1, 2, 3, 4, 5, 9, 12, 13, 16, 17, 18], [9, 11]), ([19], [19]), ([9, 20, 15, 19, 0, 1, 2, 3, 4, 5, 6, 7, 8, 9, 10, 11, 12, 13, 14, 15, 16, 17, 18, 19], [9, 15, 20])])
def fill_round.B : List Nat := [0, 1, 3, 7, 0, 16, 0, 64, 192, 448, 0, 1024, 0, 4096, 0, 16384, 1023, 66559, 209919, 475135, 999423, 2097151]
theorem fill_round.tab : rtab .any (opsOf Tryz.f69 4) = fill_round.T := by kernel_rfl
theorem fill_round.bits : waitsOk fill_round.T.2 fill_round.B = true := by kernel_rfl
set_option maxRecDepth 100000 in
set_option maxHeartbeats 4000000 in
theorem fill_round (w0 : World) (b0 : Nat) (d0 sx ax : Int) (p g q : Nat) (lp lg : List (ByteArray × ByteArray)) (s : ByteArray) (hs : 3 ≤ s.size) (hs9 : s.size ≤ 100) (hlp : look lp (s.extract 0 2) = none) (hlg : look lg (s.extract 0 2) = none) (a0 : Act) (s0 : a0.tmps[0]? = some (.pointer (some ⟨b0, 0, none⟩))) (s3 : a0.tmps[3]? = some (.string s)) (hsz : a0.tmps.size = Tryz.f69.ntmps) (W : World) (hI : St w0 b0 d0 sx ax p g q lp lg (s.extract 0 2) (s.extract 2 3) (s.extract 3 s.size) ((fun _ => false) 16) ((fun _ => false) 18) ((fun _ => false) 19) ((fun _ => false) 21) W.drew) (Q : Exit → Act → World → Prop) (hend : ∀ (a9 : Act) w', St w0 b0 d0 sx ax p g q lp lg (s.extract 0 2) (s.extract 2 3) (s.extract 3 s.size) ((fun _ => true) 16) ((fun _ => true) 18) ((fun _ => true) 19) ((fun _ => true) 21) w' → a9 = putSel a0 (fun _ => true) [(0, 18, .pointer (some ⟨b0, 0, none⟩)), (1, 19, .pointer (some ⟨b0, 0, none⟩)), (2, 20, .pointer (some ⟨b0, 4, none⟩)), (3, 21, .map (some p)), (4, 22, .string s), (5, 23, .string (s.extract 0 2)), (6, 24, .pointer (some ⟨b0, 0, none⟩)), (7, 25, .pointer (some ⟨b0, 0, none⟩)), (8, 26, .pointer (some ⟨b0, 5, none⟩)), (9, 27, .map (some g)), (10, 28, .string s), (11, 29, .string (s.extract 0 2)), (12, 30, .string s), (13, 31, .string (s.extract 2 3)), (14, 32, .string s), (15, 33, .string (s.extract 3 s.size)), (16, 34, .tuple #[.string ⟨#[]⟩, .int .i64 lp.length]), (17, 35, .int .i64 lp.length), (19, 36, .tuple #[.string ⟨#[]⟩, .int .i64 lg.length]), (20, 37, .int .i64 lg.length)] → a9.defers = a0.defers → Q .normal a9 w') :
    (Code.region 4 #[{ dst := some 18, op := Op.move (Operand.tmp 0), type := 44, pos := "number.go:94", after := #[], guard := none }, { dst := some 19, op := Op.nilCheck (Operand.tmp 18), type := 0, pos := "number.go:94", after := #[{ on := 0, ground := Ground.data }], guard := none }, { dst := some 20, op := Op.fieldAddr 62 (Operand.tmp 19) 2, type := 0, pos := "number.go:94", after := #[{ on := 1, ground := Ground.data }], guard := none }, { dst := some 21, op := Op.load 60 (Operand.tmp 20), type := 60, pos := "number.go:94", after := #[{ on := 2, ground := Ground.data }], guard := none }, { dst := some 22, op := Op.move (Operand.tmp 3), type := 9, pos := "number.go:94", after := #[], guard := none }, { dst := some 23, op := Op.slice 9 (Operand.tmp 22) none (some (Operand.const (Value.int IntKind.i64 2))) none, type := 9, pos := "number.go:94", after := #[{ on := 4, ground := Ground.data }], guard := none }, { dst := some 24, op := Op.move (Operand.tmp 0), type := 44, pos := "number.go:94", after := #[], guard := none }, { dst := some 25, op := Op.nilCheck (Operand.tmp 24), type := 0, pos := "number.go:94", after := #[{ on := 6, ground := Ground.data }], guard := none }, { dst := some 26, op := Op.fieldAddr 62 (Operand.tmp 25) 3, type := 0, pos := "number.go:94", after := #[{ on := 7, ground := Ground.data }], guard := none }, { dst := some 27, op := Op.load 60 (Operand.tmp 26), type := 60, pos := "number.go:94", after := #[{ on := 8, ground := Ground.data }], guard := none }, { dst := some 28, op := Op.move (Operand.tmp 3), type := 9, pos := "number.go:94", after := #[], guard := none }, { dst := some 29, op := Op.slice 9 (Operand.tmp 28) none (some (Operand.const (Value.int IntKind.i64 2))) none, type := 9, pos := "number.go:94", after := #[{ on := 10, ground := Ground.data }], guard := none }, { dst := some 30, op := Op.move (Operand.tmp 3), type := 9, pos := "number.go:94", after := #[], guard := none }, { dst := some 31, op := Op.slice 9 (Operand.tmp 30) (some (Operand.const (Value.int IntKind.i64 2))) (some (Operand.const (Value.int IntKind.i64 3))) none, type := 9, pos := "number.go:94", after := #[{ on := 12, ground := Ground.data }], guard := none }, { dst := some 32, op := Op.move (Operand.tmp 3), type := 9, pos := "number.go:94", after := #[], guard := none }, { dst := some 33, op := Op.slice 9 (Operand.tmp 32) (some (Operand.const (Value.int IntKind.i64 3))) none none, type := 9, pos := "number.go:94", after := #[{ on := 14, ground := Ground.data }], guard := none }, { dst := some 34, op := Op.mapEntry 60 (Operand.tmp 21) (Operand.tmp 23), type := 0, pos := "number.go:94", after := #[{ on := 3, ground := Ground.data }, { on := 5, ground := Ground.data }, { on := 0, ground := Ground.textOnly Departure.tupleMapEntryFirst }, { on := 1, ground := Ground.textOnly Departure.tupleMapEntryFirst }, { on := 2, ground := Ground.textOnly Departure.tupleMapEntryFirst }, { on := 3, ground := Ground.textOnly Departure.tupleMapEntryFirst }, { on := 4, ground := Ground.textOnly Departure.tupleMapEntryFirst }, { on := 5, ground := Ground.textOnly Departure.lateStoresUnsure }, { on := 6, ground := Ground.textOnly Departure.lateStores }, { on := 7, ground := Ground.textOnly Departure.lateStoresUnsure }, { on := 8, ground := Ground.textOnly Departure.lateStoresUnsure }, { on := 9, ground := Ground.phase }, { on := 10, ground := Ground.textOnly Departure.lateStores }, { on := 11, ground := Ground.textOnly Departure.lateStoresUnsure }, { on := 12, ground := Ground.textOnly Departure.tupleMapEntryFirst }, { on := 13, ground := Ground.textOnly Departure.lateStoresUnsure }, { on := 14, ground := Ground.textOnly Departure.lateStores }, { on := 15, ground := Ground.textOnly Departure.lateStoresUnsure }], guard := none }, { dst := some 35, op := Op.extract (Operand.tmp 34) 1, type := 3, pos := "number.go:94", after := #[{ on := 16, ground := Ground.data }], guard := none }, { dst := none, op := Op.entryStore 60 (Operand.tmp 21) (Operand.tmp 35) (Operand.tmp 31), type := 0, pos := "number.go:94", after := #[{ on := 3, ground := Ground.data }, { on := 17, ground := Ground.data }, { on := 13, ground := Ground.data }, { on := 16, ground := Ground.chain }, { on := 0, ground := Ground.phase }, { on := 1, ground := Ground.phase }, { on := 2, ground := Ground.phase }, { on := 3, ground := Ground.phase }, { on := 4, ground := Ground.phase }, { on := 5, ground := Ground.phase }, { on := 6, ground := Ground.textOnly Departure.lateStores }, { on := 7, ground := Ground.textOnly Departure.lateStoresUnsure }, { on := 8, ground := Ground.textOnly Departure.lateStoresUnsure }, { on := 9, ground := Ground.phase }, { on := 10, ground := Ground.textOnly Departure.lateStores }, { on := 11, ground := Ground.textOnly Departure.lateStoresUnsure }, { on := 12, ground := Ground.phase }, { on := 13, ground := Ground.phase }, { on := 14, ground := Ground.textOnly Departure.lateStores }, { on := 15, ground := Ground.textOnly Departure.lateStoresUnsure }, { on := 16, ground := Ground.phase }], guard := none }, { dst := some 36, op := Op.mapEntry 60 (Operand.tmp 27) (Operand.tmp 29), type := 0, pos := "number.go:94", after := #[{ on := 9, ground := Ground.data }, { on := 11, ground := Ground.data }, { on := 18, ground := Ground.chain }, { on := 0, ground := Ground.phase }, { on := 1, ground := Ground.phase }, { on := 2, ground := Ground.phase }, { on := 3, ground := Ground.phase }, { on := 4, ground := Ground.phase }, { on := 5, ground := Ground.phase }, { on := 6, ground := Ground.textOnly Departure.tupleMapEntryFirst }, { on := 7, ground := Ground.textOnly Departure.lateStoresUnsure }, { on := 8, ground := Ground.textOnly Departure.lateStoresUnsure }, { on := 9, ground := Ground.phase }, { on := 10, ground := Ground.textOnly Departure.tupleMapEntryFirst }, { on := 11, ground := Ground.textOnly Departure.lateStoresUnsure }, { on := 12, ground := Ground.phase }, { on := 13, ground := Ground.phase }, { on := 14, ground := Ground.textOnly Departure.tupleMapEntryFirst }, { on := 15, ground := Ground.textOnly Departure.lateStoresUnsure }, { on := 16, ground := Ground.phase }, { on := 17, ground := Ground.phase }, { on := 18, ground := Ground.phase }], guard := none }, { dst := some 37, op := Op.extract (Operand.tmp 36) 1, type := 3, pos := "number.go:94", after := #[{ on := 19, ground := Ground.data }], guard := none }, { dst := none, op := Op.entryStore 60 (Operand.tmp 27) (Operand.tmp 37) (Operand.tmp 33), type := 0, pos := "number.go:94", after := #[{ on := 9, ground := Ground.data }, { on := 20, ground := Ground.data }, { on := 15, ground := Ground.data }, { on := 19, ground := Ground.chain }, { on := 0, ground := Ground.phase }, { on := 1, ground := Ground.phase }, { on := 2, ground := Ground.phase }, { on := 3, ground := Ground.phase }, { on := 4, ground := Ground.phase }, { on := 5, ground := Ground.phase }, { on := 6, ground := Ground.phase }, { on := 7, ground := Ground.phase }, { on := 8, ground := Ground.phase }, { on := 9, ground := Ground.phase }, { on := 10, ground := Ground.phase }, { on := 11, ground := Ground.phase }, { on := 12, ground := Ground.phase }, { on := 13, ground := Ground.phase }, { on := 14, ground := Ground.phase }, { on := 15, ground := Ground.phase }, { on := 16, ground := Ground.phase }, { on := 17, ground := Ground.phase }, { on := 18, ground := Ground.phase }, { on := 19, ground := Ground.phase }], guard := none }] true).wp Tryz.prog Q a0 W := by
  refine start_ (n := 22) (S := fun w' => True) (ds := []) #[false, false, false, false, false, false, false, false, false, false, false, false, false, false, false, false, false, false, false, false, false, false] (by kernel_rfl) rfl rfl trivial (fun hHeld => ?_)
  refine with_tabW fill_round.tab fill_round.bits (fun HT_ HW_ => ?_)
  refine inv_at [0, 1, 2, 3, 4, 5, 6, 7, 8, 9, 10, 11, 12, 13, 14, 15, 16, 17, 18, 19, 20, 21] (fun a0_ b a w' => a = putSel a0_ b [(0, 18, .pointer (some ⟨b0, 0, none⟩)), (1, 19, .pointer (some ⟨b0, 0, none⟩)), (2, 20, .pointer (some ⟨b0, 4, none⟩)), (3, 21, .map (some p)), (4, 22, .string s), (5, 23, .string (s.extract 0 2)), (6, 24, .pointer (some ⟨b0, 0, none⟩)), (7, 25, .pointer (some ⟨b0, 0, none⟩)), (8, 26, .pointer (some ⟨b0, 5, none⟩)), (9, 27, .map (some g)), (10, 28, .string s), (11, 29, .string (s.extract 0 2)), (12, 30, .string s), (13, 31, .string (s.extract 2 3)), (14, 32, .string s), (15, 33, .string (s.extract 3 s.size)), (16, 34, .tuple #[.string ⟨#[]⟩, .int .i64 lp.length]), (17, 35, .int .i64 lp.length), (19, 36, .tuple #[.string ⟨#[]⟩, .int .i64 lg.length]), (20, 37, .int .i64 lg.length)] ∧ (St w0 b0 d0 sx ax p g q lp lg (s.extract 0 2) (s.extract 2 3) (s.extract 3 s.size) (b 16) (b 18) (b 19) (b 21) w')) HT_.out HW_.out (by kernel_rfl) (by kernel_rfl) ?_ ?_ ?_
  · exact ⟨(by simp only [putSel, Bool.false_eq_true, if_false]), hI⟩
  · clear hI hend hHeld
    refine steps_cons ?_ ?_
    · rintro b a w' ⟨ha, hI⟩ hb_ hon hoff
      refine ⟨_, rfl, fun K hK => ?_⟩
      have e0 : a.tmps[0]? = some (.pointer (some ⟨b0, 0, none⟩)) := by rw [ha]; exact (putSel_off rfl).trans s0
      replace ha := Aside0.mk ha
      obtain ⟨p4, p5⟩ := hI.get
      refine value_ (w1 := w') (v := .pointer (some ⟨b0, 0, none⟩)) (by rfl) rfl ?_ ?_
      · go_simp; try rfl
        all_goals (try (simp only [IntKind.wrap_i64]; omega))
      exact hK.out _ _ ⟨(by rw [ha.out]; exact putSel_upk 0 hb_ rfl rfl rfl), hI⟩
    refine steps_cons ?_ ?_
    · rintro b a w' ⟨ha, hI⟩ hb_ hon hoff
      refine ⟨_, rfl, fun K hK => ?_⟩
      have e18 : a.tmps[18]? = some (.pointer (some ⟨b0, 0, none⟩)) := by rw [ha]; exact putSel_on (e := (0, 18, .pointer (some ⟨b0, 0, none⟩))) 0 rfl rfl (hon 0 (by kernel_rfl)) (by rw [hsz]; rfl)
      replace ha := Aside0.mk ha
      obtain ⟨p4, p5⟩ := hI.get
      refine value_ (w1 := w') (v := .pointer (some ⟨b0, 0, none⟩)) (by rfl) rfl ?_ ?_
      · go_simp; try rfl
        all_goals (try (simp only [IntKind.wrap_i64]; omega))
      exact hK.out _ _ ⟨(by rw [ha.out]; exact putSel_upk 1 hb_ rfl rfl rfl), hI⟩
    refine steps_cons ?_ ?_
    · rintro b a w' ⟨ha, hI⟩ hb_ hon hoff
      refine ⟨_, rfl, fun K hK => ?_⟩
      have e19 : a.tmps[19]? = some (.pointer (some ⟨b0, 0, none⟩)) := by rw [ha]; exact putSel_on (e := (1, 19, .pointer (some ⟨b0, 0, none⟩))) 1 rfl rfl (hon 1 (by kernel_rfl)) (by rw [hsz]; rfl)
      replace ha := Aside0.mk ha
      obtain ⟨p4, p5⟩ := hI.get
      refine value_ (w1 := w') (v := .pointer (some ⟨b0, 4, none⟩)) (by rfl) rfl ?_ ?_
      · go_simp; try rfl
        all_goals (try (simp only [IntKind.wrap_i64]; omega))
      exact hK.out _ _ ⟨(by rw [ha.out]; exact putSel_upk 2 hb_ rfl rfl rfl), hI⟩
    refine steps_cons ?_ ?_
    · rintro b a w' ⟨ha, hI⟩ hb_ hon hoff
      refine ⟨_, rfl, fun K hK => ?_⟩
      have e20 : a.tmps[20]? = some (.pointer (some ⟨b0, 4, none⟩)) := by rw [ha]; exact putSel_on (e := (2, 20, .pointer (some ⟨b0, 4, none⟩))) 2 rfl rfl (hon 2 (by kernel_rfl)) (by rw [hsz]; rfl)
      replace ha := Aside0.mk ha
      obtain ⟨p4, p5⟩ := hI.get
      refine value_ (w1 := w') (v := .map (some p)) (by rfl) rfl ?_ ?_
      · go_simp; try rfl
        all_goals (try (simp only [IntKind.wrap_i64]; omega))
      exact hK.out _ _ ⟨(by rw [ha.out]; exact putSel_upk 3 hb_ rfl rfl rfl), hI⟩
    refine steps_cons ?_ ?_
    · rintro b a w' ⟨ha, hI⟩ hb_ hon hoff
      refine ⟨_, rfl, fun K hK => ?_⟩
      have e3 : a.tmps[3]? = some (.string s) := by rw [ha]; exact (putSel_off rfl).trans s3
      replace ha := Aside0.mk ha
      obtain ⟨p4, p5⟩ := hI.get
      refine value_ (w1 := w') (v := .string s) (by rfl) rfl ?_ ?_
      · go_simp; try rfl
        all_goals (try (simp only [IntKind.wrap_i64]; omega))
      exact hK.out _ _ ⟨(by rw [ha.out]; exact putSel_upk 4 hb_ rfl rfl rfl), hI⟩
    refine steps_cons ?_ ?_
    · rintro b a w' ⟨ha, hI⟩ hb_ hon hoff
      refine ⟨_, rfl, fun K hK => ?_⟩
      have e22 : a.tmps[22]? = some (.string s) := by rw [ha]; exact putSel_on (e := (4, 22, .string s)) 4 rfl rfl (hon 4 (by kernel_rfl)) (by rw [hsz]; rfl)
      replace ha := Aside0.mk ha
      obtain ⟨p4, p5⟩ := hI.get
      refine value_ (w1 := w') (v := .string (s.extract 0 2)) (by rfl) rfl ?_ ?_
      · exact exec_to 2 rfl (eval_of e22) (by omega)
      exact hK.out _ _ ⟨(by rw [ha.out]; exact putSel_upk 5 hb_ rfl rfl rfl), hI⟩
    refine steps_cons ?_ ?_
    · rintro b a w' ⟨ha, hI⟩ hb_ hon hoff
      refine ⟨_, rfl, fun K hK => ?_⟩
      have e0 : a.tmps[0]? = some (.pointer (some ⟨b0, 0, none⟩)) := by rw [ha]; exact (putSel_off rfl).trans s0
      replace ha := Aside0.mk ha
      obtain ⟨p4, p5⟩ := hI.get
      refine value_ (w1 := w') (v := .pointer (some ⟨b0, 0, none⟩)) (by rfl) rfl ?_ ?_
      · go_simp; try rfl
        all_goals (try (simp only [IntKind.wrap_i64]; omega))
      exact hK.out _ _ ⟨(by rw [ha.out]; exact putSel_upk 6 hb_ rfl rfl rfl), hI⟩
    refine steps_cons ?_ ?_
    · rintro b a w' ⟨ha, hI⟩ hb_ hon hoff
      refine ⟨_, rfl, fun K hK => ?_⟩
      have e24 : a.tmps[24]? = some (.pointer (some ⟨b0, 0, none⟩)) := by rw [ha]; exact putSel_on (e := (6, 24, .pointer (some ⟨b0, 0, none⟩))) 6 rfl rfl (hon 6 (by kernel_rfl)) (by rw [hsz]; rfl)
      replace ha := Aside0.mk ha
      obtain ⟨p4, p5⟩ := hI.get
      refine value_ (w1 := w') (v := .pointer (some ⟨b0, 0, none⟩)) (by rfl) rfl ?_ ?_
      · go_simp; try rfl
        all_goals (try (simp only [IntKind.wrap_i64]; omega))
      exact hK.out _ _ ⟨(by rw [ha.out]; exact putSel_upk 7 hb_ rfl rfl rfl), hI⟩
    refine steps_cons ?_ ?_
    · rintro b a w' ⟨ha, hI⟩ hb_ hon hoff
      refine ⟨_, rfl, fun K hK => ?_⟩
      have e25 : a.tmps[25]? = some (.pointer (some ⟨b0, 0, none⟩)) := by rw [ha]; exact putSel_on (e := (7, 25, .pointer (some ⟨b0, 0, none⟩))) 7 rfl rfl (hon 7 (by kernel_rfl)) (by rw [hsz]; rfl)
      replace ha := Aside0.mk ha
      obtain ⟨p4, p5⟩ := hI.get
      refine value_ (w1 := w') (v := .pointer (some ⟨b0, 5, none⟩)) (by rfl) rfl ?_ ?_
      · go_simp; try rfl
        all_goals (try (simp only [IntKind.wrap_i64]; omega))
      exact hK.out _ _ ⟨(by rw [ha.out]; exact putSel_upk 8 hb_ rfl rfl rfl), hI⟩
    refine steps_cons ?_ ?_
    · rintro b a w' ⟨ha, hI⟩ hb_ hon hoff
      refine ⟨_, rfl, fun K hK => ?_⟩
      have e26 : a.tmps[26]? = some (.pointer (some ⟨b0, 5, none⟩)) := by rw [ha]; exact putSel_on (e := (8, 26, .pointer (some ⟨b0, 5, none⟩))) 8 rfl rfl (hon 8 (by kernel_rfl)) (by rw [hsz]; rfl)
      replace ha := Aside0.mk ha
      obtain ⟨p4, p5⟩ := hI.get
      refine value_ (w1 := w') (v := .map (some g)) (by rfl) rfl ?_ ?_
      · go_simp; try rfl
        all_goals (try (simp only [IntKind.wrap_i64]; omega))
      exact hK.out _ _ ⟨(by rw [ha.out]; exact putSel_upk 9 hb_ rfl rfl rfl), hI⟩
    refine steps_cons ?_ ?_
    · rintro b a w' ⟨ha, hI⟩ hb_ hon hoff
      refine ⟨_, rfl, fun K hK => ?_⟩
      have e3 : a.tmps[3]? = some (.string s) := by rw [ha]; exact (putSel_off rfl).trans s3
      replace ha := Aside0.mk ha
      obtain ⟨p4, p5⟩ := hI.get
      refine value_ (w1 := w') (v := .string s) (by rfl) rfl ?_ ?_
      · go_simp; try rfl
        all_goals (try (simp only [IntKind.wrap_i64]; omega))
      exact hK.out _ _ ⟨(by rw [ha.out]; exact putSel_upk 10 hb_ rfl rfl rfl), hI⟩
    refine steps_cons ?_ ?_
    · rintro b a w' ⟨ha, hI⟩ hb_ hon hoff
      refine ⟨_, rfl, fun K hK => ?_⟩
      have e28 : a.tmps[28]? = some (.string s) := by rw [ha]; exact putSel_on (e := (10, 28, .string s)) 10 rfl rfl (hon 10 (by kernel_rfl)) (by rw [hsz]; rfl)
      replace ha := Aside0.mk ha
      obtain ⟨p4, p5⟩ := hI.get
      refine value_ (w1 := w') (v := .string (s.extract 0 2)) (by rfl) rfl ?_ ?_
      · exact exec_to 2 rfl (eval_of e28) (by omega)
      exact hK.out _ _ ⟨(by rw [ha.out]; exact putSel_upk 11 hb_ rfl rfl rfl), hI⟩
    refine steps_cons ?_ ?_
    · rintro b a w' ⟨ha, hI⟩ hb_ hon hoff
      refine ⟨_, rfl, fun K hK => ?_⟩
      have e3 : a.tmps[3]? = some (.string s) := by rw [ha]; exact (putSel_off rfl).trans s3
      replace ha := Aside0.mk ha
      obtain ⟨p4, p5⟩ := hI.get
      refine value_ (w1 := w') (v := .string s) (by rfl) rfl ?_ ?_
      · go_simp; try rfl
        all_goals (try (simp only [IntKind.wrap_i64]; omega))
      exact hK.out _ _ ⟨(by rw [ha.out]; exact putSel_upk 12 hb_ rfl rfl rfl), hI⟩
    refine steps_cons ?_ ?_
    · rintro b a w' ⟨ha, hI⟩ hb_ hon hoff
      refine ⟨_, rfl, fun K hK => ?_⟩
      have e30 : a.tmps[30]? = some (.string s) := by rw [ha]; exact putSel_on (e := (12, 30, .string s)) 12 rfl rfl (hon 12 (by kernel_rfl)) (by rw [hsz]; rfl)
      replace ha := Aside0.mk ha
      obtain ⟨p4, p5⟩ := hI.get
      refine value_ (w1 := w') (v := .string (s.extract 2 3)) (by rfl) rfl ?_ ?_
      · exact exec_part 2 3 rfl (eval_of e30) (by omega) (by omega)
      exact hK.out _ _ ⟨(by rw [ha.out]; exact putSel_upk 13 hb_ rfl rfl rfl), hI⟩
    refine steps_cons ?_ ?_
    · rintro b a w' ⟨ha, hI⟩ hb_ hon hoff
      refine ⟨_, rfl, fun K hK => ?_⟩
      have e3 : a.tmps[3]? = some (.string s) := by rw [ha]; exact (putSel_off rfl).trans s3
      replace ha := Aside0.mk ha
      obtain ⟨p4, p5⟩ := hI.get
      refine value_ (w1 := w') (v := .string s) (by rfl) rfl ?_ ?_
      · go_simp; try rfl
        all_goals (try (simp only [IntKind.wrap_i64]; omega))
      exact hK.out _ _ ⟨(by rw [ha.out]; exact putSel_upk 14 hb_ rfl rfl rfl), hI⟩
    refine steps_cons ?_ ?_
    · rintro b a w' ⟨ha, hI⟩ hb_ hon hoff
      refine ⟨_, rfl, fun K hK => ?_⟩
      have e32 : a.tmps[32]? = some (.string s) := by rw [ha]; exact putSel_on (e := (14, 32, .string s)) 14 rfl rfl (hon 14 (by kernel_rfl)) (by rw [hsz]; rfl)
      replace ha := Aside0.mk ha
      obtain ⟨p4, p5⟩ := hI.get
      refine value_ (w1 := w') (v := .string (s.extract 3 s.size)) (by rfl) rfl ?_ ?_
      · exact exec_from 3 rfl (eval_of e32) (by omega)
      exact hK.out _ _ ⟨(by rw [ha.out]; exact putSel_upk 15 hb_ rfl rfl rfl), hI⟩
    refine steps_cons ?_ ?_
    · rintro b a w' ⟨ha, hI⟩ hb_ hon hoff
      refine ⟨_, rfl, fun K hK => ?_⟩
      have e21 : a.tmps[21]? = some (.map (some p)) := by rw [ha]; exact putSel_on (e := (3, 21, .map (some p))) 3 rfl rfl (hon 3 (by kernel_rfl)) (by rw [hsz]; rfl)
      have e23 : a.tmps[23]? = some (.string (s.extract 0 2)) := by rw [ha]; exact putSel_on (e := (5, 23, .string (s.extract 0 2))) 5 rfl rfl (hon 5 (by kernel_rfl)) (by rw [hsz]; rfl)
      replace ha := Aside0.mk ha
      obtain ⟨p4, p5⟩ := hI.get
      refine value_ (w1 := setObj w' p (half lp (s.extract 0 2))) (v := .tuple #[.string ⟨#[]⟩, .int .i64 lp.length]) (by rfl) rfl ?_ ?_
      · exact exec_entry rfl (eval_of e21) (eval_of e23) (by have h := hI.pt; rw [hb_, show b 18 = false from hoff 18 (by kernel_rfl)] at h; exact h) hlp
      exact hK.out _ _ ⟨(by rw [ha.out]; exact putSel_upk 16 hb_ rfl rfl rfl), hI.toP (o := half lp (s.extract 0 2)) (by rw [show up b 16 18 = false from (up_ne (by decide)).trans (hoff 18 (by kernel_rfl))]; rfl)⟩
    refine steps_cons ?_ ?_
    · rintro b a w' ⟨ha, hI⟩ hb_ hon hoff
      refine ⟨_, rfl, fun K hK => ?_⟩
      have e34 : a.tmps[34]? = some (.tuple #[.string ⟨#[]⟩, .int .i64 lp.length]) := by rw [ha]; exact putSel_on (e := (16, 34, .tuple #[.string ⟨#[]⟩, .int .i64 lp.length])) 16 rfl rfl (hon 16 (by kernel_rfl)) (by rw [hsz]; rfl)
      replace ha := Aside0.mk ha
      obtain ⟨p4, p5⟩ := hI.get
      refine value_ (w1 := w') (v := .int .i64 lp.length) (by rfl) rfl ?_ ?_
      · go_simp; try rfl
        all_goals (try (simp only [IntKind.wrap_i64]; omega))
      exact hK.out _ _ ⟨(by rw [ha.out]; exact putSel_upk 17 hb_ rfl rfl rfl), hI⟩
    refine steps_cons ?_ ?_
    · rintro b a w' ⟨ha, hI⟩ hb_ hon hoff
      refine ⟨_, rfl, fun K hK => ?_⟩
      have e21 : a.tmps[21]? = some (.map (some p)) := by rw [ha]; exact putSel_on (e := (3, 21, .map (some p))) 3 rfl rfl (hon 3 (by kernel_rfl)) (by rw [hsz]; rfl)
      have e31 : a.tmps[31]? = some (.string (s.extract 2 3)) := by rw [ha]; exact putSel_on (e := (13, 31, .string (s.extract 2 3))) 13 rfl rfl (hon 13 (by kernel_rfl)) (by rw [hsz]; rfl)
      have e35 : a.tmps[35]? = some (.int .i64 lp.length) := by rw [ha]; exact putSel_on (e := (17, 35, .int .i64 lp.length)) 17 rfl rfl (hon 17 (by kernel_rfl)) (by rw [hsz]; rfl)
      replace ha := Aside0.mk ha
      obtain ⟨p4, p5⟩ := hI.get
      refine skip_ (w1 := setObj w' p (obj (lp ++ [(s.extract 0 2, s.extract 2 3)]))) (by rfl) rfl ?_ ?_
      · exact exec_put rfl (eval_of e21) (eval_of e35) (eval_of e31) (by have h := hI.pt; rw [hb_, show b 16 = true from hon 16 (by kernel_rfl)] at h; exact h)
      exact hK.out _ _ ⟨(by rw [ha.out]; exact (putSel_same rfl).symm), hI.toP (o := obj (lp ++ [(s.extract 0 2, s.extract 2 3)])) (by rfl)⟩
    refine steps_cons ?_ ?_
    · rintro b a w' ⟨ha, hI⟩ hb_ hon hoff
      refine ⟨_, rfl, fun K hK => ?_⟩
      have e27 : a.tmps[27]? = some (.map (some g)) := by rw [ha]; exact putSel_on (e := (9, 27, .map (some g))) 9 rfl rfl (hon 9 (by kernel_rfl)) (by rw [hsz]; rfl)
      have e29 : a.tmps[29]? = some (.string (s.extract 0 2)) := by rw [ha]; exact putSel_on (e := (11, 29, .string (s.extract 0 2))) 11 rfl rfl (hon 11 (by kernel_rfl)) (by rw [hsz]; rfl)
      replace ha := Aside0.mk ha
      obtain ⟨p4, p5⟩ := hI.get
      refine value_ (w1 := setObj w' g (half lg (s.extract 0 2))) (v := .tuple #[.string ⟨#[]⟩, .int .i64 lg.length]) (by rfl) rfl ?_ ?_
      · exact exec_entry rfl (eval_of e27) (eval_of e29) (by have h := hI.gr; rw [hb_, show b 21 = false from hoff 21 (by kernel_rfl)] at h; exact h) hlg
      exact hK.out _ _ ⟨(by rw [ha.out]; exact putSel_upk 18 hb_ rfl rfl rfl), hI.toG (o := half lg (s.extract 0 2)) (by rw [show up b 19 21 = false from (up_ne (by decide)).trans (hoff 21 (by kernel_rfl))]; rfl)⟩
    refine steps_cons ?_ ?_
    · rintro b a w' ⟨ha, hI⟩ hb_ hon hoff
      refine ⟨_, rfl, fun K hK => ?_⟩
      have e36 : a.tmps[36]? = some (.tuple #[.string ⟨#[]⟩, .int .i64 lg.length]) := by rw [ha]; exact putSel_on (e := (19, 36, .tuple #[.string ⟨#[]⟩, .int .i64 lg.length])) 18 rfl rfl (hon 19 (by kernel_rfl)) (by rw [hsz]; rfl)
      replace ha := Aside0.mk ha
      obtain ⟨p4, p5⟩ := hI.get
      refine value_ (w1 := w') (v := .int .i64 lg.length) (by rfl) rfl ?_ ?_
      · go_simp; try rfl
        all_goals (try (simp only [IntKind.wrap_i64]; omega))
      exact hK.out _ _ ⟨(by rw [ha.out]; exact putSel_upk 19 hb_ rfl rfl rfl), hI⟩
    refine steps_cons ?_ ?_
    · rintro b a w' ⟨ha, hI⟩ hb_ hon hoff
      refine ⟨_, rfl, fun K hK => ?_⟩
      have e27 : a.tmps[27]? = some (.map (some g)) := by rw [ha]; exact putSel_on (e := (9, 27, .map (some g))) 9 rfl rfl (hon 9 (by kernel_rfl)) (by rw [hsz]; rfl)
      have e33 : a.tmps[33]? = some (.string (s.extract 3 s.size)) := by rw [ha]; exact putSel_on (e := (15, 33, .string (s.extract 3 s.size))) 15 rfl rfl (hon 15 (by kernel_rfl)) (by rw [hsz]; rfl)
      have e37 : a.tmps[37]? = some (.int .i64 lg.length) := by rw [ha]; exact putSel_on (e := (20, 37, .int .i64 lg.length)) 19 rfl rfl (hon 20 (by kernel_rfl)) (by rw [hsz]; rfl)
      replace ha := Aside0.mk ha
      obtain ⟨p4, p5⟩ := hI.get
      refine skip_ (w1 := setObj w' g (obj (lg ++ [(s.extract 0 2, s.extract 3 s.size)]))) (by rfl) rfl ?_ ?_
      · exact exec_put rfl (eval_of e27) (eval_of e37) (eval_of e33) (by have h := hI.gr; rw [hb_, show b 19 = true from hon 19 (by kernel_rfl)] at h; exact h)
      exact hK.out _ _ ⟨(by rw [ha.out]; exact (putSel_same rfl).symm), hI.toG (o := obj (lg ++ [(s.extract 0 2, s.extract 3 s.size)])) (by rfl)⟩
    exact steps_nil
  rintro b a w1 hall ⟨ha, hI1⟩
  simp only [hall 16 (by kernel_rfl), hall 18 (by kernel_rfl), hall 19 (by kernel_rfl), hall 21 (by kernel_rfl)] at hI1
  exact hend a w1 hI1 (by rw [ha]; simp only [putSel, if_true, hall 0 (by kernel_rfl), hall 1 (by kernel_rfl), hall 2 (by kernel_rfl), hall 3 (by kernel_rfl), hall 4 (by kernel_rfl), hall 5 (by kernel_rfl), hall 6 (by kernel_rfl), hall 7 (by kernel_rfl), hall 8 (by kernel_rfl), hall 9 (by kernel_rfl), hall 10 (by kernel_rfl), hall 11 (by kernel_rfl), hall 12 (by kernel_rfl), hall 13 (by kernel_rfl), hall 14 (by kernel_rfl), hall 15 (by kernel_rfl), hall 16 (by kernel_rfl), hall 17 (by kernel_rfl), hall 19 (by kernel_rfl), hall 20 (by kernel_rfl)]) (by rw [ha]; exact (putSel_size b _ a0).2)
end Go.Proofs.YtgjboghnnhcgiaaGreatDoor.M
namespace Go.Proofs.YtgjboghnnhcgiaaGreatDoor.M
open Go.RowKit
open Go.Proofs.YtgjboghnnhcgiaaGreatDoorW.PrintWords Go.Proofs.YtgjboghnnhcgiaaGreatDoorW.PrintLast
set_option linter.unusedVariables false
set_option linter.unusedSimpArgs false
theorem row_at (i : Nat) (h : i < 8) : ∃ s : ByteArray, rowL[i]? = some (.string s) ∧ 3 ≤ s.size ∧ s.size ≤ 100 ∧ look (ptsL.take i) (s.extract 0 2) = none ∧ look (grsL.take i) (s.extract 0 2) = none ∧
    ptsL.take i ++ [(s.extract 0 2, s.extract 2 3)] = ptsL.take (i + 1) ∧ grsL.take i ++ [(s.extract 0 2, s.extract 3 s.size)] = grsL.take (i + 1) := by
  match i, h with
  | 0, _ => exact ⟨_, rfl, by decide, by decide, by kernel_rfl, by kernel_rfl, by kernel_rfl, by kernel_rfl⟩
  | 1, _ => exact ⟨_, rfl, by decide, by decide, by kernel_rfl, by kernel_rfl, by kernel_rfl, by kernel_rfl⟩
  | 2, _ => exact ⟨_, rfl, by decide, by decide, by kernel_rfl, by kernel_rfl, by kernel_rfl, by kernel_rfl⟩
  | 3, _ => exact ⟨_, rfl, by decide, by decide, by kernel_rfl, by kernel_rfl, by kernel_rfl, by kernel_rfl⟩
  | 4, _ => exact ⟨_, rfl, by decide, by decide, by kernel_rfl, by kernel_rfl, by kernel_rfl, by kernel_rfl⟩
  | 5, _ => exact ⟨_, rfl, by decide, by decide, by kernel_rfl, by kernel_rfl, by kernel_rfl, by kernel_rfl⟩
  | 6, _ => exact ⟨_, rfl, by decide, by decide, by kernel_rfl, by kernel_rfl, by kernel_rfl, by kernel_rfl⟩
  | 7, _ => exact ⟨_, rfl, by decide, by decide, by kernel_rfl, by kernel_rfl, by kernel_rfl, by kernel_rfl⟩
theorem St.start {b : Nat} {d s a : Int} {W : World} (h : Mk b d s a none none W) :
    St W b d s a W.heap.size (W.heap.size + 1) (W.heap.size + 1 + 1) [] [] ⟨#[]⟩ ⟨#[]⟩ ⟨#[]⟩ false false false false
      (((((W.setCell ⟨b, 4, none⟩ (.map (some W.heap.size))).setCell ⟨b, 5, none⟩ (.map (some (W.heap.size + 1)))).alloc (.map #[] 0)).alloc (.map #[] 0)).alloc (.cells rowL 9)) := by
  have hb := h.lt
  have k4 := (h.s4 (some W.heap.size)).s5 (some (W.heap.size + 1))
  have g4 : W.grownBy ((W.setCell ⟨b, 4, none⟩ (.map (some W.heap.size))).setCell ⟨b, 5, none⟩ (.map (some (W.heap.size + 1)))) (some b) := (grown_setCell _ b 4 _).trans (grown_setCell _ b 5 _)
  have z4 : ((W.setCell ⟨b, 4, none⟩ (.map (some W.heap.size))).setCell ⟨b, 5, none⟩ (.map (some (W.heap.size + 1)))).heap.size = W.heap.size := by simp [World.setCell]
  generalize (W.setCell ⟨b, 4, none⟩ (.map (some W.heap.size))).setCell ⟨b, 5, none⟩ (.map (some (W.heap.size + 1))) = V at *
  have z5 : (V.alloc (.map #[] 0)).heap.size = W.heap.size + 1 := by simp [z4]
  have z6 : ((V.alloc (.map #[] 0)).alloc (.map #[] 0)).heap.size = W.heap.size + 1 + 1 := by simp [z4]
  have m1 := heap_alloc_new V (.map #[] 0)
  have m2 := heap_alloc_new (V.alloc (.map #[] 0)) (.map #[] 0)
  have m3 := heap_alloc_new ((V.alloc (.map #[] 0)).alloc (.map #[] 0)) (.cells rowL 9)
  rw [z4] at m1
  rw [z5] at m2
  rw [z6] at m3
  refine ⟨⟨(((heap_alloc_old _ _ (by rw [z6]; omega)).trans (heap_alloc_old _ _ (by rw [z5]; omega))).trans (heap_alloc_old _ _ (by rw [z4]; omega))).trans k4.blk⟩, ((heap_alloc_old _ _ (by rw [z6]; omega)).trans (heap_alloc_old _ _ (by rw [z5]; omega))).trans m1, (heap_alloc_old _ _ (by rw [z6]; omega)).trans m2, m3,
    ((g4.trans (World.grownBy_alloc _ _ _)).trans (World.grownBy_alloc _ _ _)).trans (World.grownBy_alloc _ _ _), by omega, by omega, by omega⟩
theorem St.next {w0 : World} {b : Nat} {d s a : Int} {p g q : Nat} {lp lg lp' lg' : List (ByteArray × ByteArray)} {k x y : ByteArray} {W : World} (h : St w0 b d s a p g q lp lg k x y true true true true W) (h1 : lp ++ [(k, x)] = lp') (h2 : lg ++ [(k, y)] = lg') :
    St w0 b d s a p g q lp' lg' ⟨#[]⟩ ⟨#[]⟩ ⟨#[]⟩ false false false false W := by
  subst h1; subst h2
  exact ⟨h.ck, h.pt, h.gr, h.rw, h.gw, h.np, h.ng, h.pg⟩
set_option maxRecDepth 100000 in
set_option maxHeartbeats 4000000 in
theorem fill_any : Fills := by
  intro b d s a W h
  have hst := St.start h
  have hm := fun w => run_makeMap (P := Tryz.prog) 60 w
  have hlt := h.lt
  have f4 := h.fz 4
  have f5 := h.fz 5
  have c4 := h.c4
  have c5 := h.c5
  generalize hp : W.heap.size = p at *
  go_enter Tryz.func69, Tryz.ntmps69
  go_wp2
  subst hp
  have HS := Lib.hid hst; clear hst hm f4 f5 c4 c5 hlt
  go_loopg [14] 8 (fun gk v14 wx => ∃ i : Nat, v14 = .int .i64 i ∧ i + gk = 8 ∧ St W b d s a W.heap.size (W.heap.size + 1) (W.heap.size + 1 + 1) (ptsL.take i) (grsL.take i) ⟨#[]⟩ ⟨#[]⟩ ⟨#[]⟩ false false false false wx)
  case atStart => exact ⟨0, rfl, by omega, HS.out⟩
  case round =>
    obtain ⟨i, rfl, hi, hst⟩ := hrel
    clear HS
    by_cases hp : i < 8
    · obtain ⟨k, rfl⟩ : ∃ f, gk = f + 1 := ⟨gk - 1, by omega⟩
      obtain ⟨t, ht, t3, t9, l1, l2, n1, n2⟩ := row_at i hp
      have c0 := (Lib.cell_of_heap hst.rw i).trans ht
      go_wp2
      refine fill_round W b d s a W.heap.size (W.heap.size + 1) (W.heap.size + 1 + 1) (ptsL.take i) (grsL.take i) t t3 t9 l1 l2 _ rfl rfl rfl wr ?_ _ ?_
      · exact ⟨hst.ck.drew, hst.pt, hst.gr, hst.rw, hst.gw.trans (grown_drew _ _), hst.np, hst.ng, hst.pg⟩
      intro a9 w9 h9 ha9 hd9
      have hn := h9.next n1 n2
      rw [ha9]
      simp only [putSel, if_true, Act.put, List.setIfInBounds_toArray, List.set_cons_zero, List.set_cons_succ]
      clear ha9 hd9 h9 hst
      have HN := Lib.hid hn; clear hn
      go_wp2
      go_roundg k
      case measure => omega
      case rel => exact ⟨i + 1, by simp, by omega, HN.out⟩
    · obtain rfl : i = 8 := by omega
      have hg := hst.gw
      have hF : Full b d s a W.heap.size (W.heap.size + 1) wr := ⟨hst.ck, hst.pt, hst.gr⟩
      go_wp2
      go_end0
      exact ⟨rfl, _, _, hF, hg⟩
end Go.Proofs.YtgjboghnnhcgiaaGreatDoor.M
namespace Go.Proofs.YtgjboghnnhcgiaaGreatDoor.M
open Go.RowKit
set_option linter.unusedVariables false
set_option linter.unusedSimpArgs false
def ptC (lang : ByteArray) : ByteArray := if (look ptsL lang).isSome = true then (look ptsL lang).getD ⟨#[]⟩ else ⟨#[46]⟩
def grC (lang : ByteArray) : ByteArray := if (look ptsL lang).isSome = true then (look grsL lang).getD ⟨#[]⟩ else ⟨#[44]⟩
def Mks (b : Nat) (n : Int) (W : World) : Prop := (Mk b 0 0 0 none none W ∧ n = 0) ∨ ∃ p g, Full b 1 0 n p g W
theorem Mks.drew {b : Nat} {n : Int} {W : World} (h : Mks b n W) : Mks b n W.drew := by
  rcases h with ⟨h, e⟩ | ⟨p, g, h⟩
  · exact .inl ⟨h.drew, e⟩
  · exact .inr ⟨p, g, h.drew⟩
theorem Mks.step {b : Nat} {n : Int} {W W1 : World} (h : Mks b n W) (c : Below W.heap.size W W1) : Mks b n W1 := by
  have hg := grown_below (row := none) c (Nat.le_refl _)
  rcases h with ⟨h, e⟩ | ⟨p, g, h⟩
  · exact .inl ⟨h.kept hg (by simp), e⟩
  · exact .inr ⟨p, g, h.kept hg (by simp)⟩
theorem Mks.cell {b : Nat} {n : Int} {W : World} (h : Mks b n W) : W.cell? ⟨b, 3, none⟩ = some (.int .i64 n) := by
  rcases h with ⟨h, rfl⟩ | ⟨p, g, h⟩
  · exact h.c3
  · exact h.ck.c3
theorem do_mks {b : Nat} {n : Int} {w : World} (h : Mks b n w) :
    Calls Tryz.prog 68 #[.pointer (some ⟨b, 0, none⟩), .func (.func 69) #[.pointer (some ⟨b, 0, none⟩)] #[]] w fun e w' => e = .returned (.tuple #[]) ∧ ∃ p g, Full b 1 0 n p g w' ∧ w.grownBy w' (some b) := by
  rcases h with ⟨h, rfl⟩ | ⟨p, g, h⟩
  · exact do_first fill_any b 0 w h
  · exact (do_done b n _ _ _ w h.ck).mono fun e w' ⟨he, hw⟩ => ⟨he, p, g, by rw [hw]; exact h, by rw [hw]; exact grown_refl _ _⟩
theorem add_full {b : Nat} {n : Int} (hn : 0 ≤ n) (hn9 : n ≤ 1000) {p g : Nat} {w : World} (h : Full b 1 0 n p g w) :
    Calls Tryz.prog 70 #[.pointer (some ⟨b, 3, none⟩), .int .i64 1] w fun e w' => e = .returned (.int .i64 (n + 1)) ∧ Full b 1 0 (n + 1) p g w' ∧ w.grownBy w' (some b) :=
  (add_any b 1 0 n _ _ hn hn9 w h.ck).mono fun e w' ⟨he, hw⟩ => ⟨he, by rw [hw]; exact h.s3 _, by rw [hw]; exact grown_setCell _ b 3 _⟩
theorem Full.looks {b : Nat} {d s n : Int} {p g : Nat} {W : World} (h : Full b d s n p g W) (k : ByteArray) :
    (Instr.lookup 60 (.map (some p)) (.string k) true).run Tryz.prog W = .ok (.tuple #[.string ((look ptsL k).getD ⟨#[]⟩), .bool (look ptsL k).isSome]) W ∧
    (Instr.lookup 60 (.map (some g)) (.string k) false).run Tryz.prog W = .ok (.string ((look grsL k).getD ⟨#[]⟩)) W :=
  ⟨run_look Tryz.underlying60 Tryz.underlying9 zstr h.pt k true, run_look Tryz.underlying60 Tryz.underlying9 zstr h.gr k false⟩
set_option maxRecDepth 100000 in
set_option maxHeartbeats 4000000 in
theorem of_any (b : Nat) (n : Int) (hn : 0 ≤ n) (hn9 : n ≤ 1000) (lang : ByteArray) (w : World) (h : Mks b n w) :
    Calls Tryz.prog 35 #[.pointer (some ⟨b, 0, none⟩), .string lang] w fun e w' => e = .returned (.tuple #[.string (ptC lang), .string (grC lang)]) ∧ Mks b (n + 1) w' ∧ w.grownBy w' (some b) := by
  have hmf : ∀ (fn : Fn) (first cap : Array Value) (w : World), (Instr.makeFunc fn first cap).run Tryz.prog w = .ok (.func fn first cap) w := fun _ _ _ _ => rfl
  have hpx : ∀ z, (look ptsL lang).isSome = z → ptC lang = if z = true then (look ptsL lang).getD ⟨#[]⟩ else ⟨#[46]⟩ := fun z hz => by unfold ptC; rw [hz]
  have hgx : ∀ z, (look ptsL lang).isSome = z → grC lang = if z = true then (look grsL lang).getD ⟨#[]⟩ else ⟨#[44]⟩ := fun z hz => by unfold grC; rw [hz]
  generalize ptC lang = px at *
  generalize grC lang = gx at *
  go_enter Tryz.func35, Tryz.ntmps35
  go_upto_region 3 with (first
    | (go_at_call 68; refine (do_mks h).mono ?_; rintro e w1 ⟨rfl, p, g, h1, g1⟩)
    | (go_at_call 70; refine (add_full hn hn9 h1).mono ?_; rintro e w2 ⟨rfl, h2, g2⟩))
  obtain ⟨l1, l2⟩ := h2.looks lang
  obtain ⟨l3, l4⟩ := h2.drew.looks lang
  have hg := g1.trans g2
  have c4 := h2.ck.c4
  have c5 := h2.ck.c5
  have hF : Mks b (n + 1) w2 := .inr ⟨p, g, h2⟩
  clear h h1 g1 g2 h2
  generalize (look ptsL lang).getD ⟨#[]⟩ = x at *
  generalize (look grsL lang).getD ⟨#[]⟩ = y at *
  generalize hz : (look ptsL lang).isSome = z at *
  have ex := hpx z rfl
  have ey := hgx z rfl
  clear hpx hgx hz
  cases z with
  | true =>
    simp only [if_true] at ex ey
    subst ex; subst ey
    go_wp2
    go_region_with (fail)
    all_goals
      go_wp2
      go_ret2
      exact ⟨rfl, by first | exact hF | exact hF.drew, by first | exact hg | exact hg.trans (grown_drew _ _)⟩
  | false =>
    simp only [Bool.false_eq_true, if_false] at ex ey
    subst ex; subst ey
    go_wp2
    go_ret2
    exact ⟨rfl, hF, hg⟩
end Go.Proofs.YtgjboghnnhcgiaaGreatDoor.M
namespace Go.Proofs.YtgjboghnnhcgiaaGreatDoor
open Go.RowKit Go.Proofs.YtgjboghnnhcgiaaGreatDoorW.PrintWords
set_option linter.unusedVariables false
set_option linter.unusedSimpArgs false
def grpR (B : List UInt8) : List UInt8 → List UInt8
  | [] => []
  | c :: t => (if (t.length + 1) % 3 = 0 then B else []) ++ c :: grpR B t
def grp (B : List UInt8) : List UInt8 → List UInt8
  | [] => []
  | c :: t => c :: grpR B t
def restG (B D : List UInt8) (i : Nat) : List UInt8 := if i = 0 then grp B D else grpR B (D.drop i)
theorem restG_zero (B D : List UInt8) (c : UInt8) (h : D[0]? = some c) : restG B D 0 = [c] ++ restG B D (0 + 1) := by
  cases D with
  | nil => simp at h
  | cons a t =>
    have : a = c := by simpa using h
    subst this
    rfl
theorem drop_at' {D : List UInt8} {i : Nat} {c : UInt8} (h : D[i]? = some c) : D.drop i = c :: D.drop (i + 1) := by
  obtain ⟨hl, e⟩ := List.getElem?_eq_some_iff.1 h
  rw [List.drop_eq_getElem_cons hl, e]
theorem restG_yes (B D : List UInt8) (i : Nat) (c : UInt8) (h0 : i ≠ 0) (h : D[i]? = some c) (h3 : (D.length - i) % 3 = 0) : restG B D i = B ++ [c] ++ restG B D (i + 1) := by
  obtain ⟨hl, _⟩ := List.getElem?_eq_some_iff.1 h
  unfold restG
  rw [if_neg h0, if_neg (by omega), drop_at' h]
  rw [show grpR B (c :: D.drop (i + 1)) = (if ((D.drop (i + 1)).length + 1) % 3 = 0 then B else []) ++ c :: grpR B (D.drop (i + 1)) from rfl]
  rw [List.length_drop, if_pos (by omega)]
  simp
theorem restG_no (B D : List UInt8) (i : Nat) (c : UInt8) (h0 : i ≠ 0) (h : D[i]? = some c) (h3 : ¬ (D.length - i) % 3 = 0) : restG B D i = [c] ++ restG B D (i + 1) := by
  obtain ⟨hl, _⟩ := List.getElem?_eq_some_iff.1 h
  unfold restG
  rw [if_neg h0, if_neg (by omega), drop_at' h]
  rw [show grpR B (c :: D.drop (i + 1)) = (if ((D.drop (i + 1)).length + 1) % 3 = 0 then B else []) ++ c :: grpR B (D.drop (i + 1)) from rfl]
  rw [List.length_drop, if_neg (by omega)]
  simp
theorem grpR_len (B : List UInt8) : ∀ L, (grpR B L).length ≤ (B.length + 1) * L.length
  | [] => by simp [grpR]
  | c :: t => by
    have := grpR_len B t
    unfold grpR
    rw [List.length_append, List.length_cons, List.length_cons, Nat.mul_add, Nat.mul_one]
    split <;> simp <;> omega
set_option maxRecDepth 100000 in
set_option maxHeartbeats 4000000 in
theorem group_any (d b : ByteArray) (w : World) (hd : d.size ≤ 1000) (hb : b.size ≤ 1000) :
    Calls Tryz.prog 36 #[.string d, .string b] w fun e w' => e = .returned (.string ⟨(grp b.data.toList d.data.toList).toArray⟩) ∧ Below w.heap.size w w' := by
  have hl : d.data.toList.length = d.size := (Lib.size_eq d).symm
  have hlb : b.data.toList.length = b.size := (Lib.size_eq b).symm
  have hfresh := Lib.fresh_isBuffer 132 5 w
  obtain ⟨R, hR⟩ : ∃ R, grp b.data.toList d.data.toList = R := ⟨_, rfl⟩
  rw [hR]
  have hRl : R.length ≤ 1001 * 1000 + 1 := by
    rw [← hR]
    cases h : d.data.toList with
    | nil => simp [grp]
    | cons c t =>
      rw [h, List.length_cons] at hl
      have := grpR_len b.data.toList t
      have h2 : (b.data.toList.length + 1) * t.length ≤ 1001 * 1000 := Nat.mul_le_mul (by omega) (by omega)
      show (c :: grpR _ t).length ≤ _
      rw [List.length_cons]
      omega
  have HR := Lib.hid hR; clear hR
  go_enter Tryz.func36, Tryz.ntmps36
  go_wp2
  go_loopg [9] d.size (fun gk si wx => ∃ (i : Nat) (acc : List UInt8), si = .int .i64 i ∧ i ≤ d.size ∧ Lib.IsBuffer 132 5 w.heap.size w.heap.size (Lib.byteCells acc) wx ∧ Below w.heap.size w wx ∧ acc ++ restG b.data.toList d.data.toList i = R ∧ d.size ≤ i + gk)
  case atStart => exact ⟨0, [], rfl, by omega, hfresh, (Below.refl _ _).alloc (Nat.le_refl _) _, by rw [← HR.out]; rfl, by omega⟩
  case round =>
    obtain ⟨i, acc, rfl, hi, hI, hbw, hacc, hfu⟩ := hrel
    clear hfresh HR
    have hsz := hbw.size
    have hal : acc.length ≤ R.length := by rw [← hacc, List.length_append]; omega
    have HA := Lib.hid hacc; clear hacc
    by_cases hp : i < d.size
    · obtain ⟨f, rfl⟩ : ∃ f, gk = f + 1 := ⟨gk - 1, by omega⟩
      have hpz : (i : Int) < (d.size : Int) := by omega
      have hip : d.data.toList[i]? = some (d[i]'hp) := by rw [List.getElem?_eq_getElem (by omega)]; rfl
      have cB := fun W bs hI hB h1 h2 => Tryz.Buffer_WriteByte w.heap.size w.heap.size bs ((d[i]'hp).toNat : Int) W hI hB h1 h2
      have cS := fun W bs hI hB h1 h2 => Tryz.Buffer_WriteString w.heap.size w.heap.size bs b W hI hB h1 h2
      have hbl : (Lib.byteCells acc).length = acc.length := Lib.byteCells_length _
      have Hbl := Lib.hid hbl; clear hbl
      have Hip := Lib.hid hip; clear hip
      have Hl := Lib.hid hl; clear hl
      have Hlb := Lib.hid hlb; clear hlb
      by_cases h0 : i = 0
      · subst h0
        have e1 : restG b.data.toList d.data.toList 0 = [d[0]'hp] ++ restG b.data.toList d.data.toList (0 + 1) := restG_zero _ _ _ Hip.out
        have HE := Lib.hid e1; clear e1
        go_wp2_with (go_at_call 72; ((with_reducible refine (cB _ _ hI (by assumption) (Lib.byteCells_one _) (by rw [Hbl.out]; omega)).mono ?_); rintro e W1 ⟨rfl, hI1, hb1⟩))
        go_roundg f
        case measure => omega
        case rel => exact ⟨0 + 1, acc ++ [d[0]'hp], by go_num, by omega, by rw [Lib.byteCells_append]; exact hI1, hbw.trans hb1, by rw [← HA.out, HE.out, List.append_assoc], by omega⟩
      · have hp0 : (0 : Int) < (i : Int) := by omega
        by_cases h3 : (d.size - i) % 3 = 0
        · have hz3 : (((d.size : Int) - i) % 3 == 0) = true := by rw [beq_iff_eq]; omega
          have e1 : restG b.data.toList d.data.toList i = b.data.toList ++ [d[i]'hp] ++ restG b.data.toList d.data.toList (i + 1) := restG_yes _ _ i _ h0 Hip.out (by rw [Hl.out]; exact h3)
          have HE := Lib.hid e1; clear e1
          go_wp2_with (first
            | (go_at_call 71; ((with_reducible refine (cS _ _ hI (by assumption) (Lib.byteCells_one _) (by rw [Hbl.out]; omega)).mono ?_); rintro e W1 ⟨rfl, hI1, hb1⟩; rw [← Lib.byteCells_append] at hI1; have hs1 := hb1.size))
            | (go_at_call 72; ((with_reducible refine (cB _ _ hI1 (by omega) (Lib.byteCells_one _) (by rw [Lib.byteCells_length, List.length_append, Hlb.out]; omega)).mono ?_); rintro e W2 ⟨rfl, hI2, hb2⟩)))
          go_roundg f
          case measure => omega
          case rel => exact ⟨i + 1, acc ++ b.data.toList ++ [d[i]'hp], by go_num, by omega, by rw [Lib.byteCells_append]; exact hI2, (hbw.trans hb1).trans hb2, by rw [← HA.out, HE.out]; simp, by omega⟩
        · have hz3 : (((d.size : Int) - i) % 3 == 0) = false := by rw [beq_eq_false_iff_ne]; omega
          have e1 : restG b.data.toList d.data.toList i = [d[i]'hp] ++ restG b.data.toList d.data.toList (i + 1) := restG_no _ _ i _ h0 Hip.out (by rw [Hl.out]; exact h3)
          have HE := Lib.hid e1; clear e1
          go_wp2_with (go_at_call 72; ((with_reducible refine (cB _ _ hI (by assumption) (Lib.byteCells_one _) (by rw [Hbl.out]; omega)).mono ?_); rintro e W1 ⟨rfl, hI1, hb1⟩))
          go_roundg f
          case measure => omega
          case rel => exact ⟨i + 1, acc ++ [d[i]'hp], by go_num, by omega, by rw [Lib.byteCells_append]; exact hI1, hbw.trans hb1, by rw [← HA.out, HE.out, List.append_assoc], by omega⟩
    · obtain rfl : i = d.size := by omega
      have e1 : restG b.data.toList d.data.toList d.size = [] := by
        unfold restG
        by_cases h0 : d.size = 0
        · rw [if_pos h0, List.eq_nil_of_length_eq_zero (show d.data.toList.length = 0 by omega)]; rfl
        · rw [if_neg h0, List.drop_eq_nil_of_le (by omega)]; rfl
      have e2 : acc = R := by rw [← HA.out, e1, List.append_nil]
      subst e2
      have cT := Tryz.Buffer_String w.heap.size w.heap.size acc wr hI
      clear HA e1
      go_wp2_with (go_at_call 73; ((with_reducible refine cT.mono ?_); rintro e W1 ⟨rfl, n, rfl⟩))
      go_ret
      exact ⟨rfl, pw_below_drewN hbw n⟩
end Go.Proofs.YtgjboghnnhcgiaaGreatDoor
namespace Go.Proofs.YtgjboghnnhcgiaaGreatDoor
open Go.RowKit Go.Proofs.YtgjboghnnhcgiaaGreatDoor.M
set_option linter.unusedVariables false
set_option linter.unusedSimpArgs false
structure Fm (w : World) (b : Nat) (cnt : Int) (n : Bool) (D : ByteArray) (k mi mf xf : Int) (pl rk : Bool) (W : World) : Prop where
  mks : Mks b cnt W
  blk : W.heap[w.heap.size]? = some (.cells #[.bool n, .string D, .int .i64 k] 23 (0, 0))
  opt : W.heap[w.heap.size + 1]? = some (.cells #[.int .i64 mi, .int .i64 mf, .int .i64 xf, .bool pl, .bool rk] 28 (0, 0))
  gw : w.grownBy W (some b)
  lt : b < w.heap.size
section
variable {w W : World} {b : Nat} {cnt k mi mf xf : Int} {n pl rk : Bool} {D : ByteArray}
theorem Fm.step {W1 : World} (h : Fm w b cnt n D k mi mf xf pl rk W) (c : Below W.heap.size W W1) : Fm w b cnt n D k mi mf xf pl rk W1 :=
  ⟨h.mks.step c, below_blockOf c (Nat.le_refl _) h.blk, below_blockOf c (Nat.le_refl _) h.opt, h.gw.trans (grown_below c (Nat.le_refl _)), h.lt⟩
theorem Fm.drew (h : Fm w b cnt n D k mi mf xf pl rk W) : Fm w b cnt n D k mi mf xf pl rk W.drew := h.step ((Below.refl _ _).drew)
theorem Fm.of {W1 : World} {c1 : Int} (h : Fm w b cnt n D k mi mf xf pl rk W) (hm : Mks b c1 W1) (hg : W.grownBy W1 (some b)) : Fm w b c1 n D k mi mf xf pl rk W1 :=
  ⟨hm, (hg.block _ (Array.getElem?_eq_some_iff.1 h.blk).1 (fun e => by have := h.lt; cases e; omega)).trans h.blk, (hg.block _ (Array.getElem?_eq_some_iff.1 h.opt).1 (fun e => by have := h.lt; cases e; omega)).trans h.opt, h.gw.trans hg, h.lt⟩
theorem Fm.get (h : Fm w b cnt n D k mi mf xf pl rk W) : W.cell? ⟨w.heap.size, 0, none⟩ = some (.bool n) ∧ W.cell? ⟨w.heap.size, 1, none⟩ = some (.string D) ∧ W.cell? ⟨w.heap.size, 2, none⟩ = some (.int .i64 k) ∧
    W.cell? ⟨w.heap.size + 1, 0, none⟩ = some (.int .i64 mi) ∧ W.cell? ⟨w.heap.size + 1, 1, none⟩ = some (.int .i64 mf) ∧ W.cell? ⟨w.heap.size + 1, 2, none⟩ = some (.int .i64 xf) ∧ W.cell? ⟨w.heap.size + 1, 3, none⟩ = some (.bool pl) ∧ W.cell? ⟨w.heap.size + 1, 4, none⟩ = some (.bool rk) :=
  ⟨(Lib.cell_of_heap h.blk 0).trans rfl, (Lib.cell_of_heap h.blk 1).trans rfl, (Lib.cell_of_heap h.blk 2).trans rfl, (Lib.cell_of_heap h.opt 0).trans rfl, (Lib.cell_of_heap h.opt 1).trans rfl, (Lib.cell_of_heap h.opt 2).trans rfl, (Lib.cell_of_heap h.opt 3).trans rfl, (Lib.cell_of_heap h.opt 4).trans rfl⟩
theorem Fm.fz (h : Fm w b cnt n D k mi mf xf pl rk W) (i : Nat) : W.frozen? ⟨w.heap.size, i, none⟩ = false := Lib.frozen_of_heap h.blk i
theorem mks_set {x : Nat} {i : Nat} {v : Value} (h : Mks b cnt W) (hx : b < x) (hW : ∀ p g, Full b 1 0 cnt p g W → x ≠ p ∧ x ≠ g) : Mks b cnt (W.setCell ⟨x, i, none⟩ v) := by
  rcases h with ⟨h, e⟩ | ⟨p, g, h⟩
  · exact .inl ⟨h.kept (M.grown_setCell W x i v) (fun e => by cases e; omega), e⟩
  · refine .inr ⟨p, g, h.kept (M.grown_setCell W x i v) (fun k hk => ?_)⟩
    cases hk
    have := hW p g h
    exact ⟨by omega, this.1, this.2⟩
theorem cells_no {b : Nat} {cnt : Int} {W : World} {x : Nat} {cs : Array Value} {T : TypeId} {fr : Nat × Nat} (hx : W.heap[x]? = some (.cells cs T fr)) : ∀ p g, Full b 1 0 cnt p g W → x ≠ p ∧ x ≠ g :=
  fun p g h => ⟨fun e => (by have := h.pt; rw [← e, hx] at this; cases this), fun e => (by have := h.gr; rw [← e, hx] at this; cases this)⟩
theorem Fm.set {i : Nat} {v : Value} (h : Fm w b cnt n D k mi mf xf pl rk W) : Mks b cnt (W.setCell ⟨w.heap.size, i, none⟩ v) ∧ w.grownBy (W.setCell ⟨w.heap.size, i, none⟩ v) (some b) :=
  ⟨mks_set h.mks h.lt (cells_no h.blk), h.gw.andThen (M.grown_setCell W w.heap.size i v) (fun j hj => by cases hj; exact .inl (Nat.le_refl _))⟩
theorem Fm.put (h : Fm w b cnt n D k mi mf xf pl rk W) (n1 : Bool) (D1 : ByteArray) (k1 : Int) :
    Fm w b cnt n1 D1 k1 mi mf xf pl rk (((W.setCell ⟨w.heap.size, 0, none⟩ (.bool n1)).setCell ⟨w.heap.size, 1, none⟩ (.string D1)).setCell ⟨w.heap.size, 2, none⟩ (.int .i64 k1)) := by
  have s0 : Fm w b cnt n1 D k mi mf xf pl rk (W.setCell ⟨w.heap.size, 0, none⟩ (.bool n1)) := ⟨h.set.1, (dc_set h.blk).trans rfl, (dc_far (by omega)).trans h.opt, h.set.2, h.lt⟩
  have s1 : Fm w b cnt n1 D1 k mi mf xf pl rk ((W.setCell ⟨w.heap.size, 0, none⟩ (.bool n1)).setCell ⟨w.heap.size, 1, none⟩ (.string D1)) := ⟨s0.set.1, (dc_set s0.blk).trans rfl, (dc_far (by omega)).trans s0.opt, s0.set.2, s0.lt⟩
  exact ⟨s1.set.1, (dc_set s1.blk).trans rfl, (dc_far (by omega)).trans s1.opt, s1.set.2, s1.lt⟩
theorem Fm.start (hm : Mks b cnt w) (hb : b < w.heap.size) (n : Bool) (D : ByteArray) (k mi mf xf : Int) (pl rk : Bool) :
    Fm w b cnt n D k mi mf xf pl rk ((w.alloc (.cells #[.bool n, .string D, .int .i64 k] 23)).alloc (.cells #[.int .i64 mi, .int .i64 mf, .int .i64 xf, .bool pl, .bool rk] 28)) := by
  have m1 := heap_alloc_new w (.cells #[.bool n, .string D, .int .i64 k] 23)
  have z1 : (w.alloc (.cells #[.bool n, .string D, .int .i64 k] 23)).heap.size = w.heap.size + 1 := by simp
  have b1 := (Below.refl w.heap.size w).alloc (Nat.le_refl _) (.cells #[.bool n, .string D, .int .i64 k] 23)
  generalize w.alloc (.cells #[.bool n, .string D, .int .i64 k] 23) = U at *
  have m2 := heap_alloc_new U (.cells #[.int .i64 mi, .int .i64 mf, .int .i64 xf, .bool pl, .bool rk] 28)
  rw [z1] at m2
  have b2 := b1.alloc (by rw [z1]; omega) (.cells #[.int .i64 mi, .int .i64 mf, .int .i64 xf, .bool pl, .bool rk] 28)
  exact ⟨hm.step b2, (Below.heap_alloc _ _ w.heap.size (by rw [z1]; omega)).trans m1, m2, M.grown_below b2 (Nat.le_refl _), hb⟩
end
def fmS (lang : ByteArray) (pl : Bool) (E : ByteArray) (K : Nat) : ByteArray := if pl = true then E.extract 0 (E.size - K) else ⟨(grp (grC lang).data.toList (E.extract 0 (E.size - K)).data.toList).toArray⟩
def fmP (lang : ByteArray) (pl : Bool) (E : ByteArray) (K : Nat) : ByteArray := if 0 < K then fmS lang pl E K ++ (ptC lang ++ E.extract (E.size - K) E.size) else fmS lang pl E K
def fmC (lang : ByteArray) (pl n : Bool) (E : ByteArray) (K : Nat) : ByteArray := if (n && !(Lib.trimB E.data.toList 48).isEmpty) = true then ⟨#[45]⟩ ++ fmP lang pl E K else fmP lang pl E K
theorem grc_len (B : List UInt8) : ∀ L : List UInt8, (grp B L).length ≤ (B.length + 1) * L.length
  | [] => by simp [grp]
  | c :: r => by
    have := grpR_len B r
    simp only [grp, List.length_cons] at *
    rw [Nat.mul_succ]
    omega
theorem look_size {l : List (ByteArray × ByteArray)} (h : l.all (fun p => decide (p.2.size ≤ 3)) = true) (k : ByteArray) : ((M.look l k).getD ⟨#[]⟩).size ≤ 3 := by
  induction l with
  | nil => show (⟨#[]⟩ : ByteArray).size ≤ 3; decide
  | cons p r ih =>
    rw [List.all_cons, Bool.and_eq_true] at h
    unfold M.look
    split
    · simpa using h.1
    · exact ih h.2
theorem ptC_size (lang : ByteArray) : (ptC lang).size ≤ 3 := by
  unfold ptC; split
  · exact look_size (by kernel_rfl) lang
  · decide
theorem grC_size (lang : ByteArray) : (grC lang).size ≤ 3 := by
  unfold grC; split
  · exact look_size (by kernel_rfl) lang
  · decide
theorem fmS_size (lang : ByteArray) (pl : Bool) (E : ByteArray) (K : Nat) (hE : E.size ≤ 900) : (fmS lang pl E K).size ≤ 3600 := by
  have hx : (E.extract 0 (E.size - K)).size ≤ 900 := by rw [ByteArray.size_extract]; omega
  unfold fmS
  split
  · omega
  · have h1 := grc_len (grC lang).data.toList (E.extract 0 (E.size - K)).data.toList
    have h2 := grC_size lang
    rw [Lib.size_eq] at h2 hx
    show (grp (grC lang).data.toList (E.extract 0 (E.size - K)).data.toList).toArray.size ≤ 3600
    simp only [List.size_toArray]
    have h3 : ((grC lang).data.toList.length + 1) * (E.extract 0 (E.size - K)).data.toList.length ≤ 4 * 900 := Nat.mul_le_mul (by omega) hx
    omega
set_option maxRecDepth 100000 in
set_option maxHeartbeats 4000000 in
theorem format_any (b : Nat) (cnt : Int) (h0 : 0 ≤ cnt) (h9 : cnt ≤ 1000) (lang : ByteArray) (mi mf xf : Int) (pl rk n : Bool) (D : ByteArray) (k : Int) (E : ByteArray) (K : Nat) (hK : K < E.size) (hE : E.size ≤ 900)
    (cS : ∀ W, Calls Tryz.prog 32 #[optV mi mf xf pl rk, decV n D k] W fun e w' => e = .returned (decV n E K) ∧ Below W.heap.size W w')
    (w : World) (hm : Mks b cnt w) (hb : b < w.heap.size) :
    Calls Tryz.prog 18 #[.pointer (some ⟨b, 0, none⟩), .string lang, decV n D k, optV mi mf xf pl rk] w fun e w' => e = .returned (.string (fmC lang pl n E K)) ∧ Mks b (cnt + 1) w' ∧ w.grownBy w' (some b) := by
  obtain ⟨F, hF0⟩ : ∃ F, fmC lang pl n E K = F := ⟨_, rfl⟩
  rw [hF0]
  have hS := Fm.start hm hb n D k mi mf xf pl rk
  have cO := fun W (h : Mks b cnt W) => M.of_any b cnt h0 h9 lang W h
  have cW := fun W => whole_any n E K W (by omega) (by omega)
  have cP := fun W => part_any n E K W (by omega) (by omega)
  have cZ := fun W => zero_any n E K W (by omega)
  have s4 := extract_size E (E.size - K) (by omega)
  have gs := grC_size lang
  have ps := ptC_size lang
  have cG := fun W => group_any (E.extract 0 (E.size - K)) (grC lang) W (by omega) (by omega)
  unfold decV optV at *
  go_enter Tryz.func18, Tryz.ntmps18
  go_upto_region 2 with (go_at_call 35; refine (cO _ hS.mks).mono ?_; rintro e W1 ⟨rfl, m1, g1⟩)
  have h1 := hS.of m1 g1
  clear m1 g1 hS cO
  obtain ⟨p0, p1, p2, p3, p4, p5, p6, p7⟩ := h1.get
  go_upto_region 3 with (go_at_call 32; refine (cS _).mono ?_; rintro e W2 ⟨rfl, b2⟩; have h2 := h1.step b2; obtain ⟨p0, p1, p2, p3, p4, p5, p6, p7⟩ := h2.get; have z0 := h2.fz 0; have z1 := h2.fz 1; have z2 := h2.fz 2)
  have h3 := h2.put n E K
  clear p0 p1 p2 p3 p4 p5 p6 p7 z0 z1 z2 h1 h2 b2 cS
  generalize ((W2.setCell ⟨w.heap.size, 0, none⟩ (.bool n)).setCell ⟨w.heap.size, 1, none⟩ (.string E)).setCell ⟨w.heap.size, 2, none⟩ (.int .i64 K) = W3 at *
  obtain ⟨p0, p1, p2, p3, p4, p5, p6, p7⟩ := h3.get
  go_upto_region 4 with (go_at_call 26; refine (cW _).mono ?_; rintro e W4 ⟨rfl, b4⟩; have h4 := h3.step b4)
  clear p0 p1 p2 p3 p4 p5 p6 p7 h3 b4 cW
  obtain ⟨p0, p1, p2, p3, p4, p5, p6, p7⟩ := h4.get
  have hS9 := fmS_size lang pl E K hE
  have hx9 : (E.extract (E.size - K) E.size).size ≤ 900 := by rw [ByteArray.size_extract]; omega
  have hfin : ∀ S, fmS lang pl E K = S → F = (if (n && !(Lib.trimB E.data.toList 48).isEmpty) = true then ⟨#[45]⟩ ++ (if 0 < K then S ++ (ptC lang ++ E.extract (E.size - K) E.size) else S) else (if 0 < K then S ++ (ptC lang ++ E.extract (E.size - K) E.size) else S)) := fun S h => by rw [← hF0]; unfold fmC fmP; rw [h]
  have cG' : pl = false → ∀ W, Calls Tryz.prog 36 #[.string (E.extract 0 (E.size - K)), .string (grC lang)] W fun e w' => e = .returned (.string (fmS lang pl E K)) ∧ Below W.heap.size W w' := fun hp W => (cG W).mono fun e w' ⟨he, hb⟩ => ⟨by rw [he, hp]; rfl, hb⟩
  have hT : pl = true → E.extract 0 (E.size - K) = fmS lang pl E K := fun hp => by rw [hp]; rfl
  clear hF0
  generalize fmS lang pl E K = S at *
  have hF := hfin S rfl
  clear hfin cG gs
  generalize E.extract 0 (E.size - K) = X at *
  generalize hY : E.extract (E.size - K) E.size = Y at *
  generalize hP : ptC lang = P at *
  generalize grC lang = G at *
  generalize hz : (Lib.trimB E.data.toList 48).isEmpty = z at *
  have a1 : (S.size : Int) ≤ 8388608 := by omega
  have a2 : (P.size : Int) ≤ 8388608 := by omega
  have a3 : (Y.size : Int) ≤ 8388608 := by omega
  have a4 : ((P ++ Y).size : Int) ≤ 8388608 := by rw [ByteArray.size_append]; omega
  have a5 : ((⟨#[45]⟩ : ByteArray).size : Int) ≤ 8388608 := by decide
  cases pl with
  | false =>
    have cGf := cG' rfl
    clear cG' hT
    go_upto_region 6 with (go_at_call 36; refine (cGf _).mono ?_; rintro e W5 ⟨rfl, b5⟩; have h5 := h4.step b5)
    clear p0 p1 p2 p3 p4 p5 p6 p7 h4 b5 cGf
    obtain ⟨p0, p1, p2, p3, p4, p5, p6, p7⟩ := h5.get
    by_cases hk0 : 0 < K
    · have g1 : decide ((K : Int) > 0) = true := decide_eq_true (by omega)
      simp only [if_pos hk0] at hF
      go_upto_region 8 with (go_at_call 27; refine (cP _).mono ?_; rintro e W6 ⟨rfl, b6⟩; have h6 := h5.step b6)
      clear p0 p1 p2 p3 p4 p5 p6 p7 h5 b6 cP
      obtain ⟨p0, p1, p2, p3, p4, p5, p6, p7⟩ := h6.get
      have s9 : ((S ++ (P ++ Y)).size : Int) ≤ 8388608 := by rw [ByteArray.size_append, ByteArray.size_append]; omega
      generalize S ++ (P ++ Y) = S2 at *
      cases n with
      | false =>
        go_wp2
        go_ret
        exact ⟨by first | (rw [hF]; simp; done) | rfl | (simp; done), h6.mks, h6.gw⟩
      | true =>
        cases z with
        | true =>
          go_wp2_with (go_at_call 28; refine (cZ _).mono ?_; rintro e W8 ⟨rfl, b8⟩; have h8 := h6.step b8)
          go_ret
          exact ⟨by first | (rw [hF]; simp; done) | rfl | (simp; done), h8.mks, h8.gw⟩
        | false =>
          go_wp2_with (go_at_call 28; refine (cZ _).mono ?_; rintro e W8 ⟨rfl, b8⟩; have h8 := h6.step b8)
          go_ret
          exact ⟨by first | (rw [hF]; simp; done) | rfl | (simp; done), h8.mks, h8.gw⟩
    · have g1 : decide ((K : Int) > 0) = false := decide_eq_false (by omega)
      simp only [if_neg hk0] at hF
      go_upto_region 8 with (fail)
      cases n with
      | false =>
        go_wp2
        go_ret
        exact ⟨by first | (rw [hF]; simp; done) | rfl | (simp; done), h5.mks, h5.gw⟩
      | true =>
        cases z with
        | true =>
          go_wp2_with (go_at_call 28; refine (cZ _).mono ?_; rintro e W8 ⟨rfl, b8⟩; have h8 := h5.step b8)
          go_ret
          exact ⟨by first | (rw [hF]; simp; done) | rfl | (simp; done), h8.mks, h8.gw⟩
        | false =>
          go_wp2_with (go_at_call 28; refine (cZ _).mono ?_; rintro e W8 ⟨rfl, b8⟩; have h8 := h5.step b8)
          go_ret
          exact ⟨by first | (rw [hF]; simp; done) | rfl | (simp; done), h8.mks, h8.gw⟩
  | true =>
    obtain rfl := hT rfl
    clear cG'
    go_upto_region 6 with (fail)
    by_cases hk0 : 0 < K
    · have g1 : decide ((K : Int) > 0) = true := decide_eq_true (by omega)
      simp only [if_pos hk0] at hF
      go_upto_region 8 with (go_at_call 27; refine (cP _).mono ?_; rintro e W6 ⟨rfl, b6⟩; have h6 := h4.step b6)
      clear p0 p1 p2 p3 p4 p5 p6 p7 h4 b6 cP
      obtain ⟨p0, p1, p2, p3, p4, p5, p6, p7⟩ := h6.get
      have s9 : ((X ++ (P ++ Y)).size : Int) ≤ 8388608 := by rw [ByteArray.size_append, ByteArray.size_append]; omega
      generalize X ++ (P ++ Y) = S2 at *
      cases n with
      | false =>
        go_wp2
        go_ret
        exact ⟨by first | (rw [hF]; simp; done) | rfl | (simp; done), h6.mks, h6.gw⟩
      | true =>
        cases z with
        | true =>
          go_wp2_with (go_at_call 28; refine (cZ _).mono ?_; rintro e W8 ⟨rfl, b8⟩; have h8 := h6.step b8)
          go_ret
          exact ⟨by first | (rw [hF]; simp; done) | rfl | (simp; done), h8.mks, h8.gw⟩
        | false =>
          go_wp2_with (go_at_call 28; refine (cZ _).mono ?_; rintro e W8 ⟨rfl, b8⟩; have h8 := h6.step b8)
          go_ret
          exact ⟨by first | (rw [hF]; simp; done) | rfl | (simp; done), h8.mks, h8.gw⟩
    · have g1 : decide ((K : Int) > 0) = false := decide_eq_false (by omega)
      simp only [if_neg hk0] at hF
      go_upto_region 8 with (fail)
      cases n with
      | false =>
        go_wp2
        go_ret
        exact ⟨by first | (rw [hF]; simp; done) | rfl | (simp; done), h4.mks, h4.gw⟩
      | true =>
        cases z with
        | true =>
          go_wp2_with (go_at_call 28; refine (cZ _).mono ?_; rintro e W8 ⟨rfl, b8⟩; have h8 := h4.step b8)
          go_ret
          exact ⟨by first | (rw [hF]; simp; done) | rfl | (simp; done), h8.mks, h8.gw⟩
        | false =>
          go_wp2_with (go_at_call 28; refine (cZ _).mono ?_; rintro e W8 ⟨rfl, b8⟩; have h8 := h4.step b8)
          go_ret
          exact ⟨by first | (rw [hF]; simp; done) | rfl | (simp; done), h8.mks, h8.gw⟩
end Go.Proofs.YtgjboghnnhcgiaaGreatDoor
namespace Go.Proofs.YtgjboghnnhcgiaaGreatDoor.G
open Go.RowKit Go.Proofs.YtgjboghnnhcgiaaGreatDoorW.PrintWords
set_option linter.unusedVariables false
set_option linter.unusedSimpArgs false
theorem isNaN_str (s : ByteArray) (w : World) : Calls Tryz.prog 92 #[.string s] w fun e w' => e = .returned (.bool false) ∧ w = w' := by
  go_enter Tryz.func92, Tryz.ntmps92
  go_wp2
  go_ret
  exact ⟨by simp, rfl⟩
def cmpS (a b : List UInt8) : Int := if Op.bytesLess a b = true then -1 else if (a == b) = true then 0 else 1
theorem cmp_str (a b : ByteArray) (w : World) : Calls Tryz.prog 51 #[.string a, .string b] w fun e w' => e = .returned (.int .i64 (cmpS a.toList b.toList)) ∧ w = w' := by
  unfold cmpS
  have cN := isNaN_str
  by_cases h1 : Op.bytesLess a.toList b.toList = true
  · rw [if_pos h1]
    go_enter Tryz.func51, Tryz.ntmps51
    go_wp2_with (go_at_call 92; refine (cN _ _).mono ?_; rintro e w' ⟨rfl, rfl⟩)
    go_ret
    exact ⟨rfl, rfl⟩
  · have h1 : Op.bytesLess a.toList b.toList = false := by simpa using h1
    rw [if_neg (by rw [h1]; decide)]
    by_cases h2 : (a.toList == b.toList) = true
    · rw [if_pos h2]
      go_enter Tryz.func51, Tryz.ntmps51
      go_wp2_with (go_at_call 92; refine (cN _ _).mono ?_; rintro e w' ⟨rfl, rfl⟩)
      go_ret
      exact ⟨rfl, rfl⟩
    · have h2 : (a.toList == b.toList) = false := Bool.eq_false_iff.mpr h2
      rw [if_neg (by rw [h2]; decide)]
      go_enter Tryz.func51, Tryz.ntmps51
      go_wp2_with (go_at_call 92; refine (cN _ _).mono ?_; rintro e w' ⟨rfl, rfl⟩)
      go_ret
      exact ⟨rfl, rfl⟩
def cmp_Compare_string.f (a b : ByteArray) : Option Int := some (cmpS a.toList b.toList)
theorem cmp_Compare_string.calls (a b : ByteArray) (r : Int) (w : World) (h : cmp_Compare_string.f a b = some r) :
    Calls Tryz.prog 51 #[.string a, .string b] w fun e w' => e = .returned (.int .i64 r) ∧ Drawn0 w w' := by
  obtain rfl := Option.some.inj h
  exact (cmp_str a b w).mono fun e w' ⟨he, hw⟩ => ⟨he, by subst hw; exact Drawn0.refl _⟩
def cmp_Compare_int.f (a b : Int) : Option Int := some (Lib.compareInt a b)
theorem cmp_Compare_int.calls (a b r : Int) (w : World) (h : cmp_Compare_int.f a b = some r) :
    Calls Tryz.prog 50 #[.int .i64 a, .int .i64 b] w fun e w' => e = .returned (.int .i64 r) ∧ Drawn0 w w' := by
  obtain rfl := Option.some.inj h
  exact (Tryz.cmp_Compare_int a b w).mono fun e w' ⟨he, hw⟩ => ⟨he, by subst hw; exact Drawn0.refl _⟩
end Go.Proofs.YtgjboghnnhcgiaaGreatDoor.G
namespace Go.Proofs.YtgjboghnnhcgiaaGreatDoorW.PrintLast
section
variable {P : Program} {ops : Array Oper} {Q : Exit → Act → World → Prop} {md : Region.Mode} {S : World → Prop} {ds : List Nat} {T : Bool × List (List Nat × List Nat)}
end
end Go.Proofs.YtgjboghnnhcgiaaGreatDoorW.PrintLast
namespace Go.Proofs.YtgjboghnnhcgiaaGreatDoorW.PrintWords
open Go.RowKit
section
variable {w w' u : World} {m B g : Nat} {o : Obj} {row : Option Nat} {S : Nat → Prop} {a : Addr} {v : Value}
end
namespace Kd
section
variable {α : Type} {d : Kd α} {e base n m : Nat} {ok : Nat → Prop} {w w' : World} {v : Value} {A : Option Addr} {xs : List α}
end
end Kd
end Go.Proofs.YtgjboghnnhcgiaaGreatDoorW.PrintWords
namespace Go.Proofs.YtgjboghnnhcgiaaGreatDoorW.PrintWords
open Go.RowKit
section
variable {P : Program} {d : Nat} {xs ys : Array Value} {f : Field} {fs : List Field} {a b : Value} {r s : Bool} {w : World}
end
end Go.Proofs.YtgjboghnnhcgiaaGreatDoorW.PrintWords
namespace Go.Proofs.YtgjboghnnhcgiaaGreatDoorW.PrintWords
theorem Reps.one {α : Type} {R : α → List Value → Prop} {ps : List α} {cs : List Value} {p : α} {v : Value} (hp : R p [v]) (h : Reps R 1 ps cs) : Reps R 1 (p :: ps) (v :: cs) := by
  refine ⟨by simp [h.1], fun j q hq => ?_⟩
  cases j with
  | zero =>
    simp only [List.getElem?_cons_zero, Option.some.injEq] at hq
    subst hq
    simpa using hp
  | succ j =>
    simp only [List.getElem?_cons_succ] at hq
    have h1 := h.2 j q hq
    simpa [Nat.mul_one] using h1
theorem Reps.front {α : Type} {R : α → List Value → Prop} {size : Nat} {ps : List α} {cs c all : List Value} {p : α} (hp : R p c) (hc : c.length = size) (h : Reps R size ps cs) (ha : c ++ cs = all) : Reps R size (p :: ps) all := by
  subst ha
  refine ⟨by rw [List.length_append, hc, h.1, List.length_cons, Nat.succ_mul, Nat.add_comm], fun j q hq => ?_⟩
  cases j with
  | zero =>
    simp only [List.getElem?_cons_zero, Option.some.injEq] at hq
    subst hq
    rw [Nat.zero_mul, List.drop_zero, List.take_append_of_le_length (by omega), List.take_of_length_le (by omega)]
    exact hp
  | succ j =>
    simp only [List.getElem?_cons_succ] at hq
    have h1 := h.2 j q hq
    rw [Nat.succ_mul, List.drop_append, List.drop_of_length_le (by rw [hc]; exact Nat.le_add_left _ _), List.nil_append, hc, Nat.add_sub_cancel]
    exact h1
theorem Reps.c2 {α : Type} {R : α → List Value → Prop} {ps : List α} {cs : List Value} {p : α} {va vb : Value} (hp : R p [va, vb]) (h : Reps R 2 ps cs) : Reps R 2 (p :: ps) (va :: vb :: cs) := Reps.front hp rfl h rfl
theorem Reps.c3 {α : Type} {R : α → List Value → Prop} {ps : List α} {cs : List Value} {p : α} {va vb vc : Value} (hp : R p [va, vb, vc]) (h : Reps R 3 ps cs) : Reps R 3 (p :: ps) (va :: vb :: vc :: cs) := Reps.front hp rfl h rfl
theorem Reps.c4 {α : Type} {R : α → List Value → Prop} {ps : List α} {cs : List Value} {p : α} {va vb vc vd : Value} (hp : R p [va, vb, vc, vd]) (h : Reps R 4 ps cs) : Reps R 4 (p :: ps) (va :: vb :: vc :: vd :: cs) := Reps.front hp rfl h rfl
theorem Reps.c5 {α : Type} {R : α → List Value → Prop} {ps : List α} {cs : List Value} {p : α} {va vb vc vd ve : Value} (hp : R p [va, vb, vc, vd, ve]) (h : Reps R 5 ps cs) : Reps R 5 (p :: ps) (va :: vb :: vc :: vd :: ve :: cs) := Reps.front hp rfl h rfl
theorem Reps.c6 {α : Type} {R : α → List Value → Prop} {ps : List α} {cs : List Value} {p : α} {va vb vc vd ve vf : Value} (hp : R p [va, vb, vc, vd, ve, vf]) (h : Reps R 6 ps cs) : Reps R 6 (p :: ps) (va :: vb :: vc :: vd :: ve :: vf :: cs) := Reps.front hp rfl h rfl
theorem Reps.c7 {α : Type} {R : α → List Value → Prop} {ps : List α} {cs : List Value} {p : α} {va vb vc vd ve vf vg : Value} (hp : R p [va, vb, vc, vd, ve, vf, vg]) (h : Reps R 7 ps cs) : Reps R 7 (p :: ps) (va :: vb :: vc :: vd :: ve :: vf :: vg :: cs) := Reps.front hp rfl h rfl
theorem Reps.c8 {α : Type} {R : α → List Value → Prop} {ps : List α} {cs : List Value} {p : α} {va vb vc vd ve vf vg vh : Value} (hp : R p [va, vb, vc, vd, ve, vf, vg, vh]) (h : Reps R 8 ps cs) : Reps R 8 (p :: ps) (va :: vb :: vc :: vd :: ve :: vf :: vg :: vh :: cs) := Reps.front hp rfl h rfl
theorem Reps.c9 {α : Type} {R : α → List Value → Prop} {ps : List α} {cs : List Value} {p : α} {va vb vc vd ve vf vg vh vi : Value} (hp : R p [va, vb, vc, vd, ve, vf, vg, vh, vi]) (h : Reps R 9 ps cs) : Reps R 9 (p :: ps) (va :: vb :: vc :: vd :: ve :: vf :: vg :: vh :: vi :: cs) := Reps.front hp rfl h rfl
theorem Reps.c10 {α : Type} {R : α → List Value → Prop} {ps : List α} {cs : List Value} {p : α} {va vb vc vd ve vf vg vh vi vj : Value} (hp : R p [va, vb, vc, vd, ve, vf, vg, vh, vi, vj]) (h : Reps R 10 ps cs) : Reps R 10 (p :: ps) (va :: vb :: vc :: vd :: ve :: vf :: vg :: vh :: vi :: vj :: cs) := Reps.front hp rfl h rfl
end Go.Proofs.YtgjboghnnhcgiaaGreatDoorW.PrintWords
namespace Go.Proofs.YtgjboghnnhcgiaaGreatDoorW.PrintWords
open Go.RowKit
section
variable {P : Program} {ops : Array Oper} {rest : List Oper} {o : Oper} {a : Act} {Q : Exit → Act → World → Prop} {W : World}
theorem gate_guard (hw : Region.wanted o (yielded ops a.tmps) = true) (h : wpList P ops Q ({ o with guard := none } :: rest) a W) : wpList P ops Q (o :: rest) a W := by
  have h1 : Region.wanted { o with guard := none } (yielded ops a.tmps) = true := rfl
  unfold wpList at h ⊢
  rw [if_pos h1] at h
  rw [if_pos hw]
  exact h
end
end Go.Proofs.YtgjboghnnhcgiaaGreatDoorW.PrintWords
namespace Go.Proofs.YtgjboghnnhcgiaaGreatDoor.U
open Go.RowKit Go.Proofs.YtgjboghnnhcgiaaGreatDoor.G Go.Proofs.YtgjboghnnhcgiaaGreatDoorW.PrintWords Go.Proofs.YtgjboghnnhcgiaaGreatDoorW.PrintLast Go.Proofs.YtgjboghnnhcgiaaGreatDoorW.PrintMore
attribute [local go_sem] max2_int min2_int max_two min_two max_three min_three max_four min_four
set_option linter.unusedVariables false
set_option linter.unusedSimpArgs false
def errW : Option Int → Value
  | none => .nilIface
  | some c => .iface 0 (.int .i64 c)
theorem errW_none : errW none = .nilIface := rfl
theorem errW_some (c : Int) : errW (some c) = .iface 0 (.int .i64 c) := rfl
end Go.Proofs.YtgjboghnnhcgiaaGreatDoor.U
namespace Go.Proofs.YtgjboghnnhcgiaaGreatDoor.U
open Go.RowKit Go.Proofs.YtgjboghnnhcgiaaGreatDoor.G Go.Proofs.YtgjboghnnhcgiaaGreatDoorW.PrintWords Go.Proofs.YtgjboghnnhcgiaaGreatDoorW.PrintLast Go.Proofs.YtgjboghnnhcgiaaGreatDoorW.PrintMore
attribute [local go_sem] max2_int min2_int max_two min_two max_three min_three max_four min_four
set_option linter.unusedVariables false
set_option linter.unusedSimpArgs false
def dec_make0.f (a0 : Bool) (a1 : ByteArray) (a2 : Int) : Option (Bool × ByteArray × Int) := (strings_TrimLeft.f a1 (⟨#[48]⟩ : ByteArray)).bind fun t102 => (if (wrap64 ((wrap64 (a2 + 1)) - (t102.size : Int))) > 0 then ((strings_Repeat.f (⟨#[48]⟩ : ByteArray) (wrap64 ((wrap64 (a2 + 1)) - (t102.size : Int)))).bind fun t103 => (if t103.size + t102.size ≤ 9223372036854775807 then (some (a0, t103 ++ t102, a2)) else (none))) else (some (a0, t102, a2)))
set_option maxHeartbeats 8000000 in
set_option maxRecDepth 100000 in
theorem dec_make0.calls (a0 : Bool) (a1 : ByteArray) (a2 : Int) (r1 : Bool) (r2 : ByteArray) (r3 : Int) (w : World) (h : dec_make0.f a0 a1 a2 = some (r1, r2, r3)) :
    Calls Tryz.prog 46 #[.bool a0, .string a1, .int .i64 a2] w fun e w' => e = .returned (.agg #[.bool r1, .string r2, .int .i64 r3]) ∧ Below w.heap.size w w' := by
  have hu23 := Tryz.underlying23
  have HB := Aside0.mk (Below.refl w.heap.size w)
  have H : ((strings_TrimLeft.f a1 (⟨#[48]⟩ : ByteArray)).bind fun t102 => (if (wrap64 ((wrap64 (a2 + 1)) - (t102.size : Int))) > 0 then ((strings_Repeat.f (⟨#[48]⟩ : ByteArray) (wrap64 ((wrap64 (a2 + 1)) - (t102.size : Int)))).bind fun t103 => (if t103.size + t102.size ≤ 9223372036854775807 then (some (a0, t103 ++ t102, a2)) else (none))) else (some (a0, t102, a2)))) = some (r1, r2, r3) := h
  clear h
  replace H := Option.bind_eq_some_iff.mp H
  obtain ⟨t102, A40, H⟩ := H
  replace H : (if (wrap64 ((wrap64 (a2 + 1)) - (t102.size : Int))) > 0 then ((strings_Repeat.f (⟨#[48]⟩ : ByteArray) (wrap64 ((wrap64 (a2 + 1)) - (t102.size : Int)))).bind fun t103 => (if t103.size + t102.size ≤ 9223372036854775807 then (some (a0, t103 ++ t102, a2)) else (none))) else (some (a0, t102, a2))) = some (r1, r2, r3) := H
  have A4 := Aside0.mk A40
  clear A40
  by_cases c5 : (wrap64 ((wrap64 (a2 + 1)) - (t102.size : Int))) > 0
  · rw [if_pos c5] at H
    have c5b0 : decide (0 < (wrap64 ((wrap64 (a2 + 1)) - (t102.size : Int)))) = true := decide_eq_true c5
    clear c5
    replace H := Option.bind_eq_some_iff.mp H
    obtain ⟨t103, A60, H⟩ := H
    replace H : (if t103.size + t102.size ≤ 9223372036854775807 then (some (a0, t103 ++ t102, a2)) else (none)) = some (r1, r2, r3) := H
    have A6 := Aside0.mk A60
    clear A60
    by_cases c7 : t103.size + t102.size ≤ 9223372036854775807
    · rw [if_pos c7] at H
      try simp only [show wrap64 ((t103.size : Int) + (t102.size : Int)) = (t103.size : Int) + (t102.size : Int) from by unfold wrap64; omega] at *
      have c7b0 := eq_true c7
      have c7b1 : decide (t103.size + t102.size ≤ 9223372036854775807) = true := decide_eq_true c7
      try have c7b2 : (9223372036854775807 < t103.size + t102.size) = False := eq_false (Nat.not_lt.2 c7)
      simp only [Option.some.injEq, Prod.mk.injEq] at H
      obtain ⟨rfl, rfl, rfl⟩ := H
      go_enter Tryz.func46, Tryz.ntmps46
      go_wp2_with (first | ((with_reducible refine gate_dst (N := 6) rfl ?_); refine box_event ?hg (N := 6) ?hd (cs := #[.bool false, .string (⟨#[]⟩ : ByteArray), .int .i64 0]) (t := 23) ?hr ?_; (case hd => rfl); (case hg => rfl); (case hr => first | (go_simp; done) | (go_simp; rfl)); intro gb101 hg w8 hbox hb; have n0_ := Aside0.mk (below_step (by repeat (first | (with_reducible first | exact HB.out | apply below_alloc | apply pw_below_drewN | apply below_drew1) | exact HB.out)) hb); have n1_ := Aside0.mk (hbox); have n2_ := Aside0.mk ((by rw [hg]; exact (below_size (by repeat (first | (with_reducible first | exact HB.out | apply below_alloc | apply pw_below_drewN | apply below_drew1) | exact HB.out))) : w.heap.size ≤ gb101)); have n3_ := Aside0.mk ((by rw [hg]; exact (below_size (by repeat (first | (with_reducible first | exact HB.out | apply below_alloc | apply pw_below_drewN | apply below_drew1) | exact HB.out))) : w.heap.size ≤ gb101)); clear HB; have HB := n0_; have BK101 := n1_; have GW101 := n2_; have GE101 := n3_; clear n0_ n1_ n2_ n3_; clear hb hbox hg) | ((with_reducible refine gate_callee (f := 48) rfl ?_); refine goesL_ (some 9) rfl rfl Tryz.func48 (by kernel_rfl) rfl #[.string a1, .string (⟨#[48]⟩ : ByteArray)] rfl (by (try simp only [List.map_toArray, List.map_cons, List.map_nil]); first | done | rfl | (simp only [List.length_drop, List.length_take]; rfl)) ?_; (with_reducible refine (strings_TrimLeft.calls a1 (⟨#[48]⟩ : ByteArray) t102 _ A4.out).mono ?_); rintro e w9 ⟨rfl, hb⟩; refine ⟨_, rfl, ?_⟩; have n0_ := Aside0.mk (blk_below (g := gb101) (o := .cells #[.bool false, .string (⟨#[]⟩ : ByteArray), .int .i64 0] 23 (0, 0)) (by (with_reducible repeat (first | refine blk_drewN ?_ _ | refine blk_drew ?_ | refine blk_alloc ?_ _)); exact BK101.out) hb); have n1_ := Aside0.mk (below_step (by repeat (first | (with_reducible first | exact HB.out | apply below_alloc | apply pw_below_drewN | apply below_drew1 | refine below_set ?_ GE101.out) | exact HB.out)) hb); clear BK101; clear HB; have BK101 := n0_; have HB := n1_; clear n0_ n1_; (try clear hb); (try clear hb2); (try clear hk); (try clear hi)) | ((with_reducible refine gate_callee (f := 34) rfl ?_); refine goesL_ (some 18) rfl rfl Tryz.func34 (by kernel_rfl) rfl #[.string (⟨#[48]⟩ : ByteArray), .int .i64 (wrap64 ((wrap64 (a2 + 1)) - (t102.size : Int)))] rfl (by (try simp only [List.map_toArray, List.map_cons, List.map_nil]); first | done | rfl | (simp only [List.length_drop, List.length_take]; rfl)) ?_; (with_reducible refine (strings_Repeat.calls (⟨#[48]⟩ : ByteArray) (wrap64 ((wrap64 (a2 + 1)) - (t102.size : Int))) t103 _ A6.out).mono ?_); rintro e w10 ⟨rfl, hb⟩; refine ⟨_, rfl, ?_⟩; have n0_ := Aside0.mk (blk_below (g := gb101) (o := .cells #[.bool false, .string (⟨#[]⟩ : ByteArray), .int .i64 0] 23 (0, 0)) (by (with_reducible repeat (first | refine blk_drewN ?_ _ | refine blk_drew ?_ | refine blk_alloc ?_ _)); exact BK101.out) hb); have n1_ := Aside0.mk (below_step (by repeat (first | (with_reducible first | exact HB.out | apply below_alloc | apply pw_below_drewN | apply below_drew1 | refine below_set ?_ GE101.out) | exact HB.out)) hb); clear BK101; clear HB; have BK101 := n0_; have HB := n1_; clear n0_ n1_; (try clear hb); (try clear hb2); (try clear hk); (try clear hi); have hcz11_0 : w10.cell? ⟨gb101, 0, none⟩ = some (.bool false) := (blk_cell BK101.out 0).trans rfl; have hcz11_1 : w10.cell? ⟨gb101, 1, none⟩ = some (.string (⟨#[]⟩ : ByteArray)) := (blk_cell BK101.out 1).trans rfl; have hcz11_2 : w10.cell? ⟨gb101, 2, none⟩ = some (.int .i64 0) := (blk_cell BK101.out 2).trans rfl; have hfz11_0 := blk_frozen BK101.out 0; have hfz11_1 := blk_frozen BK101.out 1; have hfz11_2 := blk_frozen BK101.out 2))
      refine bodyPost_ret (results_cell_row rfl _ _ gb101 23 #[.bool a0, .string (t103 ++ t102), .int .i64 a2] (0, 0) _ rfl (by (with_reducible repeat (first | refine blk_drewN ?_ _ | refine blk_drew ?_ | refine blk_alloc ?_ _)); refine blk_put (cs := #[.bool a0, .string (t103 ++ t102), .int .i64 0]) ?_ 2 _ rfl; (with_reducible repeat (first | refine blk_drewN ?_ _ | refine blk_drew ?_ | refine blk_alloc ?_ _)); refine blk_put (cs := #[.bool a0, .string (⟨#[]⟩ : ByteArray), .int .i64 0]) ?_ 1 _ rfl; (with_reducible repeat (first | refine blk_drewN ?_ _ | refine blk_drew ?_ | refine blk_alloc ?_ _)); refine blk_put (cs := #[.bool false, .string (⟨#[]⟩ : ByteArray), .int .i64 0]) ?_ 0 _ rfl; (with_reducible repeat (first | refine blk_drewN ?_ _ | refine blk_drew ?_ | refine blk_alloc ?_ _)); exact BK101.out) Tryz.underlying23 rfl (by kernel_rfl)) rfl ?_
      exact ⟨by first | rfl | (simp [errW_none, errW_some] <;> rfl) | (simp [*, errW_none, errW_some] <;> rfl), by repeat (first | (with_reducible first | exact HB.out | apply below_alloc | apply pw_below_drewN | apply below_drew1 | refine below_set ?_ GE101.out) | exact HB.out)⟩
    · rw [if_neg c7] at H
      exact absurd H (by simp)
  · rw [if_neg c5] at H
    have c5b0 : decide (0 < (wrap64 ((wrap64 (a2 + 1)) - (t102.size : Int)))) = false := decide_eq_false c5
    clear c5
    simp only [Option.some.injEq, Prod.mk.injEq] at H
    obtain ⟨rfl, rfl, rfl⟩ := H
    go_enter Tryz.func46, Tryz.ntmps46
    go_wp2_with (first | ((with_reducible refine gate_dst (N := 6) rfl ?_); refine box_event ?hg (N := 6) ?hd (cs := #[.bool false, .string (⟨#[]⟩ : ByteArray), .int .i64 0]) (t := 23) ?hr ?_; (case hd => rfl); (case hg => rfl); (case hr => first | (go_simp; done) | (go_simp; rfl)); intro gb101 hg w12 hbox hb; have n0_ := Aside0.mk (below_step (by repeat (first | (with_reducible first | exact HB.out | apply below_alloc | apply pw_below_drewN | apply below_drew1) | exact HB.out)) hb); have n1_ := Aside0.mk (hbox); have n2_ := Aside0.mk ((by rw [hg]; exact (below_size (by repeat (first | (with_reducible first | exact HB.out | apply below_alloc | apply pw_below_drewN | apply below_drew1) | exact HB.out))) : w.heap.size ≤ gb101)); have n3_ := Aside0.mk ((by rw [hg]; exact (below_size (by repeat (first | (with_reducible first | exact HB.out | apply below_alloc | apply pw_below_drewN | apply below_drew1) | exact HB.out))) : w.heap.size ≤ gb101)); clear HB; have HB := n0_; have BK101 := n1_; have GW101 := n2_; have GE101 := n3_; clear n0_ n1_ n2_ n3_; clear hb hbox hg) | ((with_reducible refine gate_callee (f := 48) rfl ?_); refine goesL_ (some 9) rfl rfl Tryz.func48 (by kernel_rfl) rfl #[.string a1, .string (⟨#[48]⟩ : ByteArray)] rfl (by (try simp only [List.map_toArray, List.map_cons, List.map_nil]); first | done | rfl | (simp only [List.length_drop, List.length_take]; rfl)) ?_; (with_reducible refine (strings_TrimLeft.calls a1 (⟨#[48]⟩ : ByteArray) t102 _ A4.out).mono ?_); rintro e w13 ⟨rfl, hb⟩; refine ⟨_, rfl, ?_⟩; have n0_ := Aside0.mk (blk_below (g := gb101) (o := .cells #[.bool false, .string (⟨#[]⟩ : ByteArray), .int .i64 0] 23 (0, 0)) (by (with_reducible repeat (first | refine blk_drewN ?_ _ | refine blk_drew ?_ | refine blk_alloc ?_ _)); exact BK101.out) hb); have n1_ := Aside0.mk (below_step (by repeat (first | (with_reducible first | exact HB.out | apply below_alloc | apply pw_below_drewN | apply below_drew1 | refine below_set ?_ GE101.out) | exact HB.out)) hb); clear BK101; clear HB; have BK101 := n0_; have HB := n1_; clear n0_ n1_; (try clear hb); (try clear hb2); (try clear hk); (try clear hi); have hcz14_0 : w13.cell? ⟨gb101, 0, none⟩ = some (.bool false) := (blk_cell BK101.out 0).trans rfl; have hcz14_1 : w13.cell? ⟨gb101, 1, none⟩ = some (.string (⟨#[]⟩ : ByteArray)) := (blk_cell BK101.out 1).trans rfl; have hcz14_2 : w13.cell? ⟨gb101, 2, none⟩ = some (.int .i64 0) := (blk_cell BK101.out 2).trans rfl; have hfz14_0 := blk_frozen BK101.out 0; have hfz14_1 := blk_frozen BK101.out 1; have hfz14_2 := blk_frozen BK101.out 2))
    refine bodyPost_ret (results_cell_row rfl _ _ gb101 23 #[.bool a0, .string t102, .int .i64 a2] (0, 0) _ rfl (by (with_reducible repeat (first | refine blk_drewN ?_ _ | refine blk_drew ?_ | refine blk_alloc ?_ _)); refine blk_put (cs := #[.bool a0, .string t102, .int .i64 0]) ?_ 2 _ rfl; (with_reducible repeat (first | refine blk_drewN ?_ _ | refine blk_drew ?_ | refine blk_alloc ?_ _)); refine blk_put (cs := #[.bool a0, .string (⟨#[]⟩ : ByteArray), .int .i64 0]) ?_ 1 _ rfl; (with_reducible repeat (first | refine blk_drewN ?_ _ | refine blk_drew ?_ | refine blk_alloc ?_ _)); refine blk_put (cs := #[.bool false, .string (⟨#[]⟩ : ByteArray), .int .i64 0]) ?_ 0 _ rfl; (with_reducible repeat (first | refine blk_drewN ?_ _ | refine blk_drew ?_ | refine blk_alloc ?_ _)); exact BK101.out) Tryz.underlying23 rfl (by kernel_rfl)) rfl ?_
    exact ⟨by first | rfl | (simp [errW_none, errW_some] <;> rfl) | (simp [*, errW_none, errW_some] <;> rfl), by repeat (first | (with_reducible first | exact HB.out | apply below_alloc | apply pw_below_drewN | apply below_drew1 | refine below_set ?_ GE101.out) | exact HB.out)⟩
end Go.Proofs.YtgjboghnnhcgiaaGreatDoor.U
namespace Go.Proofs.YtgjboghnnhcgiaaGreatDoor
open Go.RowKit Go.Proofs.YtgjboghnnhcgiaaGreatDoorW.PrintWords Go.Proofs.YtgjboghnnhcgiaaGreatDoorW.PrintMore
set_option linter.unusedVariables false
set_option linter.unusedSimpArgs false
def incR : List UInt8 → List UInt8
  | [] => [49]
  | c :: t => if c.toNat < 57 then (c.toNat + 1).toUInt8 :: t else 48 :: incR t
def incL (l : List UInt8) : List UInt8 := (incR l.reverse).reverse
structure Lies (g : Nat) (M : List UInt8) (w : World) : Prop where
  cell : ∀ j c, M[j]? = some c → w.cell? ⟨g, j, none⟩ = some (.int .u8 c.toNat)
  free : ∀ j, j < M.length → w.frozen? ⟨g, j, none⟩ = false
theorem Lies.below {g : Nat} {M : List UInt8} {w w' : World} (h : Lies g M w) (hb : Below w.heap.size w w') (hg : g < w.heap.size) : Lies g M w' :=
  ⟨fun j c hj => by rw [hb.cell (p := ⟨g, j, none⟩) hg]; exact h.cell j c hj, fun j hj => by rw [hb.frozen (p := ⟨g, j, none⟩) hg]; exact h.free j hj⟩
theorem Lies.set {g : Nat} {M : List UInt8} {w : World} (h : Lies g M w) (i : Nat) (hi : i < M.length) (c : UInt8) : Lies g (M.set i c) (w.setCell ⟨g, i, none⟩ (.int .u8 c.toNat)) := by
  refine ⟨fun j x hj => ?_, fun j hj => ?_⟩
  · rw [List.getElem?_set] at hj
    by_cases e : i = j
    · subst e
      rw [if_pos rfl, if_pos hi] at hj
      obtain rfl := Option.some.inj hj
      exact World.cell?_setCell_same _ _ _ (h.cell i _ (List.getElem?_eq_getElem hi))
    · rw [if_neg e] at hj
      rw [World.cell?_setCell_other _ _ ⟨g, j, none⟩ _ (by intro h; exact e (by injection h))]
      exact h.cell j x hj
  · rw [World.frozen?_setCell]
    rw [List.length_set] at hj
    exact h.free j hj
theorem strOfNums_list (l : List UInt8) : strOfNums (l.map fun b => (b.toNat : Int)) = ⟨l.toArray⟩ := by
  apply ByteArray.ext
  apply Array.toList_inj.1
  rw [strOfNums_data, List.map_map]
  show l.map _ = l
  conv => rhs; rw [← List.map_id l]
  exact List.map_congr_left fun b _ => by simp
theorem Lies.str {g : Nat} {M : List UInt8} {w : World} (h : Lies g M w) (cap : Nat) : (convert 118 9 (.slice (some ⟨g, 0, none⟩) M.length cap)).run Tryz.prog w = .ok (.string ⟨M.toArray⟩) w := by
  rw [run_convert_bytes_arg (P := Tryz.prog) w 118 5 Tryz.underlying118 Tryz.underlying5 g 0 M.length cap (M.map fun b => (b.toNat : Int)) (by simp) (fun i hi => by
    rw [Nat.zero_add, h.cell i _ (List.getElem?_eq_getElem hi)]
    simp [List.getD, List.getElem?_eq_getElem hi]) 9 Tryz.underlying9, strOfNums_list]
theorem incL_step (a : List UInt8) (c : UInt8) (j : Nat) (h : 57 ≤ c.toNat) : incL (a ++ [c]) ++ List.replicate j 48 = incL a ++ List.replicate (j + 1) 48 := by
  unfold incL
  rw [List.reverse_append]
  show (incR (c :: a.reverse)).reverse ++ _ = _
  rw [show incR (c :: a.reverse) = if c.toNat < 57 then (c.toNat + 1).toUInt8 :: a.reverse else 48 :: incR a.reverse from rfl, if_neg (by omega)]
  rw [List.reverse_cons, List.append_assoc, List.replicate_succ]
  rfl
theorem incL_stop (a : List UInt8) (c : UInt8) (h : c.toNat < 57) : incL (a ++ [c]) = a ++ [(c.toNat + 1).toUInt8] := by
  unfold incL
  rw [List.reverse_append]
  show (incR (c :: a.reverse)).reverse = _
  rw [show incR (c :: a.reverse) = if c.toNat < 57 then (c.toNat + 1).toUInt8 :: a.reverse else 48 :: incR a.reverse from rfl, if_pos h]
  simp
theorem incL_nil : incL [] = [49] := rfl
theorem Lies.of_own {w : World} {base g n cap : Nat} {l : List UInt8} {xs : List Value} (h : w.ownsRow base 5 1 (.slice (some ⟨g, 0, none⟩) n cap) n xs) (hx : xs = l.map fun c => Value.int .u8 c.toNat) : Lies g l w := by
  rcases h.2 with ⟨h, _⟩ | ⟨g3, cap3, cur, h, _, hh, h2, _, h4, h5⟩
  · cases h
  · injection h with h1 _ _
    injection h1 with h1
    injection h1 with h1
    subst h1
    subst hx
    rw [Nat.mul_one] at h5
    refine ⟨fun j c hj => ?_, fun j hj => Lib.frozen_of_heap hh j⟩
    rw [Lib.cell_of_heap hh]
    have e : (cur.toList.take n)[j]? = some (.int .u8 c.toNat) := by rw [h5, List.getElem?_map, hj]; rfl
    rw [List.getElem?_take] at e
    split at e
    · rw [← Array.getElem?_toList]; exact e
    · cases e
theorem u8Info : (Tryz.prog.info? 5).map (fun i => (i.zero, i.size, i.bytes)) = some (some (.int .u8 0), 1, 1) := by kernel_rfl
set_option maxRecDepth 100000 in
set_option maxHeartbeats 4000000 in
theorem up_any (l : List UInt8) (g cap : Nat) (w : World) (hn : 1 ≤ l.length) (hl : l.length ≤ 1000) (hL : Lies g l w) (hg : g < w.heap.size) :
    Calls Tryz.prog 103 #[.slice (some ⟨g, 0, none⟩) l.length cap] w fun e w' => ∃ g' cap', e = .returned (.slice (some ⟨g', 0, none⟩) (incL l).length cap') ∧ Lies g' (incL l) w' ∧ g' < w'.heap.size ∧ Below g w w' := by
  obtain ⟨R, hR⟩ : ∃ R, incL l = R := ⟨_, rfl⟩
  rw [hR]
  have HR := Lib.hid hR; clear hR
  have HL := Lib.hid hL; clear hL
  go_enter Tryz.func103, Tryz.ntmps103
  go_wp2
  go_loopg [3] l.length (fun gk si wx => ∃ (i : Nat) (z : Int), si = .int .i64 z ∧ z + 1 = i ∧ i ≤ l.length ∧ Lies g (l.take i ++ List.replicate (l.length - i) 48) wx ∧ Below g w wx ∧ incL (l.take i) ++ List.replicate (l.length - i) 48 = R ∧ i ≤ gk)
  case atStart => exact ⟨l.length, (l.length : Int) - 1, rfl, by omega, Nat.le_refl _, by simpa using HL.out, Below.refl _ _, by simpa using HR.out, Nat.le_refl _⟩
  case round =>
    obtain ⟨i, z, rfl, hz, hi, hL, hb, hr, hfu⟩ := hrel
    clear HL HR
    have hsz := hb.size
    have Hr := Lib.hid hr; clear hr
    cases i with
    | zero =>
      obtain rfl : z = -1 := by omega
      have hL0 : Lies g (List.replicate l.length 48) wr := by simpa using hL
      have hR0 : R = 49 :: List.replicate l.length 48 := by rw [← Hr.out]; simp [incL_nil]
      have hnews : ∀ (j : Nat) (u : Value), (List.replicate l.length (Value.int .u8 48))[j]? = some u → (wr.alloc (.cells #[.int .u8 49] 5)).cell? ((⟨g, 0, none⟩ : Addr).add j) = some u := fun j u hj => by
        obtain ⟨hlt, e⟩ := List.getElem?_eq_some_iff.1 hj
        rw [List.length_replicate] at hlt
        rw [List.getElem_replicate] at e
        subst e
        rw [add_plain, World.cell?_alloc_lt _ _ _ (by show g < wr.heap.size; omega)]
        exact hL0.cell j 48 (by rw [List.getElem?_replicate, if_pos hlt])
      have hown : (wr.alloc (.cells #[.int .u8 49] 5)).ownsRow wr.heap.size 5 1 (.slice (some ⟨wr.heap.size, 0, none⟩) 1 1) 1 [.int .u8 49] := ⟨rfl, .inr ⟨wr.heap.size, 1, #[.int .u8 49], rfl, Nat.le_refl _, heap_alloc_new wr _, Nat.le_refl _, by decide, rfl, rfl⟩⟩
      have hone : ∀ u ∈ List.replicate l.length (Value.int .u8 48), u.oneCell' = true := fun u hu => by rw [List.eq_of_mem_replicate hu]; rfl
      have Hone := Lib.hid hone; clear hone
      obtain ⟨i0, hi0, hz0, hz1, hz2⟩ := info_parts u8Info
      have Hn := Lib.hid hnews; clear hnews
      have Ho := Lib.hid hown; clear hown
      have H0 := Lib.hid hL0; clear hL0
      have HR0 := Lib.hid hR0; clear hR0
      clear hL
      go_wp2_with (at_builtin; refine wpList_append_lies _ rfl _ _ 118 rfl wr.heap.size 5 i0 (.int .u8 0) 1 1 Tryz.underlying118 hi0 hz0 hz1 hz2 rfl (by decide) _ _ _ rfl Ho.out ⟨g, 0, none⟩ l.length cap (List.replicate l.length (Value.int .u8 48)) rfl (by simp) Hn.out Hone.out (by omega) (by unfold maxLen; omega) (by omega) (by simp) (wr.heap.size + 1) (by simp) ?_; intro g2 cap2 w1 hown2 hgrow hat hlt)
      go_ret
      have hRl : R.length = 1 + l.length := by rw [HR0.out]; simp; omega
      refine ⟨g2, cap2, ?_, ?_, hlt, ?_⟩
      · rw [hRl]; simp
      · rw [HR0.out]
        have := Lies.of_own (l := 49 :: List.replicate l.length 48) hown2 (by simp)
        exact this
      · exact (hb.alloc (by omega) _).grown hgrow (by simp; omega) (fun k hk => by have e : wr.heap.size = k := Option.some.inj (show some wr.heap.size = some k from hk); omega)
    | succ m =>
      obtain rfl : z = (m : Int) := by omega
      have hml : m < l.length := by omega
      obtain ⟨c, hc⟩ : ∃ c, l[m]? = some c := ⟨_, List.getElem?_eq_getElem hml⟩
      have htk : l.take (m + 1) = l.take m ++ [c] := by rw [List.take_add_one, hc]; rfl
      have hMl : (l.take (m + 1) ++ List.replicate (l.length - (m + 1)) 48).length = l.length := by simp; omega
      have hMm : (l.take (m + 1) ++ List.replicate (l.length - (m + 1)) 48)[m]? = some c := by
        rw [List.getElem?_append_left (by rw [List.length_take]; omega), List.getElem?_take_of_lt (by omega), hc]
      have hcm := hL.cell m c hMm
      have hfm := hL.free m (by rw [hMl]; exact hml)
      have hset : ∀ x : UInt8, (l.take (m + 1) ++ List.replicate (l.length - (m + 1)) 48).set m x = l.take m ++ x :: List.replicate (l.length - (m + 1)) 48 := fun x => by
        rw [htk, List.append_assoc, List.set_append_right _ _ (by rw [List.length_take]; omega), List.length_take, Nat.min_eq_left (by omega), Nat.sub_self]
        rfl
      have hLs : ∀ x : UInt8, Lies g (l.take m ++ x :: List.replicate (l.length - (m + 1)) 48) (wr.setCell ⟨g, m, none⟩ (.int .u8 x.toNat)) := fun x => by
        have := hL.set m (by rw [hMl]; exact hml) x
        rw [hset] at this
        exact this
      have hmz : (m : Int) < (l.length : Int) := by omega
      have hc0 : (0 : Int) ≤ (c.toNat : Int) := by omega
      have Hs := Lib.hid hLs; clear hLs hset hL
      have Hc := Lib.hid hc; clear hc
      have Htk := Lib.hid htk; clear htk
      clear hMl hMm
      by_cases h57 : c.toNat < 57
      · have h57z : (c.toNat : Int) < 57 := by omega
        obtain ⟨f, rfl⟩ : ∃ f, gk = f + 1 := ⟨gk - 1, by omega⟩
        go_wp2
        go_ret
        have hRe : R = l.take m ++ (c.toNat + 1).toUInt8 :: List.replicate (l.length - (m + 1)) 48 := by
          rw [← Hr.out, Htk.out, incL_stop _ _ h57]; simp
        have hRl : R.length = l.length := by rw [hRe]; simp; omega
        have hcn : ((c.toNat + 1).toUInt8.toNat : Int) = (c.toNat : Int) + 1 := by simp [Nat.toUInt8]; omega
        refine ⟨g, cap, ?_, ?_, ?_, ?_⟩
        · show Ending.returned (Value.slice (some ⟨g, 0, none⟩) ↑l.length cap) = _
          rw [hRl]
        · rw [hRe]
          have := Hs.out (c.toNat + 1).toUInt8
          rw [hcn] at this
          exact this
        · simpa using (by omega : g < wr.heap.size)
        · exact hb.setCell (Nat.le_refl _) _
      · have h57z : ¬ (c.toNat : Int) < 57 := by omega
        obtain ⟨f, rfl⟩ : ∃ f, gk = f + 1 := ⟨gk - 1, by omega⟩
        go_wp2
        go_roundg f
        case measure => omega
        case rel =>
          refine ⟨m, (m : Int) - 1, rfl, by omega, by omega, ?_, hb.setCell (Nat.le_refl _) _, ?_, by omega⟩
          · have := Hs.out 48
            rw [show l.length - m = (l.length - (m + 1)) + 1 by omega, List.replicate_succ]
            exact this
          · rw [← Hr.out, Htk.out, incL_step _ _ _ (by omega)]
            rw [show l.length - m = (l.length - (m + 1)) + 1 by omega]
structure RG (w : World) (n : Bool) (W : World) : Prop where
  c0 : W.cell? ⟨w.heap.size, 0, none⟩ = some (.bool n)
  e0 : W.cell? ⟨w.heap.size + 1, 0, none⟩ = some (.bool false)
  e1 : W.cell? ⟨w.heap.size + 1, 1, none⟩ = some (.string ⟨#[]⟩)
  e2 : W.cell? ⟨w.heap.size + 1, 2, none⟩ = some (.int .i64 0)
  fr : ∀ j, W.frozen? ⟨w.heap.size + 1, j, none⟩ = false
  sz : w.heap.size + 1 + 1 < W.heap.size
  bel : Below w.heap.size w W
theorem RG.step {w W W' : World} {n : Bool} (h : RG w n W) (b : Below (w.heap.size + 1 + 1) W W') : RG w n W' where
  c0 := (b.cell (p := ⟨w.heap.size, 0, none⟩) (by show w.heap.size < _; omega)).trans h.c0
  e0 := (b.cell (p := ⟨w.heap.size + 1, 0, none⟩) (by show w.heap.size + 1 < _; omega)).trans h.e0
  e1 := (b.cell (p := ⟨w.heap.size + 1, 1, none⟩) (by show w.heap.size + 1 < _; omega)).trans h.e1
  e2 := (b.cell (p := ⟨w.heap.size + 1, 2, none⟩) (by show w.heap.size + 1 < _; omega)).trans h.e2
  fr := fun j => (b.frozen (p := ⟨w.heap.size + 1, j, none⟩) (by show w.heap.size + 1 < _; omega)).trans (h.fr j)
  sz := Nat.lt_of_lt_of_le h.sz b.size
  bel := h.bel.trans (b.mono (by omega))
attribute [local go_sem] max2_int max_two
set_option maxRecDepth 100000 in
set_option maxHeartbeats 4000000 in
theorem round_more (n : Bool) (d : ByteArray) (k sc ct : Nat) (s : Int) (w : World) (hsc : (if s < 0 then (0 : Int) else s) = (sc : Int)) (hk : k < d.size) (hks : sc < k) (hct : ct + 1 + (k - sc) = d.size) (hd : ∀ c ∈ d.data.toList, 48 ≤ c.toNat ∧ c.toNat ≤ 57) (hs : d.size ≤ 1000)
    (x : UInt8) (hx : d.data.toList[ct]? = some x) (C : Int) (hC : C = -1 ∨ C = 0 ∨ C = 1) (O : Bool)
    (hcC : ∀ W, Calls Tryz.prog 51 #[.string (d.extract (ct + 1) d.size), .string ((⟨#[53]⟩ : ByteArray) ++ ⟨(Lib.repeatL [48] (k - sc - 1)).toArray⟩)] W fun e w' => e = .returned (.int .i64 C) ∧ W = w')
    (hO : (((x.toNat : Int) - 48) % 2 == 1) = O)
    (r1 : Bool) (r2 : ByteArray) (r3 : Int) (hm : U.dec_make0.f n ⟨(if C > 0 ∨ C = 0 ∧ O = true then incL (d.data.toList.take (ct + 1)) else d.data.toList.take (ct + 1)).toArray⟩ sc = some (r1, r2, r3)) :
    Calls Tryz.prog 60 #[decV n d k, .int .i64 s] w fun e w' => e = .returned (.agg #[.bool r1, .string r2, .int .i64 r3]) ∧ Below w.heap.size w w' := by
  unfold decV
  obtain ⟨X, hX⟩ : ∃ X, (w.alloc (.cells #[.bool n, .string d, .int .i64 k] 23)).alloc (.cells #[.bool false, .string ⟨#[]⟩, .int .i64 0] 23) = X := ⟨_, rfl⟩
  have hXs : X.heap.size = w.heap.size + 1 + 1 := by rw [← hX]; simp
  have hXd : X.drew.heap.size = w.heap.size + 1 + 1 := by simpa using hXs
  have bX : Below w.heap.size w X := by rw [← hX]; exact ((Below.refl _ _).alloc (Nat.le_refl _) _).alloc (by simp) _
  have c0 : X.cell? ⟨w.heap.size, 0, none⟩ = some (.bool n) := by rw [← hX]; simp [go_sem]
  have c1 : X.cell? ⟨w.heap.size, 1, none⟩ = some (.string d) := by rw [← hX]; simp [go_sem]
  have c2 : X.cell? ⟨w.heap.size, 2, none⟩ = some (.int .i64 k) := by rw [← hX]; simp [go_sem]
  have d0 : X.cell? ⟨w.heap.size + 1, 0, none⟩ = some (.bool false) := by rw [← hX]; simp [go_sem]
  have d1 : X.cell? ⟨w.heap.size + 1, 1, none⟩ = some (.string ⟨#[]⟩) := by rw [← hX]; simp [go_sem]
  have d2 : X.cell? ⟨w.heap.size + 1, 2, none⟩ = some (.int .i64 0) := by rw [← hX]; simp [go_sem]
  have f0 : ∀ j, X.frozen? ⟨w.heap.size + 1, j, none⟩ = false := fun j => by
    rw [← hX]
    have hh := heap_alloc_new (w.alloc (.cells #[.bool n, .string d, .int .i64 k] 23)) (.cells #[.bool false, .string ⟨#[]⟩, .int .i64 0] 23)
    rw [show (w.alloc (.cells #[.bool n, .string d, .int .i64 k] 23)).heap.size = w.heap.size + 1 by simp] at hh
    exact Lib.frozen_of_heap hh j
  obtain ⟨W2, hW2⟩ : ∃ W2, Lib.bytesWorld X.drew 5 (d.extract 0 (ct + 1)) = W2 := ⟨_, rfl⟩
  have b2 : Below X.heap.size X W2 := by
    rw [← hW2]
    exact ⟨rfl, rfl, rfl, by rw [Lib.bytesWorld_size]; simp, fun i hi => (Lib.bytesWorld_at_old _ _ _ _ (by simpa using hi)).trans rfl⟩
  have hsz : (d.extract 0 (ct + 1)).size = ct + 1 := by simp; omega
  have hdl : (d.extract 0 (ct + 1)).data.toList = d.data.toList.take (ct + 1) := by rw [Lib.extract_data]; simp
  have hL2 : Lies (w.heap.size + 1 + 1) (d.data.toList.take (ct + 1)) W2 := by
    refine ⟨fun j c hj => ?_, fun j hj => ?_⟩
    · rw [← hW2, ← hXd]
      have hlt : j < ct + 1 := by
        have := (List.getElem?_eq_some_iff.1 hj).1
        rw [List.length_take] at this
        omega
      rw [Lib.bytesWorld_cell _ _ _ _ (by rw [hsz]; exact hlt), hdl, List.getD_eq_getElem?_getD, hj]
      rfl
    · rw [← hW2, ← hXd]
      have hlt : j < ct + 1 := by rw [List.length_take] at hj; omega
      have hbs : j < (Lib.bytesCells X.drew 5 (d.extract 0 (ct + 1))).size := by
        simp [Lib.bytesCells]; omega
      simp only [World.frozen?, Lib.bytesWorld_at_new]
      simp; omega
  have hs2 : w.heap.size + 1 + 1 < W2.heap.size := by rw [← hW2, Lib.bytesWorld_size, hXd]; omega
  have cc := fun (a : Addr) (v : Value) (h : X.cell? a = some v) => (b2.cell (p := a) (World.block_lt_of_cell? _ _ h)).trans h
  have hR2 : RG w n W2 := ⟨cc _ _ c0, cc _ _ d0, cc _ _ d1, cc _ _ d2, fun j => (b2.frozen (p := ⟨w.heap.size + 1, j, none⟩) (by show w.heap.size + 1 < X.heap.size; omega)).trans (f0 j), hs2, bX.trans (b2.mono (by omega))⟩
  obtain ⟨CP, hCP⟩ : ∃ CP, grownCap X.drew (d.extract 0 (ct + 1)).size 0 5 = CP := ⟨_, rfl⟩
  have hk1 : (convert 9 118 (.string (d.extract 0 (ct + 1)))).run Tryz.prog X.drew = .ok (.slice (some ⟨w.heap.size + 1 + 1, 0, none⟩) ((ct + 1 : Nat)) CP) W2 := by
    rw [Lib.run_convert_string_bytes (P := Tryz.prog) X.drew 9 118 5 _ Tryz.underlying9 Tryz.underlying118 Tryz.underlying5, hW2, hXd, hCP, hsz]
  have hw1 : W2.cell? ⟨w.heap.size, 1, none⟩ = some (.string d) := cc _ _ c1
  have hcut : (d.size : Int) - ((k : Int) - sc) = (ct : Int) + 1 := by omega
  have hz0 : (0 : Int) ≤ (ct : Int) + 1 := by omega
  have hz1 : (ct : Int) + 1 ≤ (d.size : Int) := by omega
  have hle : (sc : Int) < (k : Int) := by omega
  have hxr := hd x (List.mem_of_getElem? hx)
  have hx0 : (48 : Int) ≤ (x.toNat : Int) := by omega
  have hx9 : (x.toNat : Int) ≤ 57 := by omega
  have hxt : (d.data.toList.take (ct + 1))[ct]? = some x := by rw [List.getElem?_take_of_lt (by omega), hx]
  have hll : (d.data.toList.take (ct + 1)).length = ct + 1 := by
    have := Lib.size_eq d
    rw [List.length_take]; omega
  have cR : ∀ (m : Int) (W : World), 0 ≤ m → m ≤ 1000 → Calls Tryz.prog 34 #[.string ⟨#[48]⟩, .int .i64 m] W fun e w' => e = .returned (.string ⟨(Lib.repeatL [48] m.toNat).toArray⟩) ∧ Below W.heap.size W w' := fun m W h0 h1 => by
    have := Tryz.strings_Repeat ⟨#[48]⟩ m.toNat W (by omega) (by show 1 * m.toNat ≤ _; omega)
    rw [Int.toNat_of_nonneg h0] at this
    exact this
  have cR1 := fun (W : World) => cR (((d.size - (ct + 1) : Nat) : Int) - 1) W (by omega) (by omega)
  rw [show ((((d.size - (ct + 1) : Nat) : Int) - 1)).toNat = k - sc - 1 by omega] at cR1
  clear cR
  obtain ⟨rz, hrz⟩ : ∃ rz : ByteArray, (⟨(Lib.repeatL [48] (k - sc - 1)).toArray⟩ : ByteArray) = rz := ⟨_, rfl⟩
  have hrzs : rz.size ≤ 1000 := by rw [← hrz, Lib.size_eq, Lib.repeatL_length]; show (k - sc - 1) * 1 ≤ 1000; omega
  rw [hrz] at hcC cR1
  clear hrz
  have cU := fun (W : World) h1 h2 => up_any (d.data.toList.take (ct + 1)) (w.heap.size + 1 + 1) CP W (by rw [hll]; omega) (by rw [hll]; omega) h1 h2
  rw [hll] at cU
  have cK := fun (W : World) (h : Lies (w.heap.size + 1 + 1) (d.data.toList.take (ct + 1)) W) => h.str CP
  rw [hll] at cK
  clear hll
  have Hxt := Lib.hid hxt; clear hxt hx hxr
  have HR2 := Lib.hid hR2; clear hR2
  have HL2 := Lib.hid hL2; clear hL2
  have Hm := Lib.hid hm; clear hm
  have Hd := Lib.hid hd; clear hd
  clear cc hs2 b2 hXs hXd bX c0 d0 d1 d2 f0 hsz hdl hCP
  have HW := Lib.hid hW2; clear hW2
  have CK := Lib.hid cK; clear cK
  rcases hC with rfl | rfl | rfl
  rotate_left
  rcases O with _ | _
  rotate_left
  all_goals
    have hm2 := Hm.out
    first | rw [if_pos (by decide)] at hm2 | rw [if_pos (Or.inl (by decide))] at hm2 | rw [if_neg (by decide)] at hm2 | rw [if_neg (fun h => Or.elim h (fun h => absurd h (by decide)) (fun h => absurd h.1 (by decide)))] at hm2
    have cMM := fun W => U.dec_make0.calls n _ sc r1 r2 r3 W hm2
    clear hm2 Hm
    go_enter Tryz.func60, Tryz.ntmps60
    go_wp2
    go_region_with (fail)
    all_goals
      go_wp2_with (first
        | (go_at_call 34; ((with_reducible refine (cR1 _).mono ?_); rintro e W3 ⟨rfl, b3⟩; have h3 := HR2.out.step (b3.mono (Nat.le_of_lt HR2.out.sz)); have L3 := HL2.out.below b3 HR2.out.sz; have q3 := L3.cell ct x Hxt.out; have hk3 := CK.out _ L3; have g0 := h3.c0; have g1 := h3.e0; have g2 := h3.e1; have g3 := h3.e2; have g4 := h3.fr 0; have g5 := h3.fr 1; have g6 := h3.fr 2; have K3 := Lib.hid L3; clear L3; have G3 := Lib.hid h3; clear h3))
        | (go_at_call 51; ((with_reducible refine (hcC _).mono ?_); rintro e W4 ⟨rfl, rfl⟩))
        | (go_at_call 103; ((with_reducible refine (cU _ K3.out G3.out.sz).mono ?_); rintro e W5 ⟨g', cap', rfl, L5, hg5, b5⟩; have h5 := G3.out.step b5; have hk5 := L5.str cap'; have q0 := h5.c0; clear L5; have G5 := Lib.hid h5; clear h5))
        | (go_at_call 46; ((with_reducible refine (cMM _).mono ?_); rintro e W6 ⟨rfl, b6⟩; (first | have h6 := G5.out.step (b6.mono (Nat.le_of_lt G5.out.sz)) | have h6 := G3.out.step (b6.mono (Nat.le_of_lt G3.out.sz))); have p1 := h6.e0; have p2 := h6.e1; have p3 := h6.e2; have p4 := h6.fr 0; have p5 := h6.fr 1; have p6 := h6.fr 2; have b7 := h6.bel; have G6 := Lib.hid h6; clear h6)))
      have y0 := World.cell?_setCell_same W6 ⟨w.heap.size + 1, 0, none⟩ (.bool r1) p1
      have z1 := (World.cell?_setCell_other W6 ⟨w.heap.size + 1, 0, none⟩ ⟨w.heap.size + 1, 1, none⟩ (.bool r1) (by simp)).trans p2
      have y1 := World.cell?_setCell_same (W6.setCell ⟨w.heap.size + 1, 0, none⟩ (.bool r1)) ⟨w.heap.size + 1, 1, none⟩ (.string r2) z1
      have z2 := (World.cell?_setCell_other (W6.setCell ⟨w.heap.size + 1, 0, none⟩ (.bool r1)) ⟨w.heap.size + 1, 1, none⟩ ⟨w.heap.size + 1, 2, none⟩ (.string r2) (by simp)).trans ((World.cell?_setCell_other W6 ⟨w.heap.size + 1, 0, none⟩ ⟨w.heap.size + 1, 2, none⟩ (.bool r1) (by simp)).trans p3)
      have y2 := World.cell?_setCell_same ((W6.setCell ⟨w.heap.size + 1, 0, none⟩ (.bool r1)).setCell ⟨w.heap.size + 1, 1, none⟩ (.string r2)) ⟨w.heap.size + 1, 2, none⟩ (.int .i64 r3) z2
      refine bodyPost_ret (v := .agg #[.bool r1, .string r2, .int .i64 r3]) (by simp [results, Tryz.results60, go_sem, y0, y1, y2]) rfl ?_
      exact ⟨rfl, ((b7.setCell (by simp) _).setCell (by simp) _).setCell (by simp) _⟩
end Go.Proofs.YtgjboghnnhcgiaaGreatDoor
namespace Go.Proofs.YtgjboghnnhcgiaaGreatDoor.G
open Go.RowKit Go.Proofs.YtgjboghnnhcgiaaGreatDoor Go.Proofs.YtgjboghnnhcgiaaGreatDoorW.PrintWords Go.Proofs.YtgjboghnnhcgiaaGreatDoorW.PrintMore
set_option linter.unusedVariables false
set_option linter.unusedSimpArgs false
attribute [local go_sem] max2_int max_two
set_option maxRecDepth 100000 in
theorem round_same (n : Bool) (d : ByteArray) (k : Int) (sc : Int) (s : Int) (w : World) (hsc : (if s < 0 then (0 : Int) else s) = sc) (hks : k ≤ sc) :
    Calls Tryz.prog 60 #[decV n d k, .int .i64 s] w fun e w' => e = .returned (decV n d k) ∧ Below w.heap.size w w' := by
  unfold decV
  have bX : Below w.heap.size w ((w.alloc (.cells #[.bool n, .string d, .int .i64 k] 23)).alloc (.cells #[.bool false, .string ⟨#[]⟩, .int .i64 0] 23)) := ((Below.refl _ _).alloc (Nat.le_refl _) _).alloc (by simp) _
  go_enter Tryz.func60, Tryz.ntmps60
  go_wp2
  go_returns
  exact ⟨rfl, ((Below.refl _ _).alloc (Nat.le_refl _) _).alloc (by simp) _⟩
def digB (d : ByteArray) : Bool := d.data.toList.all fun c => decide (48 ≤ c.toNat) && decide (c.toNat ≤ 57)
theorem digB_at {d : ByteArray} (h : digB d = true) : ∀ c ∈ d.data.toList, 48 ≤ c.toNat ∧ c.toNat ≤ 57 := fun c hc => by
  have := List.all_eq_true.1 h c hc
  simpa using this
def roundL (D : List UInt8) (k sc : Nat) : List UInt8 :=
  if cmpS (D.drop (D.length - (k - sc))) (53 :: List.replicate (k - sc - 1) 48) > 0 ∨ cmpS (D.drop (D.length - (k - sc))) (53 :: List.replicate (k - sc - 1) 48) = 0 ∧ ((D.getD (D.length - (k - sc) - 1) 0).toNat - 48) % 2 = 1
  then incL (D.take (D.length - (k - sc))) else D.take (D.length - (k - sc))
def rndOk (a1 : ByteArray) (a2 : Int) : Bool := decide (0 ≤ a2) && decide (a2 < a1.size) && decide (a1.size ≤ 1000) && digB a1
def dec_Dec_Round.f (a0 : Bool) (a1 : ByteArray) (a2 a3 : Int) : Option (Bool × ByteArray × Int) :=
  if rndOk a1 a2 = true then (if a2 ≤ (if a3 < 0 then (0 : Int) else a3) then some (a0, a1, a2)
    else U.dec_make0.f a0 ⟨(roundL a1.data.toList a2.toNat (if a3 < 0 then (0 : Int) else a3).toNat).toArray⟩ (if a3 < 0 then (0 : Int) else a3)) else none
theorem if_iff {α : Type} {p q : Prop} [Decidable p] [Decidable q] (h : p ↔ q) {a b : α} : (if p then a else b) = if q then a else b := by
  by_cases hp : p
  · rw [if_pos hp, if_pos (h.1 hp)]
  · rw [if_neg hp, if_neg (fun hq => hp (h.2 hq))]
theorem cmpS_or (a b : List UInt8) : cmpS a b = -1 ∨ cmpS a b = 0 ∨ cmpS a b = 1 := by
  unfold cmpS
  split
  · exact Or.inl rfl
  · split
    · exact Or.inr (Or.inl rfl)
    · exact Or.inr (Or.inr rfl)
theorem repeatL_one (c : UInt8) : ∀ m, Lib.repeatL [c] m = List.replicate m c
  | 0 => rfl
  | m + 1 => by
    show [c] ++ Lib.repeatL [c] m = _
    rw [repeatL_one c m, List.replicate_succ]
    rfl
theorem dec_Dec_Round.calls (a0 : Bool) (a1 : ByteArray) (a2 a3 : Int) (r1 : Bool) (r2 : ByteArray) (r3 : Int) (w : World) (h : dec_Dec_Round.f a0 a1 a2 a3 = some (r1, r2, r3)) :
    Calls Tryz.prog 60 #[.agg #[.bool a0, .string a1, .int .i64 a2], .int .i64 a3] w fun e w' => e = .returned (.agg #[.bool r1, .string r2, .int .i64 r3]) ∧ Below w.heap.size w w' := by
  unfold dec_Dec_Round.f at h
  by_cases hok : rndOk a1 a2 = true
  · rw [if_pos hok] at h
    obtain ⟨⟨⟨h0, h1⟩, h2⟩, hd⟩ : ((0 ≤ a2 ∧ a2 < a1.size) ∧ a1.size ≤ 1000) ∧ digB a1 = true := by simpa [rndOk] using hok
    obtain ⟨s, hs⟩ : ∃ s, (if a3 < 0 then (0 : Int) else a3) = s := ⟨_, rfl⟩
    have hs0 : 0 ≤ s := by rw [← hs]; split <;> omega
    rw [hs] at h
    by_cases hk : a2 ≤ s
    · rw [if_pos hk] at h
      obtain ⟨rfl, g⟩ := Prod.mk.inj (Option.some.inj h)
      obtain ⟨rfl, rfl⟩ := Prod.mk.inj g
      exact round_same a0 a1 a2 s a3 w hs hk
    · rw [if_neg hk] at h
      obtain ⟨k, rfl⟩ := Int.eq_ofNat_of_zero_le h0
      obtain ⟨sc, rfl⟩ := Int.eq_ofNat_of_zero_le hs0
      rw [Int.toNat_natCast, Int.toNat_natCast] at h
      have hD := digB_at hd
      have hl : a1.data.toList.length = a1.size := (Lib.size_eq a1).symm
      obtain ⟨ct, hct⟩ : ∃ ct, ct + 1 + (k - sc) = a1.size := ⟨a1.size - (k - sc) - 1, by omega⟩
      obtain ⟨x, hx⟩ : ∃ x, a1.data.toList[ct]? = some x := ⟨_, List.getElem?_eq_getElem (by omega)⟩
      have e1 : (a1.extract (ct + 1) a1.size).toList = a1.data.toList.drop (ct + 1) := by rw [Lib.toList_data, Lib.extract_to_end]
      have e2 : ((⟨#[53]⟩ : ByteArray) ++ ⟨(Lib.repeatL [48] (k - sc - 1)).toArray⟩).toList = 53 :: List.replicate (k - sc - 1) 48 := by
        rw [Lib.toList_data, ByteArray.data_append, Array.toList_append, repeatL_one]
        rfl
      have hcut : a1.data.toList.length - (k - sc) = ct + 1 := by omega
      refine round_more a0 a1 k sc ct a3 w hs (by omega) (by omega) hct hD h2 x hx (cmpS (a1.data.toList.drop (ct + 1)) (53 :: List.replicate (k - sc - 1) 48)) (cmpS_or _ _) ((((x.toNat : Int) - 48) % 2 == 1)) ?_ rfl r1 r2 r3 ?_
      · intro W
        have := cmp_str (a1.extract (ct + 1) a1.size) ((⟨#[53]⟩ : ByteArray) ++ ⟨(Lib.repeatL [48] (k - sc - 1)).toArray⟩) W
        rw [e1, e2] at this
        exact this
      · unfold roundL at h
        rw [hcut, show ct + 1 - 1 = ct by omega, List.getD_eq_getElem?_getD, hx, Option.getD_some] at h
        have hxr := hD x (List.mem_of_getElem? hx)
        have e3 : ((((x.toNat : Int) - 48) % 2 == 1) = true) = ((x.toNat - 48) % 2 = 1) := by
          rw [beq_iff_eq, eq_iff_iff]; omega
        rw [if_iff (or_congr Iff.rfl (and_congr Iff.rfl (iff_of_eq e3)))]
        exact h
  · rw [if_neg hok] at h
    exact absurd h (by simp)
end Go.Proofs.YtgjboghnnhcgiaaGreatDoor.G
namespace Go.Proofs.YtgjboghnnhcgiaaGreatDoor
open Go.RowKit Go.Proofs.YtgjboghnnhcgiaaGreatDoor.M
set_option linter.unusedVariables false
set_option linter.unusedSimpArgs false
theorem below_grown {w W W1 : World} {B b : Nat} (h : Below B w W) (hg : W.grownBy W1 (some b)) (hB : B ≤ b) (hw : B ≤ w.heap.size) : Below B w W1 :=
  ⟨hg.os.trans h.os, hg.tape.trans h.tape, hg.output.trans h.output, Nat.le_trans h.size hg.size, fun j hj => (hg.block j (Nat.lt_of_lt_of_le hj (Nat.le_trans hw h.size)) (fun e => by cases e; omega)).trans (h.block j hj)⟩
set_option maxRecDepth 100000 in
theorem default_any (w : World) : Calls Tryz.prog 24 #[] w fun e w' => e = .returned (optV 1 0 3 false false) ∧ Below w.heap.size w w' := by
  unfold optV
  have b1 := (Below.refl w.heap.size w).alloc (Nat.le_refl _) (.cells #[.int .i64 1, .int .i64 0, .int .i64 3, .bool false, .bool false] 28)
  go_enter Tryz.func24, Tryz.ntmps24
  go_wp2
  go_returns
  exact ⟨rfl, (Below.refl w.heap.size w).alloc (Nat.le_refl _) _⟩
def d5 : ByteArray := ⟨#[49, 50, 51, 52, 53]⟩
structure Hd (w : World) (cnt : Int) (W : World) : Prop where
  mks : Mks w.heap.size cnt W
  blk : W.heap[w.heap.size + 1]? = some (.cells #[.bool false, .string d5, .int .i64 1] 23 (0, 0))
  bel : Below w.heap.size w W
theorem Hd.step {w W W1 : World} {cnt : Int} (h : Hd w cnt W) (c : Below W.heap.size W W1) : Hd w cnt W1 := ⟨h.mks.step c, below_blockOf c (Nat.le_refl _) h.blk, below_on h.bel c h.bel.size⟩
theorem Hd.drew {w W : World} {cnt : Int} (h : Hd w cnt W) : Hd w cnt W.drew := h.step ((Below.refl _ _).drew)
theorem Hd.of {w W W1 : World} {cnt c1 : Int} (h : Hd w cnt W) (hm : Mks w.heap.size c1 W1) (hg : W.grownBy W1 (some w.heap.size)) : Hd w c1 W1 :=
  ⟨hm, (hg.block _ (Array.getElem?_eq_some_iff.1 h.blk).1 (fun e => by have := Option.some.inj e; omega)).trans h.blk, below_grown h.bel hg (Nat.le_refl _) (Nat.le_refl _)⟩
theorem Hd.get {w W : World} {cnt : Int} (h : Hd w cnt W) : W.cell? ⟨w.heap.size + 1, 0, none⟩ = some (.bool false) ∧ W.cell? ⟨w.heap.size + 1, 1, none⟩ = some (.string d5) ∧ W.cell? ⟨w.heap.size + 1, 2, none⟩ = some (.int .i64 1) :=
  ⟨(Lib.cell_of_heap h.blk 0).trans rfl, (Lib.cell_of_heap h.blk 1).trans rfl, (Lib.cell_of_heap h.blk 2).trans rfl⟩
theorem Hd.lt {w W : World} {cnt : Int} (h : Hd w cnt W) : w.heap.size < W.heap.size := by
  have := (Array.getElem?_eq_some_iff.1 h.blk).1
  omega
end Go.Proofs.YtgjboghnnhcgiaaGreatDoor
namespace Go.Proofs.YtgjboghnnhcgiaaGreatDoor
open Go.RowKit Go.Proofs.YtgjboghnnhcgiaaGreatDoorW.PrintWords Go.Proofs.YtgjboghnnhcgiaaGreatDoorW.PrintLast
set_option linter.unusedVariables false
set_option linter.unusedSimpArgs false
def vnC (z : Bool) (n : Bool) (D : ByteArray) (k : Int) : Array Value := valC (if z = true then 1 else 0) ⟨#[]⟩ (if z = true then n else false) (if z = true then D else ⟨#[]⟩) (if z = true then k else 0) (if z = true then 1 else 0) 0 (if z = true then 3 else 0) false false 0 0
def VnI (w0 : World) (z n : Bool) (D : ByteArray) (k : Int) (W : World) : Prop := Own w0 [(w0.heap.size + 1, .cells (vnC z n D k) 31 (0, 0)), (w0.heap.size, .cells #[.bool n, .string D, .int .i64 k] 23 (0, 0))] W
theorem VnI.drew {w0 : World} {z n : Bool} {D : ByteArray} {k : Int} {W : World} (h : VnI w0 z n D k W) : VnI w0 z n D k W.drew := Own.drew h
theorem VnI.step {w0 : World} {z n : Bool} {D : ByteArray} {k : Int} {W W1 : World} (h : VnI w0 z n D k W) (b : Below W.heap.size W W1) : VnI w0 z n D k W1 := Own.step h b
theorem VnI.res {w0 : World} {z n : Bool} {D : ByteArray} {k : Int} {W : World} (h : VnI w0 z n D k W) (j : Nat) (hj : j < 12) : ∃ v, W.cell? ⟨w0.heap.size + 1, j, none⟩ = some v := ⟨_, (Own.c h 0 j rfl (Array.getElem?_eq_getElem (by show j < 12; exact hj)))⟩
theorem VnI.put {w0 : World} {z n : Bool} {D : ByteArray} {k : Int} {W : World} (h : VnI w0 z n D k W) : VnI w0 true n D k ((((((((((((W.setCell ⟨w0.heap.size + 1, 0, none⟩ (.int .i64 1)).setCell ⟨w0.heap.size + 1, 1, none⟩ (.string ⟨#[]⟩)).setCell ⟨w0.heap.size + 1, 2, none⟩ (.bool n)).setCell ⟨w0.heap.size + 1, 3, none⟩ (.string D)).setCell ⟨w0.heap.size + 1, 4, none⟩ (.int .i64 k)).setCell ⟨w0.heap.size + 1, 5, none⟩ (.int .i64 1)).setCell ⟨w0.heap.size + 1, 6, none⟩ (.int .i64 0)).setCell ⟨w0.heap.size + 1, 7, none⟩ (.int .i64 3)).setCell ⟨w0.heap.size + 1, 8, none⟩ (.bool false)).setCell ⟨w0.heap.size + 1, 9, none⟩ (.bool false)).setCell ⟨w0.heap.size + 1, 10, none⟩ (.int .i64 0)).setCell ⟨w0.heap.size + 1, 11, none⟩ (.int .i64 0)) := by
  exact Own.setAll h 0 [.int .i64 1, .string ⟨#[]⟩, .bool n, .string D, .int .i64 k, .int .i64 1, .int .i64 0, .int .i64 3, .bool false, .bool false, .int .i64 0, .int .i64 0] rfl rfl
def num_one.T : Bool × List (List Nat × List Nat) := (true, [([], []), ([], []), ([0, 1], [0, 1]), ([2, 1, 0, 1, 2], [2])])
def num_one.B : List Nat := [0, 0, 3, 7]
theorem num_one.tab : rtab .any (opsOf Tryz.f8 1) = num_one.T := by kernel_rfl
theorem num_one.bits : waitsOk num_one.T.2 num_one.B = true := by kernel_rfl
set_option maxRecDepth 100000 in
set_option maxHeartbeats 4000000 in
theorem num_one (w0 : World) (n : Bool) (D : ByteArray) (k : Int) (cD : ∀ W, Calls Tryz.prog 24 #[] W fun e w' => e = .returned (.agg #[.int .i64 1, .int .i64 0, .int .i64 3, .bool false, .bool false]) ∧ Below W.heap.size W w') (a0 : Act) (s1 : a0.tmps[1]? = some (.pointer (some ⟨w0.heap.size, 0, none⟩))) (s2 : a0.tmps[2]? = some (.pointer (some ⟨w0.heap.size + 1, 0, none⟩))) (hsz : a0.tmps.size = Tryz.f8.ntmps) (W : World) (hI : VnI w0 ((fun _ => false) 3) n D k W.drew) (Q : Exit → Act → World → Prop) (hend : ∀ (a9 : Act) w', VnI w0 ((fun _ => true) 3) n D k w' → a9 = putSel a0 (fun _ => true) [(0, 3, .agg #[.bool n, .string D, .int .i64 k]), (1, 4, .agg #[.int .i64 1, .int .i64 0, .int .i64 3, .bool false, .bool false]), (2, 5, .agg #[.int .i64 1, .string ⟨#[]⟩, .bool n, .string D, .int .i64 k, .int .i64 1, .int .i64 0, .int .i64 3, .bool false, .bool false, .int .i64 0, .int .i64 0])] → a9.defers = a0.defers → Q .normal a9 w') :
    (Code.region 1 #[{ dst := some 3, op := Op.load 23 (Operand.tmp 1), type := 23, pos := "value.go:35", after := #[], guard := none }, { dst := some 4, op := Op.call { callee := Callee.value (Operand.func 24), args := #[], argTypes := #[] }, type := 28, pos := "value.go:35", after := #[], guard := none }, { dst := some 5, op := Op.build 31 #[(0, Operand.const (Value.int IntKind.i64 1)), (2, Operand.tmp 3), (3, Operand.tmp 4)], type := 31, pos := "value.go:35", after := #[{ on := 0, ground := Ground.data }, { on := 1, ground := Ground.data }], guard := none }, { dst := none, op := Op.store 31 (Operand.tmp 2) (Operand.tmp 5), type := 0, pos := "value.go:35", after := #[{ on := 2, ground := Ground.data }, { on := 1, ground := Ground.chain }, { on := 0, ground := Ground.phase }, { on := 1, ground := Ground.phase }, { on := 2, ground := Ground.phase }], guard := none }] true).wp Tryz.prog Q a0 W := by
  refine start_ (n := 4) (S := fun w' => True) (ds := []) #[false, false, false, false] (by kernel_rfl) rfl rfl trivial (fun hHeld => ?_)
  refine with_tabW num_one.tab num_one.bits (fun HT_ HW_ => ?_)
  refine inv_at [0, 1, 2, 3] (fun a0_ b a w' => a = putSel a0_ b [(0, 3, .agg #[.bool n, .string D, .int .i64 k]), (1, 4, .agg #[.int .i64 1, .int .i64 0, .int .i64 3, .bool false, .bool false]), (2, 5, .agg #[.int .i64 1, .string ⟨#[]⟩, .bool n, .string D, .int .i64 k, .int .i64 1, .int .i64 0, .int .i64 3, .bool false, .bool false, .int .i64 0, .int .i64 0])] ∧ (VnI w0 (b 3) n D k w')) HT_.out HW_.out (by kernel_rfl) (by kernel_rfl) ?_ ?_ ?_
  · exact ⟨(by simp only [putSel, Bool.false_eq_true, if_false]), hI⟩
  · clear hI hend hHeld
    refine steps_cons ?_ ?_
    · rintro b a w' ⟨ha, hI⟩ hb_ hon hoff
      refine ⟨_, rfl, fun K hK => ?_⟩
      have e1 : a.tmps[1]? = some (.pointer (some ⟨w0.heap.size, 0, none⟩)) := by rw [ha]; exact (putSel_off rfl).trans s1
      replace ha := Aside0.mk ha
      have p0 := Own.c hI 1 0 rfl rfl
      have p1 := Own.c hI 1 1 rfl rfl
      have p2 := Own.c hI 1 2 rfl rfl
      obtain ⟨v0, r0⟩ := hI.res 0 (by decide)
      have z0 := Own.fz hI 0 0 rfl
      obtain ⟨v1, r1⟩ := hI.res 1 (by decide)
      have z1 := Own.fz hI 0 1 rfl
      obtain ⟨v2, r2⟩ := hI.res 2 (by decide)
      have z2 := Own.fz hI 0 2 rfl
      obtain ⟨v3, r3⟩ := hI.res 3 (by decide)
      have z3 := Own.fz hI 0 3 rfl
      obtain ⟨v4, r4⟩ := hI.res 4 (by decide)
      have z4 := Own.fz hI 0 4 rfl
      obtain ⟨v5, r5⟩ := hI.res 5 (by decide)
      have z5 := Own.fz hI 0 5 rfl
      obtain ⟨v6, r6⟩ := hI.res 6 (by decide)
      have z6 := Own.fz hI 0 6 rfl
      obtain ⟨v7, r7⟩ := hI.res 7 (by decide)
      have z7 := Own.fz hI 0 7 rfl
      obtain ⟨v8, r8⟩ := hI.res 8 (by decide)
      have z8 := Own.fz hI 0 8 rfl
      obtain ⟨v9, r9⟩ := hI.res 9 (by decide)
      have z9 := Own.fz hI 0 9 rfl
      obtain ⟨v10, r10⟩ := hI.res 10 (by decide)
      have z10 := Own.fz hI 0 10 rfl
      obtain ⟨v11, r11⟩ := hI.res 11 (by decide)
      have z11 := Own.fz hI 0 11 rfl
      skip
      refine value_ (w1 := w') (v := .agg #[.bool n, .string D, .int .i64 k]) (by rfl) rfl ?_ ?_
      · go_simp; try rfl
        all_goals (try (simp only [IntKind.wrap_i64]; omega))
      exact hK.out _ _ ⟨(by rw [ha.out]; exact putSel_upk 0 hb_ rfl rfl rfl), hI⟩
    refine steps_cons ?_ ?_
    · rintro b a w' ⟨ha, hI⟩ hb_ hon hoff
      refine ⟨_, rfl, fun K hK => ?_⟩
      replace ha := Aside0.mk ha
      have p0 := Own.c hI 1 0 rfl rfl
      have p1 := Own.c hI 1 1 rfl rfl
      have p2 := Own.c hI 1 2 rfl rfl
      obtain ⟨v0, r0⟩ := hI.res 0 (by decide)
      have z0 := Own.fz hI 0 0 rfl
      obtain ⟨v1, r1⟩ := hI.res 1 (by decide)
      have z1 := Own.fz hI 0 1 rfl
      obtain ⟨v2, r2⟩ := hI.res 2 (by decide)
      have z2 := Own.fz hI 0 2 rfl
      obtain ⟨v3, r3⟩ := hI.res 3 (by decide)
      have z3 := Own.fz hI 0 3 rfl
      obtain ⟨v4, r4⟩ := hI.res 4 (by decide)
      have z4 := Own.fz hI 0 4 rfl
      obtain ⟨v5, r5⟩ := hI.res 5 (by decide)
      have z5 := Own.fz hI 0 5 rfl
      obtain ⟨v6, r6⟩ := hI.res 6 (by decide)
      have z6 := Own.fz hI 0 6 rfl
      obtain ⟨v7, r7⟩ := hI.res 7 (by decide)
      have z7 := Own.fz hI 0 7 rfl
      obtain ⟨v8, r8⟩ := hI.res 8 (by decide)
      have z8 := Own.fz hI 0 8 rfl
      obtain ⟨v9, r9⟩ := hI.res 9 (by decide)
      have z9 := Own.fz hI 0 9 rfl
      obtain ⟨v10, r10⟩ := hI.res 10 (by decide)
      have z10 := Own.fz hI 0 10 rfl
      obtain ⟨v11, r11⟩ := hI.res 11 (by decide)
      have z11 := Own.fz hI 0 11 rfl
      skip
      refine goes_ Tryz.func24 (by kernel_rfl) rfl #[] (by rfl) rfl rfl (by first | (simp only [List.map_toArray, List.map_cons, List.map_nil, Act.eval, Array.getD_eq_getD_getElem?, Option.getD_some, ]; done) | (simp only [List.map_toArray, List.map_cons, List.map_nil, Act.eval, Array.getD_eq_getD_getElem?, Option.getD_some, ]; rfl)) ?_
      refine (cD w').mono ?_
      rintro e w1 ⟨rfl, b1⟩; have hI1 := hI.step b1
      exact ⟨_, rfl, hK.out _ _ ⟨(by rw [ha.out]; exact putSel_upk 1 hb_ rfl rfl rfl), hI1⟩⟩
    refine steps_cons ?_ ?_
    · rintro b a w' ⟨ha, hI⟩ hb_ hon hoff
      refine ⟨_, rfl, fun K hK => ?_⟩
      have e3 : a.tmps[3]? = some (.agg #[.bool n, .string D, .int .i64 k]) := by rw [ha]; exact putSel_on (e := (0, 3, .agg #[.bool n, .string D, .int .i64 k])) 0 rfl rfl (hon 0 (by kernel_rfl)) (by rw [hsz]; rfl)
      have e4 : a.tmps[4]? = some (.agg #[.int .i64 1, .int .i64 0, .int .i64 3, .bool false, .bool false]) := by rw [ha]; exact putSel_on (e := (1, 4, .agg #[.int .i64 1, .int .i64 0, .int .i64 3, .bool false, .bool false])) 1 rfl rfl (hon 1 (by kernel_rfl)) (by rw [hsz]; rfl)
      replace ha := Aside0.mk ha
      have p0 := Own.c hI 1 0 rfl rfl
      have p1 := Own.c hI 1 1 rfl rfl
      have p2 := Own.c hI 1 2 rfl rfl
      obtain ⟨v0, r0⟩ := hI.res 0 (by decide)
      have z0 := Own.fz hI 0 0 rfl
      obtain ⟨v1, r1⟩ := hI.res 1 (by decide)
      have z1 := Own.fz hI 0 1 rfl
      obtain ⟨v2, r2⟩ := hI.res 2 (by decide)
      have z2 := Own.fz hI 0 2 rfl
      obtain ⟨v3, r3⟩ := hI.res 3 (by decide)
      have z3 := Own.fz hI 0 3 rfl
      obtain ⟨v4, r4⟩ := hI.res 4 (by decide)
      have z4 := Own.fz hI 0 4 rfl
      obtain ⟨v5, r5⟩ := hI.res 5 (by decide)
      have z5 := Own.fz hI 0 5 rfl
      obtain ⟨v6, r6⟩ := hI.res 6 (by decide)
      have z6 := Own.fz hI 0 6 rfl
      obtain ⟨v7, r7⟩ := hI.res 7 (by decide)
      have z7 := Own.fz hI 0 7 rfl
      obtain ⟨v8, r8⟩ := hI.res 8 (by decide)
      have z8 := Own.fz hI 0 8 rfl
      obtain ⟨v9, r9⟩ := hI.res 9 (by decide)
      have z9 := Own.fz hI 0 9 rfl
      obtain ⟨v10, r10⟩ := hI.res 10 (by decide)
      have z10 := Own.fz hI 0 10 rfl
      obtain ⟨v11, r11⟩ := hI.res 11 (by decide)
      have z11 := Own.fz hI 0 11 rfl
      skip
      refine value_ (w1 := w') (v := .agg #[.int .i64 1, .string ⟨#[]⟩, .bool n, .string D, .int .i64 k, .int .i64 1, .int .i64 0, .int .i64 3, .bool false, .bool false, .int .i64 0, .int .i64 0]) (by rfl) rfl ?_ ?_
      · go_simp; try rfl
        all_goals (try (simp only [IntKind.wrap_i64]; omega))
      exact hK.out _ _ ⟨(by rw [ha.out]; exact putSel_upk 2 hb_ rfl rfl rfl), hI⟩
    refine steps_cons ?_ ?_
    · rintro b a w' ⟨ha, hI⟩ hb_ hon hoff
      refine ⟨_, rfl, fun K hK => ?_⟩
      have e2 : a.tmps[2]? = some (.pointer (some ⟨w0.heap.size + 1, 0, none⟩)) := by rw [ha]; exact (putSel_off rfl).trans s2
      have e5 : a.tmps[5]? = some (.agg #[.int .i64 1, .string ⟨#[]⟩, .bool n, .string D, .int .i64 k, .int .i64 1, .int .i64 0, .int .i64 3, .bool false, .bool false, .int .i64 0, .int .i64 0]) := by rw [ha]; exact putSel_on (e := (2, 5, .agg #[.int .i64 1, .string ⟨#[]⟩, .bool n, .string D, .int .i64 k, .int .i64 1, .int .i64 0, .int .i64 3, .bool false, .bool false, .int .i64 0, .int .i64 0])) 2 rfl rfl (hon 2 (by kernel_rfl)) (by rw [hsz]; rfl)
      replace ha := Aside0.mk ha
      have p0 := Own.c hI 1 0 rfl rfl
      have p1 := Own.c hI 1 1 rfl rfl
      have p2 := Own.c hI 1 2 rfl rfl
      obtain ⟨v0, r0⟩ := hI.res 0 (by decide)
      have z0 := Own.fz hI 0 0 rfl
      obtain ⟨v1, r1⟩ := hI.res 1 (by decide)
      have z1 := Own.fz hI 0 1 rfl
      obtain ⟨v2, r2⟩ := hI.res 2 (by decide)
      have z2 := Own.fz hI 0 2 rfl
      obtain ⟨v3, r3⟩ := hI.res 3 (by decide)
      have z3 := Own.fz hI 0 3 rfl
      obtain ⟨v4, r4⟩ := hI.res 4 (by decide)
      have z4 := Own.fz hI 0 4 rfl
      obtain ⟨v5, r5⟩ := hI.res 5 (by decide)
      have z5 := Own.fz hI 0 5 rfl
      obtain ⟨v6, r6⟩ := hI.res 6 (by decide)
      have z6 := Own.fz hI 0 6 rfl
      obtain ⟨v7, r7⟩ := hI.res 7 (by decide)
      have z7 := Own.fz hI 0 7 rfl
      obtain ⟨v8, r8⟩ := hI.res 8 (by decide)
      have z8 := Own.fz hI 0 8 rfl
      obtain ⟨v9, r9⟩ := hI.res 9 (by decide)
      have z9 := Own.fz hI 0 9 rfl
      obtain ⟨v10, r10⟩ := hI.res 10 (by decide)
      have z10 := Own.fz hI 0 10 rfl
      obtain ⟨v11, r11⟩ := hI.res 11 (by decide)
      have z11 := Own.fz hI 0 11 rfl
      skip
      refine skip_ (w1 := ((((((((((((w'.setCell ⟨w0.heap.size + 1, 0, none⟩ (.int .i64 1)).setCell ⟨w0.heap.size + 1, 1, none⟩ (.string ⟨#[]⟩)).setCell ⟨w0.heap.size + 1, 2, none⟩ (.bool n)).setCell ⟨w0.heap.size + 1, 3, none⟩ (.string D)).setCell ⟨w0.heap.size + 1, 4, none⟩ (.int .i64 k)).setCell ⟨w0.heap.size + 1, 5, none⟩ (.int .i64 1)).setCell ⟨w0.heap.size + 1, 6, none⟩ (.int .i64 0)).setCell ⟨w0.heap.size + 1, 7, none⟩ (.int .i64 3)).setCell ⟨w0.heap.size + 1, 8, none⟩ (.bool false)).setCell ⟨w0.heap.size + 1, 9, none⟩ (.bool false)).setCell ⟨w0.heap.size + 1, 10, none⟩ (.int .i64 0)).setCell ⟨w0.heap.size + 1, 11, none⟩ (.int .i64 0))) (by rfl) rfl ?_ ?_
      · go_simp
      exact hK.out _ _ ⟨(by rw [ha.out]; exact (putSel_same rfl).symm), hI.put⟩
    exact steps_nil
  rintro b a w1 hall ⟨ha, hI1⟩
  simp only [hall 3 (by kernel_rfl)] at hI1
  exact hend a w1 hI1 (by rw [ha]; simp only [putSel, if_true, hall 0 (by kernel_rfl), hall 1 (by kernel_rfl), hall 2 (by kernel_rfl)]) (by rw [ha]; exact (putSel_size b _ a0).2)
end Go.Proofs.YtgjboghnnhcgiaaGreatDoor
namespace Go.Proofs.YtgjboghnnhcgiaaGreatDoor
open Go.RowKit Go.Proofs.YtgjboghnnhcgiaaGreatDoor.M Go.Proofs.YtgjboghnnhcgiaaGreatDoorW.PrintWords Go.Proofs.YtgjboghnnhcgiaaGreatDoorW.PrintLast
set_option linter.unusedVariables false
set_option linter.unusedSimpArgs false
end Go.Proofs.YtgjboghnnhcgiaaGreatDoor
namespace Go.Proofs.YtgjboghnnhcgiaaGreatDoor
open Go.RowKit Go.Proofs.YtgjboghnnhcgiaaGreatDoor.M
open Go.Proofs.YtgjboghnnhcgiaaGreatDoorW.PrintWords Go.Proofs.YtgjboghnnhcgiaaGreatDoorW.PrintLast
set_option linter.unusedVariables false
set_option linter.unusedSimpArgs false
theorem mks_new (w : World) : Mks w.heap.size 0 (w.alloc (.cells (mkc 0 0 0 none none) 62)) := .inl ⟨⟨heap_alloc_new w _⟩, rfl⟩
theorem Hd.start (w : World) : Hd w 0 ((w.alloc (.cells (mkc 0 0 0 none none) 62)).alloc (.cells #[.bool false, .string d5, .int .i64 1] 23)) := by
  have h1 := mks_new w
  have z1 : (w.alloc (.cells (mkc 0 0 0 none none) 62)).heap.size = w.heap.size + 1 := by simp
  have b1 := (Below.refl w.heap.size w).alloc (Nat.le_refl _) (.cells (mkc 0 0 0 none none) 62)
  generalize w.alloc (.cells (mkc 0 0 0 none none) 62) = U at *
  have m2 := heap_alloc_new U (.cells #[.bool false, .string d5, .int .i64 1] 23)
  rw [z1] at m2
  exact ⟨h1.step ((Below.refl _ _).alloc (Nat.le_refl _) _), m2, b1.alloc (by rw [z1]; omega) _⟩
end Go.Proofs.YtgjboghnnhcgiaaGreatDoor
namespace Go.Proofs.YtgjboghnnhcgiaaGreatDoor
open Go.RowKit Go.Proofs.YtgjboghnnhcgiaaGreatDoorW.PrintWords Go.Proofs.YtgjboghnnhcgiaaGreatDoorW.PrintLast Go.Proofs.YtgjboghnnhcgiaaGreatDoorW.PrintMore
set_option linter.unusedVariables false
set_option linter.unusedSimpArgs false
set_option maxRecDepth 100000 in
set_option maxHeartbeats 4000000 in
theorem num14_any (n : Bool) (D : ByteArray) (k : Int) (w : World) : Calls Tryz.prog 8 #[decV n D k] w fun e w' => e = .returned (.agg (valC 1 ⟨#[]⟩ n D k 1 0 3 false false 0 0)) ∧ Below w.heap.size w w' := by
  have h0 := Own.two w (.cells #[.bool n, .string D, .int .i64 k] 23) (.cells #[.int .i64 (0), .string ⟨#[]⟩, .bool false, .string ⟨#[]⟩, .int .i64 (0), .int .i64 (0), .int .i64 (0), .int .i64 (0), .bool false, .bool false, .int .i64 (0), .int .i64 (0)] 31)
  have hI : VnI w false n D k _ := h0
  have cD := default_any
  unfold optV at cD
  unfold valC decV
  go_enter Tryz.func8, Tryz.ntmps8
  go_upto_region 1 with (fail)
  refine num_one w n D k cD _ rfl rfl rfl _ hI.drew _ ?_
  intro a9 w9 h9 ha9 hd9
  have h8 : Own w [(w.heap.size + 1, .cells #[.int .i64 (1), .string ⟨#[]⟩, .bool n, .string D, .int .i64 (k), .int .i64 (1), .int .i64 (0), .int .i64 (3), .bool false, .bool false, .int .i64 (0), .int .i64 (0)] 31 (0, 0)), (w.heap.size, .cells #[.bool n, .string D, .int .i64 k] 23 (0, 0))] w9 := h9
  have bel := h8.bel
  have q0 := h8.c 0 0 rfl rfl
  have q1 := h8.c 0 1 rfl rfl
  have q2 := h8.c 0 2 rfl rfl
  have q3 := h8.c 0 3 rfl rfl
  have q4 := h8.c 0 4 rfl rfl
  have q5 := h8.c 0 5 rfl rfl
  have q6 := h8.c 0 6 rfl rfl
  have q7 := h8.c 0 7 rfl rfl
  have q8 := h8.c 0 8 rfl rfl
  have q9 := h8.c 0 9 rfl rfl
  have q10 := h8.c 0 10 rfl rfl
  have q11 := h8.c 0 11 rfl rfl
  clear hI h0 h9
  rw [ha9]
  simp only [putSel, if_true, Act.put, List.setIfInBounds_toArray, List.set_cons_zero, List.set_cons_succ]
  clear ha9
  go_wp2
  refine bodyPost_ret (v := .agg #[.int .i64 (1), .string ⟨#[]⟩, .bool n, .string D, .int .i64 (k), .int .i64 (1), .int .i64 (0), .int .i64 (3), .bool false, .bool false, .int .i64 (0), .int .i64 (0)]) (by simp [results, Tryz.results8, go_sem, q0, q1, q2, q3, q4, q5, q6, q7, q8, q9, q10, q11]) rfl ?_
  exact ⟨rfl, bel⟩
set_option maxRecDepth 100000 in
set_option maxHeartbeats 4000000 in
theorem written_num (key : ByteArray) (n : Bool) (D : ByteArray) (k m x : Int) (w : World) (hm : (if 20 < k then 20 else k) = m) (hx : (if 3 < m then m else 3) = x)
    (cP : ∀ W, Below w.heap.size w W → Calls Tryz.prog 25 #[.string key] W fun e w' => e = .returned (.tuple #[decV n D k, .bool true]) ∧ Below W.heap.size W w') :
    Calls Tryz.prog 9 #[.string key] w fun e w' => e = .returned (.agg (valC 1 ⟨#[]⟩ n D k 1 m x false false 0 0)) ∧ Below w.heap.size w w' := by
  have h0 := Own.one w (.cells #[.int .i64 (0), .string ⟨#[]⟩, .bool false, .string ⟨#[]⟩, .int .i64 (0), .int .i64 (0), .int .i64 (0), .int .i64 (0), .bool false, .bool false, .int .i64 (0), .int .i64 (0)] 31)
  have cN := num14_any n D k
  have e1 : min k 20 = m := by rw [← hm]; omega
  have e2 : max 3 m = x := by rw [← hx]; omega
  unfold valC decV at *
  go_enter Tryz.func9, Tryz.ntmps9
  go_upto_region 1 with (fail)
  generalize w.alloc _ = W0 at *
  go_upto_region 2 with (go_at_call 25; refine (cP _ h0.bel).mono ?_; rintro e W1 ⟨rfl, b1⟩; have h1 := h0.step b1)
  have h2 := h1.alloc (.cells #[.bool n, .string D, .int .i64 k] 23)
  clear h0 h1 b1 cP
  generalize W1.alloc _ = W2 at *
  generalize W1.heap.size = g at *
  have p0 := h2.c 0 0 rfl rfl
  have p1 := h2.c 0 1 rfl rfl
  have p2 := h2.c 0 2 rfl rfl
  go_upto_region 5 with (go_at_call 8; refine (cN _).mono ?_; rintro e W3 ⟨rfl, b3⟩; have h3 := h2.step b3)
  have h4 := h3.alloc (.cells #[.int .i64 (1), .string ⟨#[]⟩, .bool n, .string D, .int .i64 (k), .int .i64 (1), .int .i64 (0), .int .i64 (3), .bool false, .bool false, .int .i64 (0), .int .i64 (0)] 31)
  clear h2 h3 b3 cN p0 p1 p2
  generalize W3.alloc _ = W4 at *
  generalize W3.heap.size = g2 at *
  have p2 := h4.c 1 2 rfl rfl
  have r6 := h4.c 0 6 rfl rfl
  have f6 := h4.fz 0 6 rfl
  go_upto_region 6 with (fail)
  have h5 : Own w [(g2, .cells #[.int .i64 (1), .string ⟨#[]⟩, .bool n, .string D, .int .i64 (k), .int .i64 (1), .int .i64 (m), .int .i64 (3), .bool false, .bool false, .int .i64 (0), .int .i64 (0)] 31 (0, 0)), (g, .cells #[.bool n, .string D, .int .i64 k] 23 (0, 0)), (w.heap.size, .cells #[.int .i64 (0), .string ⟨#[]⟩, .bool false, .string ⟨#[]⟩, .int .i64 (0), .int .i64 (0), .int .i64 (0), .int .i64 (0), .bool false, .bool false, .int .i64 (0), .int .i64 (0)] 31 (0, 0))] _ := h4.set 0 6 (.int .i64 m) rfl
  clear p2 r6 f6 h4
  generalize W4.setCell ⟨g2, 6, none⟩ (.int .i64 m) = W5 at *
  have r6 := h5.c 0 6 rfl rfl
  have r7 := h5.c 0 7 rfl rfl
  have f7 := h5.fz 0 7 rfl
  go_upto_region 7 with (fail)
  have h6 : Own w [(g2, .cells #[.int .i64 (1), .string ⟨#[]⟩, .bool n, .string D, .int .i64 (k), .int .i64 (1), .int .i64 (m), .int .i64 (x), .bool false, .bool false, .int .i64 (0), .int .i64 (0)] 31 (0, 0)), (g, .cells #[.bool n, .string D, .int .i64 k] 23 (0, 0)), (w.heap.size, .cells #[.int .i64 (0), .string ⟨#[]⟩, .bool false, .string ⟨#[]⟩, .int .i64 (0), .int .i64 (0), .int .i64 (0), .int .i64 (0), .bool false, .bool false, .int .i64 (0), .int .i64 (0)] 31 (0, 0))] _ := h5.set 0 7 (.int .i64 x) rfl
  clear r6 r7 f7 h5
  generalize W5.setCell ⟨g2, 7, none⟩ (.int .i64 x) = W6 at *
  have p0 := h6.c 0 0 rfl rfl
  have p1 := h6.c 0 1 rfl rfl
  have p2 := h6.c 0 2 rfl rfl
  have p3 := h6.c 0 3 rfl rfl
  have p4 := h6.c 0 4 rfl rfl
  have p5 := h6.c 0 5 rfl rfl
  have p6 := h6.c 0 6 rfl rfl
  have p7 := h6.c 0 7 rfl rfl
  have p8 := h6.c 0 8 rfl rfl
  have p9 := h6.c 0 9 rfl rfl
  have p10 := h6.c 0 10 rfl rfl
  have p11 := h6.c 0 11 rfl rfl
  have r0 := h6.c 2 0 rfl rfl
  have r1 := h6.c 2 1 rfl rfl
  have r2 := h6.c 2 2 rfl rfl
  have r3 := h6.c 2 3 rfl rfl
  have r4 := h6.c 2 4 rfl rfl
  have r5 := h6.c 2 5 rfl rfl
  have r6 := h6.c 2 6 rfl rfl
  have r7 := h6.c 2 7 rfl rfl
  have r8 := h6.c 2 8 rfl rfl
  have r9 := h6.c 2 9 rfl rfl
  have r10 := h6.c 2 10 rfl rfl
  have r11 := h6.c 2 11 rfl rfl
  have f0 := h6.fz 2 0 rfl
  have f1 := h6.fz 2 1 rfl
  have f2 := h6.fz 2 2 rfl
  have f3 := h6.fz 2 3 rfl
  have f4 := h6.fz 2 4 rfl
  have f5 := h6.fz 2 5 rfl
  have f6 := h6.fz 2 6 rfl
  have f7 := h6.fz 2 7 rfl
  have f8 := h6.fz 2 8 rfl
  have f9 := h6.fz 2 9 rfl
  have f10 := h6.fz 2 10 rfl
  have f11 := h6.fz 2 11 rfl
  have h7 : Own w [(g2, .cells #[.int .i64 (1), .string ⟨#[]⟩, .bool n, .string D, .int .i64 (k), .int .i64 (1), .int .i64 (m), .int .i64 (x), .bool false, .bool false, .int .i64 (0), .int .i64 (0)] 31 (0, 0)), (g, .cells #[.bool n, .string D, .int .i64 k] 23 (0, 0)), (w.heap.size, .cells #[.int .i64 (1), .string ⟨#[]⟩, .bool n, .string D, .int .i64 (k), .int .i64 (1), .int .i64 (m), .int .i64 (x), .bool false, .bool false, .int .i64 (0), .int .i64 (0)] 31 (0, 0))] ((((((((((((W6.setCell ⟨w.heap.size, 0, none⟩ (.int .i64 (1))).setCell ⟨w.heap.size, 1, none⟩ (.string ⟨#[]⟩)).setCell ⟨w.heap.size, 2, none⟩ (.bool n)).setCell ⟨w.heap.size, 3, none⟩ (.string D)).setCell ⟨w.heap.size, 4, none⟩ (.int .i64 (k))).setCell ⟨w.heap.size, 5, none⟩ (.int .i64 (1))).setCell ⟨w.heap.size, 6, none⟩ (.int .i64 (m))).setCell ⟨w.heap.size, 7, none⟩ (.int .i64 (x))).setCell ⟨w.heap.size, 8, none⟩ (.bool false)).setCell ⟨w.heap.size, 9, none⟩ (.bool false)).setCell ⟨w.heap.size, 10, none⟩ (.int .i64 (0))).setCell ⟨w.heap.size, 11, none⟩ (.int .i64 (0))) := Own.setAll h6 2 [.int .i64 (1), .string ⟨#[]⟩, .bool n, .string D, .int .i64 (k), .int .i64 (1), .int .i64 (m), .int .i64 (x), .bool false, .bool false, .int .i64 (0), .int .i64 (0)] rfl rfl
  have bel := h7.bel
  have q0 := h7.c 2 0 rfl rfl
  have q1 := h7.c 2 1 rfl rfl
  have q2 := h7.c 2 2 rfl rfl
  have q3 := h7.c 2 3 rfl rfl
  have q4 := h7.c 2 4 rfl rfl
  have q5 := h7.c 2 5 rfl rfl
  have q6 := h7.c 2 6 rfl rfl
  have q7 := h7.c 2 7 rfl rfl
  have q8 := h7.c 2 8 rfl rfl
  have q9 := h7.c 2 9 rfl rfl
  have q10 := h7.c 2 10 rfl rfl
  have q11 := h7.c 2 11 rfl rfl
  clear h6 h7
  go_wp2
  refine bodyPost_ret (v := .agg #[.int .i64 (1), .string ⟨#[]⟩, .bool n, .string D, .int .i64 (k), .int .i64 (1), .int .i64 (m), .int .i64 (x), .bool false, .bool false, .int .i64 (0), .int .i64 (0)]) (by simp [results, Tryz.results9, go_sem, q0, q1, q2, q3, q4, q5, q6, q7, q8, q9, q10, q11]) rfl ?_
  exact ⟨rfl, bel⟩
end Go.Proofs.YtgjboghnnhcgiaaGreatDoor
namespace Go.Proofs.YtgjboghnnhcgiaaGreatDoor
open Go.RowKit
set_option linter.unusedVariables false
set_option linter.unusedSimpArgs false
theorem heldOf {w W W1 : World} {B : Nat} {a0 a1 a2 a3 : Addr} {v0 v1 v2 v3 : Value} (b : Below B W W1) (hB : W.heap.size ≤ B) (h : W.cell? a0 = some v0 ∧ W.cell? a1 = some v1 ∧ W.cell? a2 = some v2 ∧ W.cell? a3 = some v3 ∧ Below w.heap.size w W) :
    W1.cell? a0 = some v0 ∧ W1.cell? a1 = some v1 ∧ W1.cell? a2 = some v2 ∧ W1.cell? a3 = some v3 ∧ Below w.heap.size w W1 :=
  ⟨below_cellOf b hB h.1, below_cellOf b hB h.2.1, below_cellOf b hB h.2.2.1, below_cellOf b hB h.2.2.2.1, below_on h.2.2.2.2 b (Nat.le_trans h.2.2.2.2.size hB)⟩
def heldS (w : World) (n : Bool) (d : ByteArray) (k : Nat) (a : Addr) (v : Value) (w' : World) : Prop := w'.cell? ⟨w.heap.size, 0, none⟩ = some (.bool n) ∧ w'.cell? ⟨w.heap.size, 1, none⟩ = some (.string d) ∧ w'.cell? ⟨w.heap.size, 2, none⟩ = some (.int .i64 k) ∧ w'.cell? a = some v ∧ Below w.heap.size w w'
theorem cell_al {W : World} {a : Addr} {v : Value} (h : W.cell? a = some v) (o : Obj) : (W.alloc o).cell? a = some v := below_cellOf ((Below.refl W.heap.size W).alloc (Nat.le_refl _) o) (Nat.le_refl _) h
theorem cell_dr {W : World} {a : Addr} {v : Value} (h : W.cell? a = some v) : W.drew.cell? a = some v := by simpa using h
theorem ascTab {w W : World} (h : Lib.TabIs Tryz.prog w "strings.asciiSpace" .u8 Lib.asciiSpaceTab) (b : Below w.heap.size w W) : Lib.TabIs Tryz.prog W "strings.asciiSpace" .u8 Lib.asciiSpaceTab := by
  have hg : Tryz.prog.globalNamed "strings.asciiSpace" = some 0 := by kernel_rfl
  unfold Lib.TabIs World.var? at h ⊢
  rw [hg, Option.bind_some] at h ⊢
  by_cases hlt : 0 < w.heap.size
  · rw [b.block _ hlt]; exact h
  · rw [Array.getElem?_eq_none (by omega)] at h; cases h
set_option maxRecDepth 100000 in
set_option maxHeartbeats 4000000 in
theorem of_lang_any (lang : ByteArray) (n : Bool) (d : ByteArray) (k : Nat) (L : List UInt8) (b : Bool) (hDg : Dg L) (w : World) (hT : Lib.TabIs Tryz.prog w "strings.asciiSpace" .u8 Lib.asciiSpaceTab)
    (cO : ∀ W, Calls Tryz.prog 55 #[decV n d k] W fun e w' => e = .returned (numV L k b) ∧ Below W.heap.size W w') :
    Calls Tryz.prog 30 #[.string lang, decV n d k] w fun e w' => e = .returned (.int .i64 (pick lang (table L k b))) ∧ Below w.heap.size w w' := by
  have cR := fun w => rules_any w
  obtain ⟨RES, hRES⟩ : ∃ R, pick lang (table L k b) = R := ⟨_, rfl⟩
  rw [hRES]
  have cL0 := fun W => en_any L k b W hDg
  have cL1 := fun W => fr_any L k b W hDg
  have cL2 := fun W => es_any L k b W hDg
  have cL3 := fun W => polish_any L k b W hDg
  have cL4 := fun W => russian_any L k b W hDg
  have cL5 := fun W => czech_any L k b W hDg
  have cL6 := fun W => arabic_any L k b W hDg
  unfold decV at *
  have bA := ((Below.refl w.heap.size w).alloc (Nat.le_refl _) (.cells #[.bool n, .string d, .int .i64 k] 23)).alloc (by simp) (.cells rulesCells 103)
  have hb0 : ((w.alloc (.cells #[.bool n, .string d, .int .i64 k] 23)).alloc (.cells rulesCells 103)).heap[w.heap.size]? = some (.cells #[.bool n, .string d, .int .i64 k] 23) := by
    rw [Below.heap_alloc _ _ _ (by simp)]; exact heap_alloc_new w _
  have hb1 : ((w.alloc (.cells #[.bool n, .string d, .int .i64 k] 23)).alloc (.cells rulesCells 103)).heap[w.heap.size + 1]? = some (.cells rulesCells 103) := by
    have := heap_alloc_new (w.alloc (.cells #[.bool n, .string d, .int .i64 k] 23)) (.cells rulesCells 103)
    rw [show (w.alloc (.cells #[.bool n, .string d, .int .i64 k] 23)).heap.size = w.heap.size + 1 by simp] at this
    exact this
  go_enter Tryz.func30, Tryz.ntmps30
  go_wp2_with (go_at_call 52; refine (cR _).mono ?_; rintro e W1 ⟨rfl, rfl⟩)
  go_loopg [9] 7 (fun gk si wx => ∃ i : Nat, si = .int .i64 i ∧ i ≤ 7 ∧ Below w.heap.size w wx ∧ wx.heap[w.heap.size]? = some (.cells #[.bool n, .string d, .int .i64 k] 23) ∧ wx.heap[w.heap.size + 1]? = some (.cells rulesCells 103) ∧ pick lang ((table L k b).drop i) = RES ∧ 7 ≤ i + gk)
  case atStart => exact ⟨0, rfl, by omega, bA, hb0, hb1, hRES, by omega⟩
  case round =>
    obtain ⟨i, rfl, hi, hbw, hB0, hB1, hp, hfu⟩ := hrel
    clear bA hb0 hb1 hRES
    have d0 := (Lib.cell_of_heap hB0 0).trans (by rfl : _ = some (.bool n))
    have d1 := (Lib.cell_of_heap hB0 1).trans (by rfl : _ = some (.string d))
    have d2 := (Lib.cell_of_heap hB0 2).trans (by rfl : _ = some (.int .i64 (k : Int)))
    have hsz := hbw.size
    have hs1 : w.heap.size + 1 < wr.heap.size := (Array.getElem?_eq_some_iff.1 hB1).1
    rcases (show i = 7 ∨ i = 0 ∨ i = 1 ∨ i = 2 ∨ i = 3 ∨ i = 4 ∨ i = 5 ∨ i = 6 by omega) with rfl | rfl | rfl | rfl | rfl | rfl | rfl | rfl
    · have HP : Hid (0 = RES) := Lib.hid hp
      clear hp
      go_wp2
      go_ret
      exact ⟨by rw [← HP.out]; rfl, hbw⟩
    · obtain ⟨f, rfl⟩ : ∃ f, gk = f + 1 := ⟨gk - 1, by omega⟩
      have r0 := (Lib.cell_of_heap hB1 0).trans (by rfl : _ = some (.string ⟨#[101, 110, 32, 100, 101, 32, 110, 108, 32, 115, 118]⟩))
      have r1 := (Lib.cell_of_heap hB1 1).trans (by rfl : _ = some (.func (.func 93) #[] #[]))
      have cF := fun W (h : Below w.heap.size w W) => fields_c ⟨#[101, 110, 32, 100, 101, 32, 110, 108, 32, 115, 118]⟩ W (by decide) (by decide) (ascTab hT h)
      obtain ⟨F, hF⟩ : ∃ F, Lib.fields (⟨#[101, 110, 32, 100, 101, 32, 110, 108, 32, 115, 118]⟩ : ByteArray).data.toList = F := ⟨_, rfl⟩
      have hFl : 0 < F.length ∧ F.length < 1000 := by rw [← hF]; decide +kernel
      have cC := contains_h F lang (wr.alloc (.cells #[.string ⟨#[101, 110, 32, 100, 101, 32, 110, 108, 32, 115, 118]⟩, .func (.func 93) #[] #[]] 103)) (wr.heap.size + 1) (by simp) hFl.1 hFl.2
      rw [hF] at cF
      have hp' : (if Lib.containsS (F.map mkB) lang then enC L k else pick lang ((table L k b).drop 1)) = RES := by rw [← hF]; exact hp
      obtain ⟨B, hB⟩ : ∃ B, Lib.containsS (F.map mkB) lang = B := ⟨_, rfl⟩
      rw [hB] at cC hp'
      clear hp hF hFl hB
      have bA := hbw.alloc hsz (.cells #[.string ⟨#[101, 110, 32, 100, 101, 32, 110, 108, 32, 115, 118]⟩, .func (.func 93) #[] #[]] 103)
      have bB := bA.alloc (bA.size) (.cells (F.map fun l => Value.string ⟨l.toArray⟩).toArray 9)
      cases B with
      | false =>
        have HP : Hid (pick lang ((table L k b).drop 1) = RES) := Lib.hid hp'
        clear hp'
        have q0 : ((wr.alloc (.cells #[.string ⟨#[101, 110, 32, 100, 101, 32, 110, 108, 32, 115, 118]⟩, .func (.func 93) #[] #[]] 103)).alloc (.cells (F.map fun l => Value.string ⟨l.toArray⟩).toArray 9)).heap[w.heap.size]? = some (.cells #[.bool n, .string d, .int .i64 k] 23) := by rw [Below.heap_alloc _ _ _ (by simp; omega), Below.heap_alloc _ _ _ (by omega)]; exact hB0
        have q1 : ((wr.alloc (.cells #[.string ⟨#[101, 110, 32, 100, 101, 32, 110, 108, 32, 115, 118]⟩, .func (.func 93) #[] #[]] 103)).alloc (.cells (F.map fun l => Value.string ⟨l.toArray⟩).toArray 9)).heap[w.heap.size + 1]? = some (.cells rulesCells 103) := by rw [Below.heap_alloc _ _ _ (by simp; omega), Below.heap_alloc _ _ _ (by omega)]; exact hB1
        go_wp2_with (first
          | (go_at_call 54; (with_reducible refine (cF _ bA).mono ?_); rintro e W1 ⟨rfl, rfl⟩)
          | (go_at_call 53; (with_reducible refine cC.mono ?_); rintro e W1 ⟨rfl, rfl⟩))
        go_roundg f
        case measure => omega
        case rel => exact ⟨1, rfl, by omega, bB, q0, q1, HP.out, by omega⟩
      | true =>
        have HP : Hid (enC L k = RES) := Lib.hid hp'
        clear hp'
        have hS0 : heldS w n d k ⟨wr.heap.size, 1, none⟩ (.func (.func 93) #[] #[]) ((wr.alloc (.cells #[.string ⟨#[101, 110, 32, 100, 101, 32, 110, 108, 32, 115, 118]⟩, .func (.func 93) #[] #[]] 103)).alloc (.cells (F.map fun l => Value.string ⟨l.toArray⟩).toArray 9)).drew := by
          exact ⟨cell_dr (cell_al (cell_al d0 _) _), cell_dr (cell_al (cell_al d1 _) _), cell_dr (cell_al (cell_al d2 _) _), cell_dr (cell_al ((Lib.cell_of_heap (heap_alloc_new wr _) 1).trans (by rfl)) _), bB.drew⟩
        go_wp2_with (first
          | (go_at_call 54; (with_reducible refine (cF _ bA).mono ?_); rintro e W1 ⟨rfl, rfl⟩)
          | (go_at_call 53; (with_reducible refine cC.mono ?_); rintro e W1 ⟨rfl, rfl⟩))
        go_region_held3 (fun w' => w'.cell? ⟨w.heap.size, 0, none⟩ = some (.bool n) ∧ w'.cell? ⟨w.heap.size, 1, none⟩ = some (.string d) ∧ w'.cell? ⟨w.heap.size, 2, none⟩ = some (.int .i64 k) ∧ w'.cell? ⟨wr.heap.size, 1, none⟩ = some (.func (.func 93) #[] #[]) ∧ Below w.heap.size w w')
          (first | exact h10 | exact hS0)
          (first
            | (go_at_call 55; (with_reducible refine (cO _).mono ?_); rintro e W1 ⟨rfl, b1⟩; have h10 := heldOf b1 (Nat.le_refl _) (by assumption))
            | (go_at_call 93; (with_reducible refine (cL0 _).mono ?_); rintro e W1 ⟨rfl, b1⟩; have h10 := heldOf b1 (Nat.le_refl _) (by assumption)))
        go_wp2
        go_ret
        exact ⟨ret_int HP.out, h10.2.2.2.2⟩
    · obtain ⟨f, rfl⟩ : ∃ f, gk = f + 1 := ⟨gk - 1, by omega⟩
      have r0 := (Lib.cell_of_heap hB1 2).trans (by rfl : _ = some (.string ⟨#[102, 114]⟩))
      have r1 := (Lib.cell_of_heap hB1 3).trans (by rfl : _ = some (.func (.func 94) #[] #[]))
      have cF := fun W (h : Below w.heap.size w W) => fields_c ⟨#[102, 114]⟩ W (by decide) (by decide) (ascTab hT h)
      obtain ⟨F, hF⟩ : ∃ F, Lib.fields (⟨#[102, 114]⟩ : ByteArray).data.toList = F := ⟨_, rfl⟩
      have hFl : 0 < F.length ∧ F.length < 1000 := by rw [← hF]; decide +kernel
      have cC := contains_h F lang (wr.alloc (.cells #[.string ⟨#[102, 114]⟩, .func (.func 94) #[] #[]] 103)) (wr.heap.size + 1) (by simp) hFl.1 hFl.2
      rw [hF] at cF
      have hp' : (if Lib.containsS (F.map mkB) lang then frC L else pick lang ((table L k b).drop 2)) = RES := by rw [← hF]; exact hp
      obtain ⟨B, hB⟩ : ∃ B, Lib.containsS (F.map mkB) lang = B := ⟨_, rfl⟩
      rw [hB] at cC hp'
      clear hp hF hFl hB
      have bA := hbw.alloc hsz (.cells #[.string ⟨#[102, 114]⟩, .func (.func 94) #[] #[]] 103)
      have bB := bA.alloc (bA.size) (.cells (F.map fun l => Value.string ⟨l.toArray⟩).toArray 9)
      cases B with
      | false =>
        have HP : Hid (pick lang ((table L k b).drop 2) = RES) := Lib.hid hp'
        clear hp'
        have q0 : ((wr.alloc (.cells #[.string ⟨#[102, 114]⟩, .func (.func 94) #[] #[]] 103)).alloc (.cells (F.map fun l => Value.string ⟨l.toArray⟩).toArray 9)).heap[w.heap.size]? = some (.cells #[.bool n, .string d, .int .i64 k] 23) := by rw [Below.heap_alloc _ _ _ (by simp; omega), Below.heap_alloc _ _ _ (by omega)]; exact hB0
        have q1 : ((wr.alloc (.cells #[.string ⟨#[102, 114]⟩, .func (.func 94) #[] #[]] 103)).alloc (.cells (F.map fun l => Value.string ⟨l.toArray⟩).toArray 9)).heap[w.heap.size + 1]? = some (.cells rulesCells 103) := by rw [Below.heap_alloc _ _ _ (by simp; omega), Below.heap_alloc _ _ _ (by omega)]; exact hB1
        go_wp2_with (first
          | (go_at_call 54; (with_reducible refine (cF _ bA).mono ?_); rintro e W1 ⟨rfl, rfl⟩)
          | (go_at_call 53; (with_reducible refine cC.mono ?_); rintro e W1 ⟨rfl, rfl⟩))
        go_roundg f
        case measure => omega
        case rel => exact ⟨2, rfl, by omega, bB, q0, q1, HP.out, by omega⟩
      | true =>
        have HP : Hid (frC L = RES) := Lib.hid hp'
        clear hp'
        have hS0 : heldS w n d k ⟨wr.heap.size, 1, none⟩ (.func (.func 94) #[] #[]) ((wr.alloc (.cells #[.string ⟨#[102, 114]⟩, .func (.func 94) #[] #[]] 103)).alloc (.cells (F.map fun l => Value.string ⟨l.toArray⟩).toArray 9)).drew := by
          exact ⟨cell_dr (cell_al (cell_al d0 _) _), cell_dr (cell_al (cell_al d1 _) _), cell_dr (cell_al (cell_al d2 _) _), cell_dr (cell_al ((Lib.cell_of_heap (heap_alloc_new wr _) 1).trans (by rfl)) _), bB.drew⟩
        go_wp2_with (first
          | (go_at_call 54; (with_reducible refine (cF _ bA).mono ?_); rintro e W1 ⟨rfl, rfl⟩)
          | (go_at_call 53; (with_reducible refine cC.mono ?_); rintro e W1 ⟨rfl, rfl⟩))
        go_region_held3 (fun w' => w'.cell? ⟨w.heap.size, 0, none⟩ = some (.bool n) ∧ w'.cell? ⟨w.heap.size, 1, none⟩ = some (.string d) ∧ w'.cell? ⟨w.heap.size, 2, none⟩ = some (.int .i64 k) ∧ w'.cell? ⟨wr.heap.size, 1, none⟩ = some (.func (.func 94) #[] #[]) ∧ Below w.heap.size w w')
          (first | exact h10 | exact hS0)
          (first
            | (go_at_call 55; (with_reducible refine (cO _).mono ?_); rintro e W1 ⟨rfl, b1⟩; have h10 := heldOf b1 (Nat.le_refl _) (by assumption))
            | (go_at_call 94; (with_reducible refine (cL1 _).mono ?_); rintro e W1 ⟨rfl, b1⟩; have h10 := heldOf b1 (Nat.le_refl _) (by assumption)))
        go_wp2
        go_ret
        exact ⟨ret_int HP.out, h10.2.2.2.2⟩
    · obtain ⟨f, rfl⟩ : ∃ f, gk = f + 1 := ⟨gk - 1, by omega⟩
      have r0 := (Lib.cell_of_heap hB1 4).trans (by rfl : _ = some (.string ⟨#[101, 115]⟩))
      have r1 := (Lib.cell_of_heap hB1 5).trans (by rfl : _ = some (.func (.func 95) #[] #[]))
      have cF := fun W (h : Below w.heap.size w W) => fields_c ⟨#[101, 115]⟩ W (by decide) (by decide) (ascTab hT h)
      obtain ⟨F, hF⟩ : ∃ F, Lib.fields (⟨#[101, 115]⟩ : ByteArray).data.toList = F := ⟨_, rfl⟩
      have hFl : 0 < F.length ∧ F.length < 1000 := by rw [← hF]; decide +kernel
      have cC := contains_h F lang (wr.alloc (.cells #[.string ⟨#[101, 115]⟩, .func (.func 95) #[] #[]] 103)) (wr.heap.size + 1) (by simp) hFl.1 hFl.2
      rw [hF] at cF
      have hp' : (if Lib.containsS (F.map mkB) lang then esC L b else pick lang ((table L k b).drop 3)) = RES := by rw [← hF]; exact hp
      obtain ⟨B, hB⟩ : ∃ B, Lib.containsS (F.map mkB) lang = B := ⟨_, rfl⟩
      rw [hB] at cC hp'
      clear hp hF hFl hB
      have bA := hbw.alloc hsz (.cells #[.string ⟨#[101, 115]⟩, .func (.func 95) #[] #[]] 103)
      have bB := bA.alloc (bA.size) (.cells (F.map fun l => Value.string ⟨l.toArray⟩).toArray 9)
      cases B with
      | false =>
        have HP : Hid (pick lang ((table L k b).drop 3) = RES) := Lib.hid hp'
        clear hp'
        have q0 : ((wr.alloc (.cells #[.string ⟨#[101, 115]⟩, .func (.func 95) #[] #[]] 103)).alloc (.cells (F.map fun l => Value.string ⟨l.toArray⟩).toArray 9)).heap[w.heap.size]? = some (.cells #[.bool n, .string d, .int .i64 k] 23) := by rw [Below.heap_alloc _ _ _ (by simp; omega), Below.heap_alloc _ _ _ (by omega)]; exact hB0
        have q1 : ((wr.alloc (.cells #[.string ⟨#[101, 115]⟩, .func (.func 95) #[] #[]] 103)).alloc (.cells (F.map fun l => Value.string ⟨l.toArray⟩).toArray 9)).heap[w.heap.size + 1]? = some (.cells rulesCells 103) := by rw [Below.heap_alloc _ _ _ (by simp; omega), Below.heap_alloc _ _ _ (by omega)]; exact hB1
        go_wp2_with (first
          | (go_at_call 54; (with_reducible refine (cF _ bA).mono ?_); rintro e W1 ⟨rfl, rfl⟩)
          | (go_at_call 53; (with_reducible refine cC.mono ?_); rintro e W1 ⟨rfl, rfl⟩))
        go_roundg f
        case measure => omega
        case rel => exact ⟨3, rfl, by omega, bB, q0, q1, HP.out, by omega⟩
      | true =>
        have HP : Hid (esC L b = RES) := Lib.hid hp'
        clear hp'
        have hS0 : heldS w n d k ⟨wr.heap.size, 1, none⟩ (.func (.func 95) #[] #[]) ((wr.alloc (.cells #[.string ⟨#[101, 115]⟩, .func (.func 95) #[] #[]] 103)).alloc (.cells (F.map fun l => Value.string ⟨l.toArray⟩).toArray 9)).drew := by
          exact ⟨cell_dr (cell_al (cell_al d0 _) _), cell_dr (cell_al (cell_al d1 _) _), cell_dr (cell_al (cell_al d2 _) _), cell_dr (cell_al ((Lib.cell_of_heap (heap_alloc_new wr _) 1).trans (by rfl)) _), bB.drew⟩
        go_wp2_with (first
          | (go_at_call 54; (with_reducible refine (cF _ bA).mono ?_); rintro e W1 ⟨rfl, rfl⟩)
          | (go_at_call 53; (with_reducible refine cC.mono ?_); rintro e W1 ⟨rfl, rfl⟩))
        go_region_held3 (fun w' => w'.cell? ⟨w.heap.size, 0, none⟩ = some (.bool n) ∧ w'.cell? ⟨w.heap.size, 1, none⟩ = some (.string d) ∧ w'.cell? ⟨w.heap.size, 2, none⟩ = some (.int .i64 k) ∧ w'.cell? ⟨wr.heap.size, 1, none⟩ = some (.func (.func 95) #[] #[]) ∧ Below w.heap.size w w')
          (first | exact h10 | exact hS0)
          (first
            | (go_at_call 55; (with_reducible refine (cO _).mono ?_); rintro e W1 ⟨rfl, b1⟩; have h10 := heldOf b1 (Nat.le_refl _) (by assumption))
            | (go_at_call 95; (with_reducible refine (cL2 _).mono ?_); rintro e W1 ⟨rfl, b1⟩; have h10 := heldOf b1 (Nat.le_refl _) (by assumption)))
        go_wp2
        go_ret
        exact ⟨ret_int HP.out, h10.2.2.2.2⟩
    · obtain ⟨f, rfl⟩ : ∃ f, gk = f + 1 := ⟨gk - 1, by omega⟩
      have r0 := (Lib.cell_of_heap hB1 6).trans (by rfl : _ = some (.string ⟨#[112, 108]⟩))
      have r1 := (Lib.cell_of_heap hB1 7).trans (by rfl : _ = some (.func (.func 96) #[] #[]))
      have cF := fun W (h : Below w.heap.size w W) => fields_c ⟨#[112, 108]⟩ W (by decide) (by decide) (ascTab hT h)
      obtain ⟨F, hF⟩ : ∃ F, Lib.fields (⟨#[112, 108]⟩ : ByteArray).data.toList = F := ⟨_, rfl⟩
      have hFl : 0 < F.length ∧ F.length < 1000 := by rw [← hF]; decide +kernel
      have cC := contains_h F lang (wr.alloc (.cells #[.string ⟨#[112, 108]⟩, .func (.func 96) #[] #[]] 103)) (wr.heap.size + 1) (by simp) hFl.1 hFl.2
      rw [hF] at cF
      have hp' : (if Lib.containsS (F.map mkB) lang then polC L k else pick lang ((table L k b).drop 4)) = RES := by rw [← hF]; exact hp
      obtain ⟨B, hB⟩ : ∃ B, Lib.containsS (F.map mkB) lang = B := ⟨_, rfl⟩
      rw [hB] at cC hp'
      clear hp hF hFl hB
      have bA := hbw.alloc hsz (.cells #[.string ⟨#[112, 108]⟩, .func (.func 96) #[] #[]] 103)
      have bB := bA.alloc (bA.size) (.cells (F.map fun l => Value.string ⟨l.toArray⟩).toArray 9)
      cases B with
      | false =>
        have HP : Hid (pick lang ((table L k b).drop 4) = RES) := Lib.hid hp'
        clear hp'
        have q0 : ((wr.alloc (.cells #[.string ⟨#[112, 108]⟩, .func (.func 96) #[] #[]] 103)).alloc (.cells (F.map fun l => Value.string ⟨l.toArray⟩).toArray 9)).heap[w.heap.size]? = some (.cells #[.bool n, .string d, .int .i64 k] 23) := by rw [Below.heap_alloc _ _ _ (by simp; omega), Below.heap_alloc _ _ _ (by omega)]; exact hB0
        have q1 : ((wr.alloc (.cells #[.string ⟨#[112, 108]⟩, .func (.func 96) #[] #[]] 103)).alloc (.cells (F.map fun l => Value.string ⟨l.toArray⟩).toArray 9)).heap[w.heap.size + 1]? = some (.cells rulesCells 103) := by rw [Below.heap_alloc _ _ _ (by simp; omega), Below.heap_alloc _ _ _ (by omega)]; exact hB1
        go_wp2_with (first
          | (go_at_call 54; (with_reducible refine (cF _ bA).mono ?_); rintro e W1 ⟨rfl, rfl⟩)
          | (go_at_call 53; (with_reducible refine cC.mono ?_); rintro e W1 ⟨rfl, rfl⟩))
        go_roundg f
        case measure => omega
        case rel => exact ⟨4, rfl, by omega, bB, q0, q1, HP.out, by omega⟩
      | true =>
        have HP : Hid (polC L k = RES) := Lib.hid hp'
        clear hp'
        have hS0 : heldS w n d k ⟨wr.heap.size, 1, none⟩ (.func (.func 96) #[] #[]) ((wr.alloc (.cells #[.string ⟨#[112, 108]⟩, .func (.func 96) #[] #[]] 103)).alloc (.cells (F.map fun l => Value.string ⟨l.toArray⟩).toArray 9)).drew := by
          exact ⟨cell_dr (cell_al (cell_al d0 _) _), cell_dr (cell_al (cell_al d1 _) _), cell_dr (cell_al (cell_al d2 _) _), cell_dr (cell_al ((Lib.cell_of_heap (heap_alloc_new wr _) 1).trans (by rfl)) _), bB.drew⟩
        go_wp2_with (first
          | (go_at_call 54; (with_reducible refine (cF _ bA).mono ?_); rintro e W1 ⟨rfl, rfl⟩)
          | (go_at_call 53; (with_reducible refine cC.mono ?_); rintro e W1 ⟨rfl, rfl⟩))
        go_region_held3 (fun w' => w'.cell? ⟨w.heap.size, 0, none⟩ = some (.bool n) ∧ w'.cell? ⟨w.heap.size, 1, none⟩ = some (.string d) ∧ w'.cell? ⟨w.heap.size, 2, none⟩ = some (.int .i64 k) ∧ w'.cell? ⟨wr.heap.size, 1, none⟩ = some (.func (.func 96) #[] #[]) ∧ Below w.heap.size w w')
          (first | exact h10 | exact hS0)
          (first
            | (go_at_call 55; (with_reducible refine (cO _).mono ?_); rintro e W1 ⟨rfl, b1⟩; have h10 := heldOf b1 (Nat.le_refl _) (by assumption))
            | (go_at_call 96; (with_reducible refine (cL3 _).mono ?_); rintro e W1 ⟨rfl, b1⟩; have h10 := heldOf b1 (Nat.le_refl _) (by assumption)))
        go_wp2
        go_ret
        exact ⟨ret_int HP.out, h10.2.2.2.2⟩
    · obtain ⟨f, rfl⟩ : ∃ f, gk = f + 1 := ⟨gk - 1, by omega⟩
      have r0 := (Lib.cell_of_heap hB1 8).trans (by rfl : _ = some (.string ⟨#[114, 117]⟩))
      have r1 := (Lib.cell_of_heap hB1 9).trans (by rfl : _ = some (.func (.func 97) #[] #[]))
      have cF := fun W (h : Below w.heap.size w W) => fields_c ⟨#[114, 117]⟩ W (by decide) (by decide) (ascTab hT h)
      obtain ⟨F, hF⟩ : ∃ F, Lib.fields (⟨#[114, 117]⟩ : ByteArray).data.toList = F := ⟨_, rfl⟩
      have hFl : 0 < F.length ∧ F.length < 1000 := by rw [← hF]; decide +kernel
      have cC := contains_h F lang (wr.alloc (.cells #[.string ⟨#[114, 117]⟩, .func (.func 97) #[] #[]] 103)) (wr.heap.size + 1) (by simp) hFl.1 hFl.2
      rw [hF] at cF
      have hp' : (if Lib.containsS (F.map mkB) lang then rusC L k else pick lang ((table L k b).drop 5)) = RES := by rw [← hF]; exact hp
      obtain ⟨B, hB⟩ : ∃ B, Lib.containsS (F.map mkB) lang = B := ⟨_, rfl⟩
      rw [hB] at cC hp'
      clear hp hF hFl hB
      have bA := hbw.alloc hsz (.cells #[.string ⟨#[114, 117]⟩, .func (.func 97) #[] #[]] 103)
      have bB := bA.alloc (bA.size) (.cells (F.map fun l => Value.string ⟨l.toArray⟩).toArray 9)
      cases B with
      | false =>
        have HP : Hid (pick lang ((table L k b).drop 5) = RES) := Lib.hid hp'
        clear hp'
        have q0 : ((wr.alloc (.cells #[.string ⟨#[114, 117]⟩, .func (.func 97) #[] #[]] 103)).alloc (.cells (F.map fun l => Value.string ⟨l.toArray⟩).toArray 9)).heap[w.heap.size]? = some (.cells #[.bool n, .string d, .int .i64 k] 23) := by rw [Below.heap_alloc _ _ _ (by simp; omega), Below.heap_alloc _ _ _ (by omega)]; exact hB0
        have q1 : ((wr.alloc (.cells #[.string ⟨#[114, 117]⟩, .func (.func 97) #[] #[]] 103)).alloc (.cells (F.map fun l => Value.string ⟨l.toArray⟩).toArray 9)).heap[w.heap.size + 1]? = some (.cells rulesCells 103) := by rw [Below.heap_alloc _ _ _ (by simp; omega), Below.heap_alloc _ _ _ (by omega)]; exact hB1
        go_wp2_with (first
          | (go_at_call 54; (with_reducible refine (cF _ bA).mono ?_); rintro e W1 ⟨rfl, rfl⟩)
          | (go_at_call 53; (with_reducible refine cC.mono ?_); rintro e W1 ⟨rfl, rfl⟩))
        go_roundg f
        case measure => omega
        case rel => exact ⟨5, rfl, by omega, bB, q0, q1, HP.out, by omega⟩
      | true =>
        have HP : Hid (rusC L k = RES) := Lib.hid hp'
        clear hp'
        have hS0 : heldS w n d k ⟨wr.heap.size, 1, none⟩ (.func (.func 97) #[] #[]) ((wr.alloc (.cells #[.string ⟨#[114, 117]⟩, .func (.func 97) #[] #[]] 103)).alloc (.cells (F.map fun l => Value.string ⟨l.toArray⟩).toArray 9)).drew := by
          exact ⟨cell_dr (cell_al (cell_al d0 _) _), cell_dr (cell_al (cell_al d1 _) _), cell_dr (cell_al (cell_al d2 _) _), cell_dr (cell_al ((Lib.cell_of_heap (heap_alloc_new wr _) 1).trans (by rfl)) _), bB.drew⟩
        go_wp2_with (first
          | (go_at_call 54; (with_reducible refine (cF _ bA).mono ?_); rintro e W1 ⟨rfl, rfl⟩)
          | (go_at_call 53; (with_reducible refine cC.mono ?_); rintro e W1 ⟨rfl, rfl⟩))
        go_region_held3 (fun w' => w'.cell? ⟨w.heap.size, 0, none⟩ = some (.bool n) ∧ w'.cell? ⟨w.heap.size, 1, none⟩ = some (.string d) ∧ w'.cell? ⟨w.heap.size, 2, none⟩ = some (.int .i64 k) ∧ w'.cell? ⟨wr.heap.size, 1, none⟩ = some (.func (.func 97) #[] #[]) ∧ Below w.heap.size w w')
          (first | exact h10 | exact hS0)
          (first
            | (go_at_call 55; (with_reducible refine (cO _).mono ?_); rintro e W1 ⟨rfl, b1⟩; have h10 := heldOf b1 (Nat.le_refl _) (by assumption))
            | (go_at_call 97; (with_reducible refine (cL4 _).mono ?_); rintro e W1 ⟨rfl, b1⟩; have h10 := heldOf b1 (Nat.le_refl _) (by assumption)))
        go_wp2
        go_ret
        exact ⟨ret_int HP.out, h10.2.2.2.2⟩
    · obtain ⟨f, rfl⟩ : ∃ f, gk = f + 1 := ⟨gk - 1, by omega⟩
      have r0 := (Lib.cell_of_heap hB1 10).trans (by rfl : _ = some (.string ⟨#[99, 115]⟩))
      have r1 := (Lib.cell_of_heap hB1 11).trans (by rfl : _ = some (.func (.func 98) #[] #[]))
      have cF := fun W (h : Below w.heap.size w W) => fields_c ⟨#[99, 115]⟩ W (by decide) (by decide) (ascTab hT h)
      obtain ⟨F, hF⟩ : ∃ F, Lib.fields (⟨#[99, 115]⟩ : ByteArray).data.toList = F := ⟨_, rfl⟩
      have hFl : 0 < F.length ∧ F.length < 1000 := by rw [← hF]; decide +kernel
      have cC := contains_h F lang (wr.alloc (.cells #[.string ⟨#[99, 115]⟩, .func (.func 98) #[] #[]] 103)) (wr.heap.size + 1) (by simp) hFl.1 hFl.2
      rw [hF] at cF
      have hp' : (if Lib.containsS (F.map mkB) lang then czeC L k else pick lang ((table L k b).drop 6)) = RES := by rw [← hF]; exact hp
      obtain ⟨B, hB⟩ : ∃ B, Lib.containsS (F.map mkB) lang = B := ⟨_, rfl⟩
      rw [hB] at cC hp'
      clear hp hF hFl hB
      have bA := hbw.alloc hsz (.cells #[.string ⟨#[99, 115]⟩, .func (.func 98) #[] #[]] 103)
      have bB := bA.alloc (bA.size) (.cells (F.map fun l => Value.string ⟨l.toArray⟩).toArray 9)
      cases B with
      | false =>
        have HP : Hid (pick lang ((table L k b).drop 6) = RES) := Lib.hid hp'
        clear hp'
        have q0 : ((wr.alloc (.cells #[.string ⟨#[99, 115]⟩, .func (.func 98) #[] #[]] 103)).alloc (.cells (F.map fun l => Value.string ⟨l.toArray⟩).toArray 9)).heap[w.heap.size]? = some (.cells #[.bool n, .string d, .int .i64 k] 23) := by rw [Below.heap_alloc _ _ _ (by simp; omega), Below.heap_alloc _ _ _ (by omega)]; exact hB0
        have q1 : ((wr.alloc (.cells #[.string ⟨#[99, 115]⟩, .func (.func 98) #[] #[]] 103)).alloc (.cells (F.map fun l => Value.string ⟨l.toArray⟩).toArray 9)).heap[w.heap.size + 1]? = some (.cells rulesCells 103) := by rw [Below.heap_alloc _ _ _ (by simp; omega), Below.heap_alloc _ _ _ (by omega)]; exact hB1
        go_wp2_with (first
          | (go_at_call 54; (with_reducible refine (cF _ bA).mono ?_); rintro e W1 ⟨rfl, rfl⟩)
          | (go_at_call 53; (with_reducible refine cC.mono ?_); rintro e W1 ⟨rfl, rfl⟩))
        go_roundg f
        case measure => omega
        case rel => exact ⟨6, rfl, by omega, bB, q0, q1, HP.out, by omega⟩
      | true =>
        have HP : Hid (czeC L k = RES) := Lib.hid hp'
        clear hp'
        have hS0 : heldS w n d k ⟨wr.heap.size, 1, none⟩ (.func (.func 98) #[] #[]) ((wr.alloc (.cells #[.string ⟨#[99, 115]⟩, .func (.func 98) #[] #[]] 103)).alloc (.cells (F.map fun l => Value.string ⟨l.toArray⟩).toArray 9)).drew := by
          exact ⟨cell_dr (cell_al (cell_al d0 _) _), cell_dr (cell_al (cell_al d1 _) _), cell_dr (cell_al (cell_al d2 _) _), cell_dr (cell_al ((Lib.cell_of_heap (heap_alloc_new wr _) 1).trans (by rfl)) _), bB.drew⟩
        go_wp2_with (first
          | (go_at_call 54; (with_reducible refine (cF _ bA).mono ?_); rintro e W1 ⟨rfl, rfl⟩)
          | (go_at_call 53; (with_reducible refine cC.mono ?_); rintro e W1 ⟨rfl, rfl⟩))
        go_region_held3 (fun w' => w'.cell? ⟨w.heap.size, 0, none⟩ = some (.bool n) ∧ w'.cell? ⟨w.heap.size, 1, none⟩ = some (.string d) ∧ w'.cell? ⟨w.heap.size, 2, none⟩ = some (.int .i64 k) ∧ w'.cell? ⟨wr.heap.size, 1, none⟩ = some (.func (.func 98) #[] #[]) ∧ Below w.heap.size w w')
          (first | exact h10 | exact hS0)
          (first
            | (go_at_call 55; (with_reducible refine (cO _).mono ?_); rintro e W1 ⟨rfl, b1⟩; have h10 := heldOf b1 (Nat.le_refl _) (by assumption))
            | (go_at_call 98; (with_reducible refine (cL5 _).mono ?_); rintro e W1 ⟨rfl, b1⟩; have h10 := heldOf b1 (Nat.le_refl _) (by assumption)))
        go_wp2
        go_ret
        exact ⟨ret_int HP.out, h10.2.2.2.2⟩
    · obtain ⟨f, rfl⟩ : ∃ f, gk = f + 1 := ⟨gk - 1, by omega⟩
      have r0 := (Lib.cell_of_heap hB1 12).trans (by rfl : _ = some (.string ⟨#[97, 114]⟩))
      have r1 := (Lib.cell_of_heap hB1 13).trans (by rfl : _ = some (.func (.func 99) #[] #[]))
      have cF := fun W (h : Below w.heap.size w W) => fields_c ⟨#[97, 114]⟩ W (by decide) (by decide) (ascTab hT h)
      obtain ⟨F, hF⟩ : ∃ F, Lib.fields (⟨#[97, 114]⟩ : ByteArray).data.toList = F := ⟨_, rfl⟩
      have hFl : 0 < F.length ∧ F.length < 1000 := by rw [← hF]; decide +kernel
      have cC := contains_h F lang (wr.alloc (.cells #[.string ⟨#[97, 114]⟩, .func (.func 99) #[] #[]] 103)) (wr.heap.size + 1) (by simp) hFl.1 hFl.2
      rw [hF] at cF
      have hp' : (if Lib.containsS (F.map mkB) lang then araC L b else pick lang ((table L k b).drop 7)) = RES := by rw [← hF]; exact hp
      obtain ⟨B, hB⟩ : ∃ B, Lib.containsS (F.map mkB) lang = B := ⟨_, rfl⟩
      rw [hB] at cC hp'
      clear hp hF hFl hB
      have bA := hbw.alloc hsz (.cells #[.string ⟨#[97, 114]⟩, .func (.func 99) #[] #[]] 103)
      have bB := bA.alloc (bA.size) (.cells (F.map fun l => Value.string ⟨l.toArray⟩).toArray 9)
      cases B with
      | false =>
        have HP : Hid (pick lang ((table L k b).drop 7) = RES) := Lib.hid hp'
        clear hp'
        have q0 : ((wr.alloc (.cells #[.string ⟨#[97, 114]⟩, .func (.func 99) #[] #[]] 103)).alloc (.cells (F.map fun l => Value.string ⟨l.toArray⟩).toArray 9)).heap[w.heap.size]? = some (.cells #[.bool n, .string d, .int .i64 k] 23) := by rw [Below.heap_alloc _ _ _ (by simp; omega), Below.heap_alloc _ _ _ (by omega)]; exact hB0
        have q1 : ((wr.alloc (.cells #[.string ⟨#[97, 114]⟩, .func (.func 99) #[] #[]] 103)).alloc (.cells (F.map fun l => Value.string ⟨l.toArray⟩).toArray 9)).heap[w.heap.size + 1]? = some (.cells rulesCells 103) := by rw [Below.heap_alloc _ _ _ (by simp; omega), Below.heap_alloc _ _ _ (by omega)]; exact hB1
        go_wp2_with (first
          | (go_at_call 54; (with_reducible refine (cF _ bA).mono ?_); rintro e W1 ⟨rfl, rfl⟩)
          | (go_at_call 53; (with_reducible refine cC.mono ?_); rintro e W1 ⟨rfl, rfl⟩))
        go_roundg f
        case measure => omega
        case rel => exact ⟨7, rfl, by omega, bB, q0, q1, HP.out, by omega⟩
      | true =>
        have HP : Hid (araC L b = RES) := Lib.hid hp'
        clear hp'
        have hS0 : heldS w n d k ⟨wr.heap.size, 1, none⟩ (.func (.func 99) #[] #[]) ((wr.alloc (.cells #[.string ⟨#[97, 114]⟩, .func (.func 99) #[] #[]] 103)).alloc (.cells (F.map fun l => Value.string ⟨l.toArray⟩).toArray 9)).drew := by
          exact ⟨cell_dr (cell_al (cell_al d0 _) _), cell_dr (cell_al (cell_al d1 _) _), cell_dr (cell_al (cell_al d2 _) _), cell_dr (cell_al ((Lib.cell_of_heap (heap_alloc_new wr _) 1).trans (by rfl)) _), bB.drew⟩
        go_wp2_with (first
          | (go_at_call 54; (with_reducible refine (cF _ bA).mono ?_); rintro e W1 ⟨rfl, rfl⟩)
          | (go_at_call 53; (with_reducible refine cC.mono ?_); rintro e W1 ⟨rfl, rfl⟩))
        go_region_held3 (fun w' => w'.cell? ⟨w.heap.size, 0, none⟩ = some (.bool n) ∧ w'.cell? ⟨w.heap.size, 1, none⟩ = some (.string d) ∧ w'.cell? ⟨w.heap.size, 2, none⟩ = some (.int .i64 k) ∧ w'.cell? ⟨wr.heap.size, 1, none⟩ = some (.func (.func 99) #[] #[]) ∧ Below w.heap.size w w')
          (first | exact h10 | exact hS0)
          (first
            | (go_at_call 55; (with_reducible refine (cO _).mono ?_); rintro e W1 ⟨rfl, b1⟩; have h10 := heldOf b1 (Nat.le_refl _) (by assumption))
            | (go_at_call 99; (with_reducible refine (cL6 _).mono ?_); rintro e W1 ⟨rfl, b1⟩; have h10 := heldOf b1 (Nat.le_refl _) (by assumption)))
        go_wp2
        go_ret
        exact ⟨ret_int HP.out, h10.2.2.2.2⟩
end Go.Proofs.YtgjboghnnhcgiaaGreatDoor
namespace Go.Proofs.YtgjboghnnhcgiaaGreatDoor
open Go.RowKit
set_option linter.unusedVariables false
set_option linter.unusedSimpArgs false
def rankT (x : Int) : Int := if x = 1 then 2 else if x = 2 then 3 else if x = 3 then 4 else 0
def rankC (lang : ByteArray) (L : List UInt8) (b : Bool) : Int :=
  if b then (if lang.toList == [102, 114] then (if L == [49] then 2 else 0) else if !(lang.toList == [101, 110]) || inB (lastV 2 L) 11 13 then 0 else rankT (lastV 1 L)) else 0
def NIn (w : World) (j : Nat) (L : List UInt8) (v : Int) (b : Bool) (W : World) : Prop :=
  W.cell? ⟨j, 0, none⟩ = some (.string ⟨L.toArray⟩) ∧ W.cell? ⟨j, 1, none⟩ = some (.int .i64 v) ∧ W.cell? ⟨j, 2, none⟩ = some (.bool b) ∧ Below w.heap.size w W
theorem NIn.get {w W : World} {j : Nat} {L : List UInt8} {v : Int} {b : Bool} (h : NIn w j L v b W) : W.cell? ⟨j, 0, none⟩ = some (.string ⟨L.toArray⟩) ∧ W.cell? ⟨j, 1, none⟩ = some (.int .i64 v) ∧ W.cell? ⟨j, 2, none⟩ = some (.bool b) := ⟨h.1, h.2.1, h.2.2.1⟩
theorem NIn.drew {w W : World} {j : Nat} {L : List UInt8} {v : Int} {b : Bool} (h : NIn w j L v b W) : NIn w j L v b W.drew := ⟨cell_dr h.1, cell_dr h.2.1, cell_dr h.2.2.1, h.2.2.2.drew⟩
theorem NIn.step {w W W1 : World} {j : Nat} {L : List UInt8} {v : Int} {b : Bool} (h : NIn w j L v b W) (c : Below W.heap.size W W1) : NIn w j L v b W1 :=
  ⟨below_cellOf c (Nat.le_refl _) h.1, below_cellOf c (Nat.le_refl _) h.2.1, below_cellOf c (Nat.le_refl _) h.2.2.1, below_on h.2.2.2 c h.2.2.2.size⟩
theorem NIn.calls {w W : World} {j : Nat} {L : List UInt8} {v : Int} {b : Bool} {P : Program} {f : FuncId} {args : Array Value} {r : Value} (h : NIn w j L v b W) (c : Calls P f args W fun e w' => e = .returned r ∧ Below W.heap.size W w') : Calls P f args W fun e w' => e = .returned r ∧ NIn w j L v b w' :=
  c.mono fun e w' ⟨he, hb⟩ => ⟨he, h.step hb⟩
theorem NIn.start {w w0 W1 : World} {L : List UInt8} {v : Int} {b : Bool} (bA : Below w.heap.size w w0) (b1 : Below w0.heap.size w0 W1) : NIn w W1.heap.size L v b (W1.alloc (.cells #[.string ⟨L.toArray⟩, .int .i64 v, .bool b] 107)) :=
  ⟨(Lib.cell_of_heap (heap_alloc_new W1 _) 0).trans (by rfl), (Lib.cell_of_heap (heap_alloc_new W1 _) 1).trans (by rfl), (Lib.cell_of_heap (heap_alloc_new W1 _) 2).trans (by rfl), (bA.trans (b1.mono bA.size)).alloc (Nat.le_trans bA.size b1.size) _⟩
theorem last1_bd (L : List UInt8) (h : Dg L) : 0 ≤ lastV 1 L ∧ lastV 1 L ≤ 9 := by
  unfold lastV
  have hm : ∀ c ∈ L.drop (L.length - 1), 48 ≤ c.toNat ∧ c.toNat ≤ 57 := fun c hc => h.dig c (List.mem_of_mem_drop hc)
  have hl : (L.drop (L.length - 1)).length ≤ 1 := by rw [List.length_drop]; omega
  generalize L.drop (L.length - 1) = T at *
  match T, hl with
  | [], _ => simp
  | [c], _ => have := hm c (by simp); simp; omega
theorem rank_index (x : Int) (h0 : 0 ≤ x) (h9 : x ≤ 9) (W : World) : (Instr.index 112 (.agg #[.int .i64 0, .int .i64 2, .int .i64 3, .int .i64 4, .int .i64 0, .int .i64 0, .int .i64 0, .int .i64 0, .int .i64 0, .int .i64 0]) (.int .i64 x)).run Tryz.prog W = .ok (.int .i64 (rankT x)) W := by
  rcases (show x = 0 ∨ x = 1 ∨ x = 2 ∨ x = 3 ∨ x = 4 ∨ x = 5 ∨ x = 6 ∨ x = 7 ∨ x = 8 ∨ x = 9 by omega) with rfl | rfl | rfl | rfl | rfl | rfl | rfl | rfl | rfl | rfl
  all_goals
    simp [Instr.index, run_underlying Tryz.underlying112, asIntOf, go_sem, rankT]
set_option maxRecDepth 100000 in
set_option maxHeartbeats 4000000 in
theorem rank_any (lang : ByteArray) (n : Bool) (d : ByteArray) (k : Nat) (L : List UInt8) (b : Bool) (hDg : Dg L) (w : World)
    (cO : ∀ W, Calls Tryz.prog 55 #[decV n d k] W fun e w' => e = .returned (numV L k b) ∧ Below W.heap.size W w') :
    Calls Tryz.prog 31 #[.string lang, decV n d k] w fun e w' => e = .returned (.int .i64 (rankC lang L b)) ∧ Below w.heap.size w w' := by
  have c1 := fun j W (n : NIn w j L k b W) => n.calls (last1 L k b W hDg)
  have c2 := fun j W (n : NIn w j L k b W) => n.calls (last2 L k b W hDg)
  have i2 := fun j W (n : NIn w j L k b W) => n.calls (same_below (in_B (lastV 2 L) 11 13 W))
  have cI := fun j W (n : NIn w j L k b W) => n.calls (is_any L [49] k b W)
  have cOn := fun j W (n : NIn w j L k b W) => n.calls (same_below (one_any (L == [49]) W))
  obtain ⟨hx0, hx9⟩ := last1_bd L hDg
  simp only [show Lib.trimLeftB [49] 48 = [49] from rfl] at cI
  have hix := fun W => rank_index (lastV 1 L) hx0 hx9 W
  obtain ⟨F, hF⟩ : ∃ F, (lang.toList == [102, 114]) = F := ⟨_, rfl⟩
  obtain ⟨E, hE⟩ : ∃ F, (lang.toList == [101, 110]) = F := ⟨_, rfl⟩
  unfold rankC
  rw [hF, hE]
  generalize (L == [49]) = I1 at *
  generalize inB (lastV 2 L) 11 13 = J at *
  generalize lastV 2 L = x2 at *
  generalize lastV 1 L = x1 at *
  clear hDg
  have bA := (Below.refl w.heap.size w).alloc (Nat.le_refl _) (.cells #[.bool n, .string d, .int .i64 k] 23)
  unfold decV numV at *
  rcases b with _ | _
  rotate_left
  rcases F with _ | _
  rotate_left
  rcases I1 with _ | _
  rotate_left 3
  rcases E with _ | _
  rotate_left
  rcases J with _ | _
  all_goals
    go_enter Tryz.func31, Tryz.ntmps31
    go_wp2_with (first
      | (go_at_call 55; (with_reducible refine (cO _).mono ?_); rintro e W1 ⟨rfl, b1⟩; have hNt := NIn.start (L := L) (v := (k : Int)) (b := true) bA b1; have hNf := NIn.start (L := L) (v := (k : Int)) (b := false) bA b1; have kk := c1 W1.heap.size; have kk2 := c2 W1.heap.size; have kk3 := i2 W1.heap.size; have kk4 := cI W1.heap.size; have kk5 := cOn W1.heap.size)
      | (go_at_call 59; ((with_reducible refine (kk _ (by first | assumption | (refine NIn.drew ?_; assumption))).mono ?_); rintro e W2 ⟨rfl, hN1⟩; obtain ⟨n0, n1, n2⟩ := hN1.get))
      | (go_at_call 59; ((with_reducible refine (kk2 _ (by first | assumption | (refine NIn.drew ?_; assumption))).mono ?_); rintro e W2 ⟨rfl, hN1⟩; obtain ⟨n0, n1, n2⟩ := hN1.get))
      | (go_at_call 58; ((with_reducible refine (kk3 _ (by first | assumption | (refine NIn.drew ?_; assumption))).mono ?_); rintro e W2 ⟨rfl, hN1⟩; obtain ⟨n0, n1, n2⟩ := hN1.get))
      | (go_at_call 57; ((with_reducible refine (kk4 _ (by first | assumption | (refine NIn.drew ?_; assumption))).mono ?_); rintro e W2 ⟨rfl, hN1⟩; obtain ⟨n0, n1, n2⟩ := hN1.get))
      | (go_at_call 56; ((with_reducible refine (kk5 _ (by first | assumption | (refine NIn.drew ?_; assumption))).mono ?_); rintro e W2 ⟨rfl, hN1⟩; obtain ⟨n0, n1, n2⟩ := hN1.get)))
    go_ret
    first | exact ⟨rfl, hN1.2.2.2.alloc hN1.2.2.2.size _⟩ | exact ⟨rfl, hN1.2.2.2⟩ | exact ⟨rfl, hNt.2.2.2⟩ | exact ⟨rfl, hNf.2.2.2⟩
end Go.Proofs.YtgjboghnnhcgiaaGreatDoor
namespace Go.Proofs.YtgjboghnnhcgiaaGreatDoor
open Go.RowKit
set_option linter.unusedVariables false
set_option linter.unusedSimpArgs false
abbrev Asc (w : World) : Prop := Lib.TabIs Tryz.prog w "strings.asciiSpace" .u8 Lib.asciiSpaceTab
def Ld (d : ByteArray) (k : Nat) : List UInt8 := Lib.trimLeftB (d.data.toList.take (d.size - k)) 48
def bd (d : ByteArray) (k : Nat) : Bool := (Lib.trimB (d.data.toList.drop (d.size - k)) 48).isEmpty
def ofC (lang d : ByteArray) (k : Nat) : Int := pick lang (table (Ld d k) k (bd d k))
def rkC (lang d : ByteArray) (k : Nat) : Int := rankC lang (Ld d k) (bd d k)
structure Dig (d : ByteArray) (k : Nat) : Prop where
  k : k ≤ d.size
  len : d.size ≤ 1000000
  dig : ∀ c ∈ d.data.toList, 48 ≤ c.toNat ∧ c.toNat ≤ 57
theorem Dig.dg {d : ByteArray} {k : Nat} (h : Dig d k) : Dg (Ld d k) where
  len := by
    have := Lib.size_eq d
    have h1 : (Ld d k).length ≤ (d.data.toList.take (d.size - k)).length := (List.dropWhile_suffix _).length_le
    rw [List.length_take] at h1
    have := h.len
    omega
  dig := fun c hc => h.dig c (List.mem_of_mem_take ((List.dropWhile_suffix _).subset hc))
theorem Of_any (lang : ByteArray) (n : Bool) (d : ByteArray) (k : Nat) (h : Dig d k) (w : World) (hT : Asc w) :
    Calls Tryz.prog 30 #[.string lang, decV n d k] w fun e w' => e = .returned (.int .i64 (ofC lang d k)) ∧ Below w.heap.size w w' :=
  of_lang_any lang n d k _ _ h.dg w hT fun W => of_any n d k W h.k (by have := h.len; omega)
theorem Rank_any (lang : ByteArray) (n : Bool) (d : ByteArray) (k : Nat) (h : Dig d k) (w : World) :
    Calls Tryz.prog 31 #[.string lang, decV n d k] w fun e w' => e = .returned (.int .i64 (rkC lang d k)) ∧ Below w.heap.size w w' :=
  rank_any lang n d k _ _ h.dg w fun W => of_any n d k W h.k (by have := h.len; omega)
def Good (w W : World) : Prop := Asc W ∧ Below w.heap.size w W
theorem Good.start {w : World} (h : Asc w) : Good w w := ⟨h, Below.refl _ _⟩
theorem Good.step {w W W' : World} (h : Good w W) (b : Below W.heap.size W W') : Good w W' := ⟨ascTab h.1 b, h.2.trans (b.mono h.2.size)⟩
theorem Good.drew {w W : World} (h : Good w W) : Good w W.drew := h.step ((Below.refl _ _).drew)
theorem Good.alloc {w W : World} (h : Good w W) (o : Obj) : Good w (W.alloc o) := h.step ((Below.refl _ _).alloc (Nat.le_refl _) o)
theorem Good.calls {w W : World} {P : Program} {f : FuncId} {args : Array Value} {v : Value} (h : Good w W) (c : Calls P f args W fun e w' => e = .returned v ∧ Below W.heap.size W w') : Calls P f args W fun e w' => e = .returned v ∧ Good w w' :=
  c.mono fun e w' ⟨he, hb⟩ => ⟨he, h.step hb⟩
end Go.Proofs.YtgjboghnnhcgiaaGreatDoor
namespace Go.Proofs.YtgjboghnnhcgiaaGreatDoor.R
open Go.RowKit Go.Proofs.YtgjboghnnhcgiaaGreatDoor.G Go.Proofs.YtgjboghnnhcgiaaGreatDoor.U Go.Proofs.YtgjboghnnhcgiaaGreatDoorW.PrintWords Go.Proofs.YtgjboghnnhcgiaaGreatDoorW.PrintLast Go.Proofs.YtgjboghnnhcgiaaGreatDoorW.PrintMore
attribute [local go_sem] max2_int min2_int max_two min_two max_three min_three max_four min_four
set_option linter.unusedVariables false
set_option linter.unusedSimpArgs false
def errW : Option Int → Value
  | none => .nilIface
  | some c => .iface 0 (.int .i64 c)
theorem errW_none : errW none = .nilIface := rfl
theorem errW_some (c : Int) : errW (some c) = .iface 0 (.int .i64 c) := rfl
structure S23 where
  f0 : Bool
  f1 : ByteArray
  f2 : Int
def z23 : S23 := ⟨false, (⟨#[]⟩ : ByteArray), (0 : Int)⟩
def k23 : Kd S23 := Kd.iso (Kd.pair Kd.bool (Kd.pair Kd.string (Kd.int .i64))) (fun x : S23 => (x.f0, x.f1, x.f2))
theorem k23_open {w : World} {x : S23} {cs : List Value} (h : k23.K w x cs) : cs = [.bool x.f0, .string x.f1, .int .i64 x.f2] := by
  obtain ⟨_, _, rfl, rfl, ⟨_, _, rfl, rfl, rfl⟩⟩ := h
  exact rfl
theorem k23_mk (w : World) (x : S23)  : k23.K w x [.bool x.f0, .string x.f1, .int .i64 x.f2] := ⟨[.bool x.f0], [.string x.f1, .int .i64 x.f2], rfl, rfl, ⟨[.string x.f1], [.int .i64 x.f2], rfl, rfl, rfl⟩⟩
end Go.Proofs.YtgjboghnnhcgiaaGreatDoor.R
