/- A number is meant by each way of writing it, and by no other number; for every input. (Text 4 of 5: what the law's proof rests on, joined; walks printed by the kit's print over given contracts, walks and plain laws by hand.) -/
import Derived.Lib.LaidTab
import Derived.Laws.EntriesVeiled
import Derived.Test.YtgjboghnnhcgiaaGreatDoorProg
import Derived.Below
import Derived.Deep.Draws
import Derived.Deep.AppendLies
import Derived.Maps.AppendAt
import Derived.OwnWalk
import Derived.Laws.BytesArg
import Derived.Laws.MakeOwn
import Derived.Laws.OwnMore
import Derived.Deep.OwnRows
import Derived.Tactics
import Derived.Lib.ConvBytes
import Derived.Laws.Slices
import Derived.WalkKit
import Derived.KernelRfl
import Derived.RowKit3
import Derived.Deep.LoopGhost
import Derived.Deep.QuietTactic
import Derived.BigQuiet
import Derived.WideLaws
import Derived.Deep.DeepCutAuto
import Derived.Deep.CutBlock
import Derived.Deep.RegionHeld3
import Derived.Laws.Rows
import Derived.Lib.AppendStr
import Derived.ArgAppend
import Derived.Laws.IdiomCopy
import Derived.OrdersHeld
import Derived.Laws.BitsLemmas
import Derived.RowKit
import Derived.Laws.Cover1
import Derived.Laws.Runes
import Derived.Test.YtgjboghnnhcgiaaGreatDoorVsm0
import Derived.Test.YtgjboghnnhcgiaaGreatDoorVsm1
import Derived.Test.YtgjboghnnhcgiaaGreatDoorVsm2
namespace Go.Proofs.YtgjboghnnhcgiaaGreatDoor
open Go.RowKit
set_option linter.unusedVariables false
set_option linter.unusedSimpArgs false
theorem heldOf {w W W1 : World} {B : Nat} {a0 a1 a2 a3 : Addr} {v0 v1 v2 v3 : Value} (b : Below B W W1) (hB : W.heap.size ≤ B) (h : W.cell? a0 = some v0 ∧ W.cell? a1 = some v1 ∧ W.cell? a2 = some v2 ∧ W.cell? a3 = some v3 ∧ Below w.heap.size w W) :
    W1.cell? a0 = some v0 ∧ W1.cell? a1 = some v1 ∧ W1.cell? a2 = some v2 ∧ W1.cell? a3 = some v3 ∧ Below w.heap.size w W1 :=
  ⟨below_cellOf b hB h.1, below_cellOf b hB h.2.1, below_cellOf b hB h.2.2.1, below_cellOf b hB h.2.2.2.1, below_on h.2.2.2.2 b (Nat.le_trans h.2.2.2.2.size hB)⟩
def heldS (w : World) (n : Bool) (d : ByteArray) (k : Nat) (a : Addr) (v : Value) (w' : World) : Prop := w'.cell? ⟨w.heap.size, 0, none⟩ = some (.bool n) ∧ w'.cell? ⟨w.heap.size, 1, none⟩ = some (.string d) ∧ w'.cell? ⟨w.heap.size, 2, none⟩ = some (.int .i64 k) ∧ w'.cell? a = some v ∧ Below w.heap.size w w'
theorem cell_al {W : World} {a : Addr} {v : Value} (h : W.cell? a = some v) (o : Obj) : (W.alloc o).cell? a = some v := below_cellOf ((Below.refl W.heap.size W).alloc (Nat.le_refl _) o) (Nat.le_refl _) h
theorem cell_dr {W : World} {a : Addr} {v : Value} (h : W.cell? a = some v) : W.drew.cell? a = some v := by simpa using h
theorem ascTab {w W : World} (h : Lib.TabIs Tryz.prog w "strings.asciiSpace" .u8 Lib.asciiSpaceTab) (b : Below w.heap.size w W) : Lib.TabIs Tryz.prog W "strings.asciiSpace" .u8 Lib.asciiSpaceTab := by
  have hg : Tryz.prog.globalNamed "strings.asciiSpace" = some 0 := by kernel_rfl
  unfold Lib.TabIs World.var? at h ⊢
  rw [hg, Option.bind_some] at h ⊢
  by_cases hlt : 0 < w.heap.size
  · rw [b.block _ hlt]; exact h
  · rw [Array.getElem?_eq_none (by omega)] at h; cases h
set_option maxRecDepth 100000 in
set_option maxHeartbeats 4000000 in
theorem of_lang_any (lang : ByteArray) (n : Bool) (d : ByteArray) (k : Nat) (L : List UInt8) (b : Bool) (hDg : Dg L) (w : World) (hT : Lib.TabIs Tryz.prog w "strings.asciiSpace" .u8 Lib.asciiSpaceTab)
    (cO : ∀ W, Calls Tryz.prog 55 #[decV n d k] W fun e w' => e = .returned (numV L k b) ∧ Below W.heap.size W w') :
    Calls Tryz.prog 30 #[.string lang, decV n d k] w fun e w' => e = .returned (.int .i64 (pick lang (table L k b))) ∧ Below w.heap.size w w' := by
  have cR := fun w => rules_any w
  obtain ⟨RES, hRES⟩ : ∃ R, pick lang (table L k b) = R := ⟨_, rfl⟩
  rw [hRES]
  have cL0 := fun W => en_any L k b W hDg
  have cL1 := fun W => fr_any L k b W hDg
  have cL2 := fun W => es_any L k b W hDg
  have cL3 := fun W => polish_any L k b W hDg
  have cL4 := fun W => russian_any L k b W hDg
  have cL5 := fun W => czech_any L k b W hDg
  have cL6 := fun W => arabic_any L k b W hDg
  unfold decV at *
  have bA := ((Below.refl w.heap.size w).alloc (Nat.le_refl _) (.cells #[.bool n, .string d, .int .i64 k] 23)).alloc (by simp) (.cells rulesCells 103)
  have hb0 : ((w.alloc (.cells #[.bool n, .string d, .int .i64 k] 23)).alloc (.cells rulesCells 103)).heap[w.heap.size]? = some (.cells #[.bool n, .string d, .int .i64 k] 23) := by
    rw [Below.heap_alloc _ _ _ (by simp)]; exact heap_alloc_new w _
  have hb1 : ((w.alloc (.cells #[.bool n, .string d, .int .i64 k] 23)).alloc (.cells rulesCells 103)).heap[w.heap.size + 1]? = some (.cells rulesCells 103) := by
    have := heap_alloc_new (w.alloc (.cells #[.bool n, .string d, .int .i64 k] 23)) (.cells rulesCells 103)
    rw [show (w.alloc (.cells #[.bool n, .string d, .int .i64 k] 23)).heap.size = w.heap.size + 1 by simp] at this
    exact this
  go_enter Tryz.func30, Tryz.ntmps30
  go_wp2_with (go_at_call 52; refine (cR _).mono ?_; rintro e W1 ⟨rfl, rfl⟩)
  go_loopg [9] 7 (fun gk si wx => ∃ i : Nat, si = .int .i64 i ∧ i ≤ 7 ∧ Below w.heap.size w wx ∧ wx.heap[w.heap.size]? = some (.cells #[.bool n, .string d, .int .i64 k] 23) ∧ wx.heap[w.heap.size + 1]? = some (.cells rulesCells 103) ∧ pick lang ((table L k b).drop i) = RES ∧ 7 ≤ i + gk)
  case atStart => exact ⟨0, rfl, by omega, bA, hb0, hb1, hRES, by omega⟩
  case round =>
    obtain ⟨i, rfl, hi, hbw, hB0, hB1, hp, hfu⟩ := hrel
    clear bA hb0 hb1 hRES
    have d0 := (Lib.cell_of_heap hB0 0).trans (by rfl : _ = some (.bool n))
    have d1 := (Lib.cell_of_heap hB0 1).trans (by rfl : _ = some (.string d))
    have d2 := (Lib.cell_of_heap hB0 2).trans (by rfl : _ = some (.int .i64 (k : Int)))
    have hsz := hbw.size
    have hs1 : w.heap.size + 1 < wr.heap.size := (Array.getElem?_eq_some_iff.1 hB1).1
    rcases (show i = 7 ∨ i = 0 ∨ i = 1 ∨ i = 2 ∨ i = 3 ∨ i = 4 ∨ i = 5 ∨ i = 6 by omega) with rfl | rfl | rfl | rfl | rfl | rfl | rfl | rfl
    · have HP : Hid (0 = RES) := Lib.hid hp
      clear hp
      go_wp2
      go_ret
      exact ⟨by rw [← HP.out]; rfl, hbw⟩
    · obtain ⟨f, rfl⟩ : ∃ f, gk = f + 1 := ⟨gk - 1, by omega⟩
      have r0 := (Lib.cell_of_heap hB1 0).trans (by rfl : _ = some (.string ⟨#[101, 110, 32, 100, 101, 32, 110, 108, 32, 115, 118]⟩))
      have r1 := (Lib.cell_of_heap hB1 1).trans (by rfl : _ = some (.func (.func 93) #[] #[]))
      have cF := fun W (h : Below w.heap.size w W) => fields_c ⟨#[101, 110, 32, 100, 101, 32, 110, 108, 32, 115, 118]⟩ W (by decide) (by decide) (ascTab hT h)
      obtain ⟨F, hF⟩ : ∃ F, Lib.fields (⟨#[101, 110, 32, 100, 101, 32, 110, 108, 32, 115, 118]⟩ : ByteArray).data.toList = F := ⟨_, rfl⟩
      have hFl : 0 < F.length ∧ F.length < 1000 := by rw [← hF]; decide +kernel
      have cC := contains_h F lang (wr.alloc (.cells #[.string ⟨#[101, 110, 32, 100, 101, 32, 110, 108, 32, 115, 118]⟩, .func (.func 93) #[] #[]] 103)) (wr.heap.size + 1) (by simp) hFl.1 hFl.2
      rw [hF] at cF
      have hp' : (if Lib.containsS (F.map mkB) lang then enC L k else pick lang ((table L k b).drop 1)) = RES := by rw [← hF]; exact hp
      obtain ⟨B, hB⟩ : ∃ B, Lib.containsS (F.map mkB) lang = B := ⟨_, rfl⟩
      rw [hB] at cC hp'
      clear hp hF hFl hB
      have bA := hbw.alloc hsz (.cells #[.string ⟨#[101, 110, 32, 100, 101, 32, 110, 108, 32, 115, 118]⟩, .func (.func 93) #[] #[]] 103)
      have bB := bA.alloc (bA.size) (.cells (F.map fun l => Value.string ⟨l.toArray⟩).toArray 9)
      cases B with
      | false =>
        have HP : Hid (pick lang ((table L k b).drop 1) = RES) := Lib.hid hp'
        clear hp'
        have q0 : ((wr.alloc (.cells #[.string ⟨#[101, 110, 32, 100, 101, 32, 110, 108, 32, 115, 118]⟩, .func (.func 93) #[] #[]] 103)).alloc (.cells (F.map fun l => Value.string ⟨l.toArray⟩).toArray 9)).heap[w.heap.size]? = some (.cells #[.bool n, .string d, .int .i64 k] 23) := by rw [Below.heap_alloc _ _ _ (by simp; omega), Below.heap_alloc _ _ _ (by omega)]; exact hB0
        have q1 : ((wr.alloc (.cells #[.string ⟨#[101, 110, 32, 100, 101, 32, 110, 108, 32, 115, 118]⟩, .func (.func 93) #[] #[]] 103)).alloc (.cells (F.map fun l => Value.string ⟨l.toArray⟩).toArray 9)).heap[w.heap.size + 1]? = some (.cells rulesCells 103) := by rw [Below.heap_alloc _ _ _ (by simp; omega), Below.heap_alloc _ _ _ (by omega)]; exact hB1
        go_wp2_with (first
          | (go_at_call 54; (with_reducible refine (cF _ bA).mono ?_); rintro e W1 ⟨rfl, rfl⟩)
          | (go_at_call 53; (with_reducible refine cC.mono ?_); rintro e W1 ⟨rfl, rfl⟩))
        go_roundg f
        case measure => omega
        case rel => exact ⟨1, rfl, by omega, bB, q0, q1, HP.out, by omega⟩
      | true =>
        have HP : Hid (enC L k = RES) := Lib.hid hp'
        clear hp'
        have hS0 : heldS w n d k ⟨wr.heap.size, 1, none⟩ (.func (.func 93) #[] #[]) ((wr.alloc (.cells #[.string ⟨#[101, 110, 32, 100, 101, 32, 110, 108, 32, 115, 118]⟩, .func (.func 93) #[] #[]] 103)).alloc (.cells (F.map fun l => Value.string ⟨l.toArray⟩).toArray 9)).drew := by
          exact ⟨cell_dr (cell_al (cell_al d0 _) _), cell_dr (cell_al (cell_al d1 _) _), cell_dr (cell_al (cell_al d2 _) _), cell_dr (cell_al ((Lib.cell_of_heap (heap_alloc_new wr _) 1).trans (by rfl)) _), bB.drew⟩
        go_wp2_with (first
          | (go_at_call 54; (with_reducible refine (cF _ bA).mono ?_); rintro e W1 ⟨rfl, rfl⟩)
          | (go_at_call 53; (with_reducible refine cC.mono ?_); rintro e W1 ⟨rfl, rfl⟩))
        go_region_held3 (fun w' => w'.cell? ⟨w.heap.size, 0, none⟩ = some (.bool n) ∧ w'.cell? ⟨w.heap.size, 1, none⟩ = some (.string d) ∧ w'.cell? ⟨w.heap.size, 2, none⟩ = some (.int .i64 k) ∧ w'.cell? ⟨wr.heap.size, 1, none⟩ = some (.func (.func 93) #[] #[]) ∧ Below w.heap.size w w')
          (first | exact h10 | exact hS0)
          (first
            | (go_at_call 55; (with_reducible refine (cO _).mono ?_); rintro e W1 ⟨rfl, b1⟩; have h10 := heldOf b1 (Nat.le_refl _) (by assumption))
            | (go_at_call 93; (with_reducible refine (cL0 _).mono ?_); rintro e W1 ⟨rfl, b1⟩; have h10 := heldOf b1 (Nat.le_refl _) (by assumption)))
        go_wp2
        go_ret
        exact ⟨ret_int HP.out, h10.2.2.2.2⟩
    · obtain ⟨f, rfl⟩ : ∃ f, gk = f + 1 := ⟨gk - 1, by omega⟩
      have r0 := (Lib.cell_of_heap hB1 2).trans (by rfl : _ = some (.string ⟨#[102, 114]⟩))
      have r1 := (Lib.cell_of_heap hB1 3).trans (by rfl : _ = some (.func (.func 94) #[] #[]))
      have cF := fun W (h : Below w.heap.size w W) => fields_c ⟨#[102, 114]⟩ W (by decide) (by decide) (ascTab hT h)
      obtain ⟨F, hF⟩ : ∃ F, Lib.fields (⟨#[102, 114]⟩ : ByteArray).data.toList = F := ⟨_, rfl⟩
      have hFl : 0 < F.length ∧ F.length < 1000 := by rw [← hF]; decide +kernel
      have cC := contains_h F lang (wr.alloc (.cells #[.string ⟨#[102, 114]⟩, .func (.func 94) #[] #[]] 103)) (wr.heap.size + 1) (by simp) hFl.1 hFl.2
      rw [hF] at cF
      have hp' : (if Lib.containsS (F.map mkB) lang then frC L else pick lang ((table L k b).drop 2)) = RES := by rw [← hF]; exact hp
      obtain ⟨B, hB⟩ : ∃ B, Lib.containsS (F.map mkB) lang = B := ⟨_, rfl⟩
      rw [hB] at cC hp'
      clear hp hF hFl hB
      have bA := hbw.alloc hsz (.cells #[.string ⟨#[102, 114]⟩, .func (.func 94) #[] #[]] 103)
      have bB := bA.alloc (bA.size) (.cells (F.map fun l => Value.string ⟨l.toArray⟩).toArray 9)
      cases B with
      | false =>
        have HP : Hid (pick lang ((table L k b).drop 2) = RES) := Lib.hid hp'
        clear hp'
        have q0 : ((wr.alloc (.cells #[.string ⟨#[102, 114]⟩, .func (.func 94) #[] #[]] 103)).alloc (.cells (F.map fun l => Value.string ⟨l.toArray⟩).toArray 9)).heap[w.heap.size]? = some (.cells #[.bool n, .string d, .int .i64 k] 23) := by rw [Below.heap_alloc _ _ _ (by simp; omega), Below.heap_alloc _ _ _ (by omega)]; exact hB0
        have q1 : ((wr.alloc (.cells #[.string ⟨#[102, 114]⟩, .func (.func 94) #[] #[]] 103)).alloc (.cells (F.map fun l => Value.string ⟨l.toArray⟩).toArray 9)).heap[w.heap.size + 1]? = some (.cells rulesCells 103) := by rw [Below.heap_alloc _ _ _ (by simp; omega), Below.heap_alloc _ _ _ (by omega)]; exact hB1
        go_wp2_with (first
          | (go_at_call 54; (with_reducible refine (cF _ bA).mono ?_); rintro e W1 ⟨rfl, rfl⟩)
          | (go_at_call 53; (with_reducible refine cC.mono ?_); rintro e W1 ⟨rfl, rfl⟩))
        go_roundg f
        case measure => omega
        case rel => exact ⟨2, rfl, by omega, bB, q0, q1, HP.out, by omega⟩
      | true =>
        have HP : Hid (frC L = RES) := Lib.hid hp'
        clear hp'
        have hS0 : heldS w n d k ⟨wr.heap.size, 1, none⟩ (.func (.func 94) #[] #[]) ((wr.alloc (.cells #[.string ⟨#[102, 114]⟩, .func (.func 94) #[] #[]] 103)).alloc (.cells (F.map fun l => Value.string ⟨l.toArray⟩).toArray 9)).drew := by
          exact ⟨cell_dr (cell_al (cell_al d0 _) _), cell_dr (cell_al (cell_al d1 _) _), cell_dr (cell_al (cell_al d2 _) _), cell_dr (cell_al ((Lib.cell_of_heap (heap_alloc_new wr _) 1).trans (by rfl)) _), bB.drew⟩
        go_wp2_with (first
          | (go_at_call 54; (with_reducible refine (cF _ bA).mono ?_); rintro e W1 ⟨rfl, rfl⟩)
          | (go_at_call 53; (with_reducible refine cC.mono ?_); rintro e W1 ⟨rfl, rfl⟩))
        go_region_held3 (fun w' => w'.cell? ⟨w.heap.size, 0, none⟩ = some (.bool n) ∧ w'.cell? ⟨w.heap.size, 1, none⟩ = some (.string d) ∧ w'.cell? ⟨w.heap.size, 2, none⟩ = some (.int .i64 k) ∧ w'.cell? ⟨wr.heap.size, 1, none⟩ = some (.func (.func 94) #[] #[]) ∧ Below w.heap.size w w')
          (first | exact h10 | exact hS0)
          (first
            | (go_at_call 55; (with_reducible refine (cO _).mono ?_); rintro e W1 ⟨rfl, b1⟩; have h10 := heldOf b1 (Nat.le_refl _) (by assumption))
            | (go_at_call 94; (with_reducible refine (cL1 _).mono ?_); rintro e W1 ⟨rfl, b1⟩; have h10 := heldOf b1 (Nat.le_refl _) (by assumption)))
        go_wp2
        go_ret
        exact ⟨ret_int HP.out, h10.2.2.2.2⟩
    · obtain ⟨f, rfl⟩ : ∃ f, gk = f + 1 := ⟨gk - 1, by omega⟩
      have r0 := (Lib.cell_of_heap hB1 4).trans (by rfl : _ = some (.string ⟨#[101, 115]⟩))
      have r1 := (Lib.cell_of_heap hB1 5).trans (by rfl : _ = some (.func (.func 95) #[] #[]))
      have cF := fun W (h : Below w.heap.size w W) => fields_c ⟨#[101, 115]⟩ W (by decide) (by decide) (ascTab hT h)
      obtain ⟨F, hF⟩ : ∃ F, Lib.fields (⟨#[101, 115]⟩ : ByteArray).data.toList = F := ⟨_, rfl⟩
      have hFl : 0 < F.length ∧ F.length < 1000 := by rw [← hF]; decide +kernel
      have cC := contains_h F lang (wr.alloc (.cells #[.string ⟨#[101, 115]⟩, .func (.func 95) #[] #[]] 103)) (wr.heap.size + 1) (by simp) hFl.1 hFl.2
      rw [hF] at cF
      have hp' : (if Lib.containsS (F.map mkB) lang then esC L b else pick lang ((table L k b).drop 3)) = RES := by rw [← hF]; exact hp
      obtain ⟨B, hB⟩ : ∃ B, Lib.containsS (F.map mkB) lang = B := ⟨_, rfl⟩
      rw [hB] at cC hp'
      clear hp hF hFl hB
      have bA := hbw.alloc hsz (.cells #[.string ⟨#[101, 115]⟩, .func (.func 95) #[] #[]] 103)
      have bB := bA.alloc (bA.size) (.cells (F.map fun l => Value.string ⟨l.toArray⟩).toArray 9)
      cases B with
      | false =>
        have HP : Hid (pick lang ((table L k b).drop 3) = RES) := Lib.hid hp'
        clear hp'
        have q0 : ((wr.alloc (.cells #[.string ⟨#[101, 115]⟩, .func (.func 95) #[] #[]] 103)).alloc (.cells (F.map fun l => Value.string ⟨l.toArray⟩).toArray 9)).heap[w.heap.size]? = some (.cells #[.bool n, .string d, .int .i64 k] 23) := by rw [Below.heap_alloc _ _ _ (by simp; omega), Below.heap_alloc _ _ _ (by omega)]; exact hB0
        have q1 : ((wr.alloc (.cells #[.string ⟨#[101, 115]⟩, .func (.func 95) #[] #[]] 103)).alloc (.cells (F.map fun l => Value.string ⟨l.toArray⟩).toArray 9)).heap[w.heap.size + 1]? = some (.cells rulesCells 103) := by rw [Below.heap_alloc _ _ _ (by simp; omega), Below.heap_alloc _ _ _ (by omega)]; exact hB1
        go_wp2_with (first
          | (go_at_call 54; (with_reducible refine (cF _ bA).mono ?_); rintro e W1 ⟨rfl, rfl⟩)
          | (go_at_call 53; (with_reducible refine cC.mono ?_); rintro e W1 ⟨rfl, rfl⟩))
        go_roundg f
        case measure => omega
        case rel => exact ⟨3, rfl, by omega, bB, q0, q1, HP.out, by omega⟩
      | true =>
        have HP : Hid (esC L b = RES) := Lib.hid hp'
        clear hp'
        have hS0 : heldS w n d k ⟨wr.heap.size, 1, none⟩ (.func (.func 95) #[] #[]) ((wr.alloc (.cells #[.string ⟨#[101, 115]⟩, .func (.func 95) #[] #[]] 103)).alloc (.cells (F.map fun l => Value.string ⟨l.toArray⟩).toArray 9)).drew := by
          exact ⟨cell_dr (cell_al (cell_al d0 _) _), cell_dr (cell_al (cell_al d1 _) _), cell_dr (cell_al (cell_al d2 _) _), cell_dr (cell_al ((Lib.cell_of_heap (heap_alloc_new wr _) 1).trans (by rfl)) _), bB.drew⟩
        go_wp2_with (first
          | (go_at_call 54; (with_reducible refine (cF _ bA).mono ?_); rintro e W1 ⟨rfl, rfl⟩)
          | (go_at_call 53; (with_reducible refine cC.mono ?_); rintro e W1 ⟨rfl, rfl⟩))
        go_region_held3 (fun w' => w'.cell? ⟨w.heap.size, 0, none⟩ = some (.bool n) ∧ w'.cell? ⟨w.heap.size, 1, none⟩ = some (.string d) ∧ w'.cell? ⟨w.heap.size, 2, none⟩ = some (.int .i64 k) ∧ w'.cell? ⟨wr.heap.size, 1, none⟩ = some (.func (.func 95) #[] #[]) ∧ Below w.heap.size w w')
          (first | exact h10 | exact hS0)
          (first
            | (go_at_call 55; (with_reducible refine (cO _).mono ?_); rintro e W1 ⟨rfl, b1⟩; have h10 := heldOf b1 (Nat.le_refl _) (by assumption))
            | (go_at_call 95; (with_reducible refine (cL2 _).mono ?_); rintro e W1 ⟨rfl, b1⟩; have h10 := heldOf b1 (Nat.le_refl _) (by assumption)))
        go_wp2
        go_ret
        exact ⟨ret_int HP.out, h10.2.2.2.2⟩
    · obtain ⟨f, rfl⟩ : ∃ f, gk = f + 1 := ⟨gk - 1, by omega⟩
      have r0 := (Lib.cell_of_heap hB1 6).trans (by rfl : _ = some (.string ⟨#[112, 108]⟩))
      have r1 := (Lib.cell_of_heap hB1 7).trans (by rfl : _ = some (.func (.func 96) #[] #[]))
      have cF := fun W (h : Below w.heap.size w W) => fields_c ⟨#[112, 108]⟩ W (by decide) (by decide) (ascTab hT h)
      obtain ⟨F, hF⟩ : ∃ F, Lib.fields (⟨#[112, 108]⟩ : ByteArray).data.toList = F := ⟨_, rfl⟩
      have hFl : 0 < F.length ∧ F.length < 1000 := by rw [← hF]; decide +kernel
      have cC := contains_h F lang (wr.alloc (.cells #[.string ⟨#[112, 108]⟩, .func (.func 96) #[] #[]] 103)) (wr.heap.size + 1) (by simp) hFl.1 hFl.2
      rw [hF] at cF
      have hp' : (if Lib.containsS (F.map mkB) lang then polC L k else pick lang ((table L k b).drop 4)) = RES := by rw [← hF]; exact hp
      obtain ⟨B, hB⟩ : ∃ B, Lib.containsS (F.map mkB) lang = B := ⟨_, rfl⟩
      rw [hB] at cC hp'
      clear hp hF hFl hB
      have bA := hbw.alloc hsz (.cells #[.string ⟨#[112, 108]⟩, .func (.func 96) #[] #[]] 103)
      have bB := bA.alloc (bA.size) (.cells (F.map fun l => Value.string ⟨l.toArray⟩).toArray 9)
      cases B with
      | false =>
        have HP : Hid (pick lang ((table L k b).drop 4) = RES) := Lib.hid hp'
        clear hp'
        have q0 : ((wr.alloc (.cells #[.string ⟨#[112, 108]⟩, .func (.func 96) #[] #[]] 103)).alloc (.cells (F.map fun l => Value.string ⟨l.toArray⟩).toArray 9)).heap[w.heap.size]? = some (.cells #[.bool n, .string d, .int .i64 k] 23) := by rw [Below.heap_alloc _ _ _ (by simp; omega), Below.heap_alloc _ _ _ (by omega)]; exact hB0
        have q1 : ((wr.alloc (.cells #[.string ⟨#[112, 108]⟩, .func (.func 96) #[] #[]] 103)).alloc (.cells (F.map fun l => Value.string ⟨l.toArray⟩).toArray 9)).heap[w.heap.size + 1]? = some (.cells rulesCells 103) := by rw [Below.heap_alloc _ _ _ (by simp; omega), Below.heap_alloc _ _ _ (by omega)]; exact hB1
        go_wp2_with (first
          | (go_at_call 54; (with_reducible refine (cF _ bA).mono ?_); rintro e W1 ⟨rfl, rfl⟩)
          | (go_at_call 53; (with_reducible refine cC.mono ?_); rintro e W1 ⟨rfl, rfl⟩))
        go_roundg f
        case measure => omega
        case rel => exact ⟨4, rfl, by omega, bB, q0, q1, HP.out, by omega⟩
      | true =>
        have HP : Hid (polC L k = RES) := Lib.hid hp'
        clear hp'
        have hS0 : heldS w n d k ⟨wr.heap.size, 1, none⟩ (.func (.func 96) #[] #[]) ((wr.alloc (.cells #[.string ⟨#[112, 108]⟩, .func (.func 96) #[] #[]] 103)).alloc (.cells (F.map fun l => Value.string ⟨l.toArray⟩).toArray 9)).drew := by
          exact ⟨cell_dr (cell_al (cell_al d0 _) _), cell_dr (cell_al (cell_al d1 _) _), cell_dr (cell_al (cell_al d2 _) _), cell_dr (cell_al ((Lib.cell_of_heap (heap_alloc_new wr _) 1).trans (by rfl)) _), bB.drew⟩
        go_wp2_with (first
          | (go_at_call 54; (with_reducible refine (cF _ bA).mono ?_); rintro e W1 ⟨rfl, rfl⟩)
          | (go_at_call 53; (with_reducible refine cC.mono ?_); rintro e W1 ⟨rfl, rfl⟩))
        go_region_held3 (fun w' => w'.cell? ⟨w.heap.size, 0, none⟩ = some (.bool n) ∧ w'.cell? ⟨w.heap.size, 1, none⟩ = some (.string d) ∧ w'.cell? ⟨w.heap.size, 2, none⟩ = some (.int .i64 k) ∧ w'.cell? ⟨wr.heap.size, 1, none⟩ = some (.func (.func 96) #[] #[]) ∧ Below w.heap.size w w')
          (first | exact h10 | exact hS0)
          (first
            | (go_at_call 55; (with_reducible refine (cO _).mono ?_); rintro e W1 ⟨rfl, b1⟩; have h10 := heldOf b1 (Nat.le_refl _) (by assumption))
            | (go_at_call 96; (with_reducible refine (cL3 _).mono ?_); rintro e W1 ⟨rfl, b1⟩; have h10 := heldOf b1 (Nat.le_refl _) (by assumption)))
        go_wp2
        go_ret
        exact ⟨ret_int HP.out, h10.2.2.2.2⟩
    · obtain ⟨f, rfl⟩ : ∃ f, gk = f + 1 := ⟨gk - 1, by omega⟩
      have r0 := (Lib.cell_of_heap hB1 8).trans (by rfl : _ = some (.string ⟨#[114, 117]⟩))
      have r1 := (Lib.cell_of_heap hB1 9).trans (by rfl : _ = some (.func (.func 97) #[] #[]))
      have cF := fun W (h : Below w.heap.size w W) => fields_c ⟨#[114, 117]⟩ W (by decide) (by decide) (ascTab hT h)
      obtain ⟨F, hF⟩ : ∃ F, Lib.fields (⟨#[114, 117]⟩ : ByteArray).data.toList = F := ⟨_, rfl⟩
      have hFl : 0 < F.length ∧ F.length < 1000 := by rw [← hF]; decide +kernel
      have cC := contains_h F lang (wr.alloc (.cells #[.string ⟨#[114, 117]⟩, .func (.func 97) #[] #[]] 103)) (wr.heap.size + 1) (by simp) hFl.1 hFl.2
      rw [hF] at cF
      have hp' : (if Lib.containsS (F.map mkB) lang then rusC L k else pick lang ((table L k b).drop 5)) = RES := by rw [← hF]; exact hp
      obtain ⟨B, hB⟩ : ∃ B, Lib.containsS (F.map mkB) lang = B := ⟨_, rfl⟩
      rw [hB] at cC hp'
      clear hp hF hFl hB
      have bA := hbw.alloc hsz (.cells #[.string ⟨#[114, 117]⟩, .func (.func 97) #[] #[]] 103)
      have bB := bA.alloc (bA.size) (.cells (F.map fun l => Value.string ⟨l.toArray⟩).toArray 9)
      cases B with
      | false =>
        have HP : Hid (pick lang ((table L k b).drop 5) = RES) := Lib.hid hp'
        clear hp'
        have q0 : ((wr.alloc (.cells #[.string ⟨#[114, 117]⟩, .func (.func 97) #[] #[]] 103)).alloc (.cells (F.map fun l => Value.string ⟨l.toArray⟩).toArray 9)).heap[w.heap.size]? = some (.cells #[.bool n, .string d, .int .i64 k] 23) := by rw [Below.heap_alloc _ _ _ (by simp; omega), Below.heap_alloc _ _ _ (by omega)]; exact hB0
        have q1 : ((wr.alloc (.cells #[.string ⟨#[114, 117]⟩, .func (.func 97) #[] #[]] 103)).alloc (.cells (F.map fun l => Value.string ⟨l.toArray⟩).toArray 9)).heap[w.heap.size + 1]? = some (.cells rulesCells 103) := by rw [Below.heap_alloc _ _ _ (by simp; omega), Below.heap_alloc _ _ _ (by omega)]; exact hB1
        go_wp2_with (first
          | (go_at_call 54; (with_reducible refine (cF _ bA).mono ?_); rintro e W1 ⟨rfl, rfl⟩)
          | (go_at_call 53; (with_reducible refine cC.mono ?_); rintro e W1 ⟨rfl, rfl⟩))
        go_roundg f
        case measure => omega
        case rel => exact ⟨5, rfl, by omega, bB, q0, q1, HP.out, by omega⟩
      | true =>
        have HP : Hid (rusC L k = RES) := Lib.hid hp'
        clear hp'
        have hS0 : heldS w n d k ⟨wr.heap.size, 1, none⟩ (.func (.func 97) #[] #[]) ((wr.alloc (.cells #[.string ⟨#[114, 117]⟩, .func (.func 97) #[] #[]] 103)).alloc (.cells (F.map fun l => Value.string ⟨l.toArray⟩).toArray 9)).drew := by
          exact ⟨cell_dr (cell_al (cell_al d0 _) _), cell_dr (cell_al (cell_al d1 _) _), cell_dr (cell_al (cell_al d2 _) _), cell_dr (cell_al ((Lib.cell_of_heap (heap_alloc_new wr _) 1).trans (by rfl)) _), bB.drew⟩
        go_wp2_with (first
          | (go_at_call 54; (with_reducible refine (cF _ bA).mono ?_); rintro e W1 ⟨rfl, rfl⟩)
          | (go_at_call 53; (with_reducible refine cC.mono ?_); rintro e W1 ⟨rfl, rfl⟩))
        go_region_held3 (fun w' => w'.cell? ⟨w.heap.size, 0, none⟩ = some (.bool n) ∧ w'.cell? ⟨w.heap.size, 1, none⟩ = some (.string d) ∧ w'.cell? ⟨w.heap.size, 2, none⟩ = some (.int .i64 k) ∧ w'.cell? ⟨wr.heap.size, 1, none⟩ = some (.func (.func 97) #[] #[]) ∧ Below w.heap.size w w')
          (first | exact h10 | exact hS0)
          (first
            | (go_at_call 55; (with_reducible refine (cO _).mono ?_); rintro e W1 ⟨rfl, b1⟩; have h10 := heldOf b1 (Nat.le_refl _) (by assumption))
            | (go_at_call 97; (with_reducible refine (cL4 _).mono ?_); rintro e W1 ⟨rfl, b1⟩; have h10 := heldOf b1 (Nat.le_refl _) (by assumption)))
        go_wp2
        go_ret
        exact ⟨ret_int HP.out, h10.2.2.2.2⟩
    · obtain ⟨f, rfl⟩ : ∃ f, gk = f + 1 := ⟨gk - 1, by omega⟩
      have r0 := (Lib.cell_of_heap hB1 10).trans (by rfl : _ = some (.string ⟨#[99, 115]⟩))
      have r1 := (Lib.cell_of_heap hB1 11).trans (by rfl : _ = some (.func (.func 98) #[] #[]))
      have cF := fun W (h : Below w.heap.size w W) => fields_c ⟨#[99, 115]⟩ W (by decide) (by decide) (ascTab hT h)
      obtain ⟨F, hF⟩ : ∃ F, Lib.fields (⟨#[99, 115]⟩ : ByteArray).data.toList = F := ⟨_, rfl⟩
      have hFl : 0 < F.length ∧ F.length < 1000 := by rw [← hF]; decide +kernel
      have cC := contains_h F lang (wr.alloc (.cells #[.string ⟨#[99, 115]⟩, .func (.func 98) #[] #[]] 103)) (wr.heap.size + 1) (by simp) hFl.1 hFl.2
      rw [hF] at cF
      have hp' : (if Lib.containsS (F.map mkB) lang then czeC L k else pick lang ((table L k b).drop 6)) = RES := by rw [← hF]; exact hp
      obtain ⟨B, hB⟩ : ∃ B, Lib.containsS (F.map mkB) lang = B := ⟨_, rfl⟩
      rw [hB] at cC hp'
      clear hp hF hFl hB
      have bA := hbw.alloc hsz (.cells #[.string ⟨#[99, 115]⟩, .func (.func 98) #[] #[]] 103)
      have bB := bA.alloc (bA.size) (.cells (F.map fun l => Value.string ⟨l.toArray⟩).toArray 9)
      cases B with
      | false =>
        have HP : Hid (pick lang ((table L k b).drop 6) = RES) := Lib.hid hp'
        clear hp'
        have q0 : ((wr.alloc (.cells #[.string ⟨#[99, 115]⟩, .func (.func 98) #[] #[]] 103)).alloc (.cells (F.map fun l => Value.string ⟨l.toArray⟩).toArray 9)).heap[w.heap.size]? = some (.cells #[.bool n, .string d, .int .i64 k] 23) := by rw [Below.heap_alloc _ _ _ (by simp; omega), Below.heap_alloc _ _ _ (by omega)]; exact hB0
        have q1 : ((wr.alloc (.cells #[.string ⟨#[99, 115]⟩, .func (.func 98) #[] #[]] 103)).alloc (.cells (F.map fun l => Value.string ⟨l.toArray⟩).toArray 9)).heap[w.heap.size + 1]? = some (.cells rulesCells 103) := by rw [Below.heap_alloc _ _ _ (by simp; omega), Below.heap_alloc _ _ _ (by omega)]; exact hB1
        go_wp2_with (first
          | (go_at_call 54; (with_reducible refine (cF _ bA).mono ?_); rintro e W1 ⟨rfl, rfl⟩)
          | (go_at_call 53; (with_reducible refine cC.mono ?_); rintro e W1 ⟨rfl, rfl⟩))
        go_roundg f
        case measure => omega
        case rel => exact ⟨6, rfl, by omega, bB, q0, q1, HP.out, by omega⟩
      | true =>
        have HP : Hid (czeC L k = RES) := Lib.hid hp'
        clear hp'
        have hS0 : heldS w n d k ⟨wr.heap.size, 1, none⟩ (.func (.func 98) #[] #[]) ((wr.alloc (.cells #[.string ⟨#[99, 115]⟩, .func (.func 98) #[] #[]] 103)).alloc (.cells (F.map fun l => Value.string ⟨l.toArray⟩).toArray 9)).drew := by
          exact ⟨cell_dr (cell_al (cell_al d0 _) _), cell_dr (cell_al (cell_al d1 _) _), cell_dr (cell_al (cell_al d2 _) _), cell_dr (cell_al ((Lib.cell_of_heap (heap_alloc_new wr _) 1).trans (by rfl)) _), bB.drew⟩
        go_wp2_with (first
          | (go_at_call 54; (with_reducible refine (cF _ bA).mono ?_); rintro e W1 ⟨rfl, rfl⟩)
          | (go_at_call 53; (with_reducible refine cC.mono ?_); rintro e W1 ⟨rfl, rfl⟩))
        go_region_held3 (fun w' => w'.cell? ⟨w.heap.size, 0, none⟩ = some (.bool n) ∧ w'.cell? ⟨w.heap.size, 1, none⟩ = some (.string d) ∧ w'.cell? ⟨w.heap.size, 2, none⟩ = some (.int .i64 k) ∧ w'.cell? ⟨wr.heap.size, 1, none⟩ = some (.func (.func 98) #[] #[]) ∧ Below w.heap.size w w')
          (first | exact h10 | exact hS0)
          (first
            | (go_at_call 55; (with_reducible refine (cO _).mono ?_); rintro e W1 ⟨rfl, b1⟩; have h10 := heldOf b1 (Nat.le_refl _) (by assumption))
            | (go_at_call 98; (with_reducible refine (cL5 _).mono ?_); rintro e W1 ⟨rfl, b1⟩; have h10 := heldOf b1 (Nat.le_refl _) (by assumption)))
        go_wp2
        go_ret
        exact ⟨ret_int HP.out, h10.2.2.2.2⟩
    · obtain ⟨f, rfl⟩ : ∃ f, gk = f + 1 := ⟨gk - 1, by omega⟩
      have r0 := (Lib.cell_of_heap hB1 12).trans (by rfl : _ = some (.string ⟨#[97, 114]⟩))
      have r1 := (Lib.cell_of_heap hB1 13).trans (by rfl : _ = some (.func (.func 99) #[] #[]))
      have cF := fun W (h : Below w.heap.size w W) => fields_c ⟨#[97, 114]⟩ W (by decide) (by decide) (ascTab hT h)
      obtain ⟨F, hF⟩ : ∃ F, Lib.fields (⟨#[97, 114]⟩ : ByteArray).data.toList = F := ⟨_, rfl⟩
      have hFl : 0 < F.length ∧ F.length < 1000 := by rw [← hF]; decide +kernel
      have cC := contains_h F lang (wr.alloc (.cells #[.string ⟨#[97, 114]⟩, .func (.func 99) #[] #[]] 103)) (wr.heap.size + 1) (by simp) hFl.1 hFl.2
      rw [hF] at cF
      have hp' : (if Lib.containsS (F.map mkB) lang then araC L b else pick lang ((table L k b).drop 7)) = RES := by rw [← hF]; exact hp
      obtain ⟨B, hB⟩ : ∃ B, Lib.containsS (F.map mkB) lang = B := ⟨_, rfl⟩
      rw [hB] at cC hp'
      clear hp hF hFl hB
      have bA := hbw.alloc hsz (.cells #[.string ⟨#[97, 114]⟩, .func (.func 99) #[] #[]] 103)
      have bB := bA.alloc (bA.size) (.cells (F.map fun l => Value.string ⟨l.toArray⟩).toArray 9)
      cases B with
      | false =>
        have HP : Hid (pick lang ((table L k b).drop 7) = RES) := Lib.hid hp'
        clear hp'
        have q0 : ((wr.alloc (.cells #[.string ⟨#[97, 114]⟩, .func (.func 99) #[] #[]] 103)).alloc (.cells (F.map fun l => Value.string ⟨l.toArray⟩).toArray 9)).heap[w.heap.size]? = some (.cells #[.bool n, .string d, .int .i64 k] 23) := by rw [Below.heap_alloc _ _ _ (by simp; omega), Below.heap_alloc _ _ _ (by omega)]; exact hB0
        have q1 : ((wr.alloc (.cells #[.string ⟨#[97, 114]⟩, .func (.func 99) #[] #[]] 103)).alloc (.cells (F.map fun l => Value.string ⟨l.toArray⟩).toArray 9)).heap[w.heap.size + 1]? = some (.cells rulesCells 103) := by rw [Below.heap_alloc _ _ _ (by simp; omega), Below.heap_alloc _ _ _ (by omega)]; exact hB1
        go_wp2_with (first
          | (go_at_call 54; (with_reducible refine (cF _ bA).mono ?_); rintro e W1 ⟨rfl, rfl⟩)
          | (go_at_call 53; (with_reducible refine cC.mono ?_); rintro e W1 ⟨rfl, rfl⟩))
        go_roundg f
        case measure => omega
        case rel => exact ⟨7, rfl, by omega, bB, q0, q1, HP.out, by omega⟩
      | true =>
        have HP : Hid (araC L b = RES) := Lib.hid hp'
        clear hp'
        have hS0 : heldS w n d k ⟨wr.heap.size, 1, none⟩ (.func (.func 99) #[] #[]) ((wr.alloc (.cells #[.string ⟨#[97, 114]⟩, .func (.func 99) #[] #[]] 103)).alloc (.cells (F.map fun l => Value.string ⟨l.toArray⟩).toArray 9)).drew := by
          exact ⟨cell_dr (cell_al (cell_al d0 _) _), cell_dr (cell_al (cell_al d1 _) _), cell_dr (cell_al (cell_al d2 _) _), cell_dr (cell_al ((Lib.cell_of_heap (heap_alloc_new wr _) 1).trans (by rfl)) _), bB.drew⟩
        go_wp2_with (first
          | (go_at_call 54; (with_reducible refine (cF _ bA).mono ?_); rintro e W1 ⟨rfl, rfl⟩)
          | (go_at_call 53; (with_reducible refine cC.mono ?_); rintro e W1 ⟨rfl, rfl⟩))
        go_region_held3 (fun w' => w'.cell? ⟨w.heap.size, 0, none⟩ = some (.bool n) ∧ w'.cell? ⟨w.heap.size, 1, none⟩ = some (.string d) ∧ w'.cell? ⟨w.heap.size, 2, none⟩ = some (.int .i64 k) ∧ w'.cell? ⟨wr.heap.size, 1, none⟩ = some (.func (.func 99) #[] #[]) ∧ Below w.heap.size w w')
          (first | exact h10 | exact hS0)
          (first
            | (go_at_call 55; (with_reducible refine (cO _).mono ?_); rintro e W1 ⟨rfl, b1⟩; have h10 := heldOf b1 (Nat.le_refl _) (by assumption))
            | (go_at_call 99; (with_reducible refine (cL6 _).mono ?_); rintro e W1 ⟨rfl, b1⟩; have h10 := heldOf b1 (Nat.le_refl _) (by assumption)))
        go_wp2
        go_ret
        exact ⟨ret_int HP.out, h10.2.2.2.2⟩
end Go.Proofs.YtgjboghnnhcgiaaGreatDoor
namespace Go.Proofs.YtgjboghnnhcgiaaGreatDoor
open Go.RowKit
set_option linter.unusedVariables false
set_option linter.unusedSimpArgs false
def NIn (w : World) (j : Nat) (L : List UInt8) (v : Int) (b : Bool) (W : World) : Prop :=
  W.cell? ⟨j, 0, none⟩ = some (.string ⟨L.toArray⟩) ∧ W.cell? ⟨j, 1, none⟩ = some (.int .i64 v) ∧ W.cell? ⟨j, 2, none⟩ = some (.bool b) ∧ Below w.heap.size w W
theorem NIn.get {w W : World} {j : Nat} {L : List UInt8} {v : Int} {b : Bool} (h : NIn w j L v b W) : W.cell? ⟨j, 0, none⟩ = some (.string ⟨L.toArray⟩) ∧ W.cell? ⟨j, 1, none⟩ = some (.int .i64 v) ∧ W.cell? ⟨j, 2, none⟩ = some (.bool b) := ⟨h.1, h.2.1, h.2.2.1⟩
theorem NIn.drew {w W : World} {j : Nat} {L : List UInt8} {v : Int} {b : Bool} (h : NIn w j L v b W) : NIn w j L v b W.drew := ⟨cell_dr h.1, cell_dr h.2.1, cell_dr h.2.2.1, h.2.2.2.drew⟩
theorem NIn.step {w W W1 : World} {j : Nat} {L : List UInt8} {v : Int} {b : Bool} (h : NIn w j L v b W) (c : Below W.heap.size W W1) : NIn w j L v b W1 :=
  ⟨below_cellOf c (Nat.le_refl _) h.1, below_cellOf c (Nat.le_refl _) h.2.1, below_cellOf c (Nat.le_refl _) h.2.2.1, below_on h.2.2.2 c h.2.2.2.size⟩
theorem NIn.calls {w W : World} {j : Nat} {L : List UInt8} {v : Int} {b : Bool} {P : Program} {f : FuncId} {args : Array Value} {r : Value} (h : NIn w j L v b W) (c : Calls P f args W fun e w' => e = .returned r ∧ Below W.heap.size W w') : Calls P f args W fun e w' => e = .returned r ∧ NIn w j L v b w' :=
  c.mono fun e w' ⟨he, hb⟩ => ⟨he, h.step hb⟩
theorem NIn.start {w w0 W1 : World} {L : List UInt8} {v : Int} {b : Bool} (bA : Below w.heap.size w w0) (b1 : Below w0.heap.size w0 W1) : NIn w W1.heap.size L v b (W1.alloc (.cells #[.string ⟨L.toArray⟩, .int .i64 v, .bool b] 107)) :=
  ⟨(Lib.cell_of_heap (heap_alloc_new W1 _) 0).trans (by rfl), (Lib.cell_of_heap (heap_alloc_new W1 _) 1).trans (by rfl), (Lib.cell_of_heap (heap_alloc_new W1 _) 2).trans (by rfl), (bA.trans (b1.mono bA.size)).alloc (Nat.le_trans bA.size b1.size) _⟩
end Go.Proofs.YtgjboghnnhcgiaaGreatDoor
namespace Go.Proofs.YtgjboghnnhcgiaaGreatDoor
open Go.RowKit
set_option linter.unusedVariables false
set_option linter.unusedSimpArgs false
abbrev Asc (w : World) : Prop := Lib.TabIs Tryz.prog w "strings.asciiSpace" .u8 Lib.asciiSpaceTab
def Ld (d : ByteArray) (k : Nat) : List UInt8 := Lib.trimLeftB (d.data.toList.take (d.size - k)) 48
def bd (d : ByteArray) (k : Nat) : Bool := (Lib.trimB (d.data.toList.drop (d.size - k)) 48).isEmpty
def ofC (lang d : ByteArray) (k : Nat) : Int := pick lang (table (Ld d k) k (bd d k))
structure Dig (d : ByteArray) (k : Nat) : Prop where
  k : k ≤ d.size
  len : d.size ≤ 1000000
  dig : ∀ c ∈ d.data.toList, 48 ≤ c.toNat ∧ c.toNat ≤ 57
theorem Dig.dg {d : ByteArray} {k : Nat} (h : Dig d k) : Dg (Ld d k) where
  len := by
    have := Lib.size_eq d
    have h1 : (Ld d k).length ≤ (d.data.toList.take (d.size - k)).length := (List.dropWhile_suffix _).length_le
    rw [List.length_take] at h1
    have := h.len
    omega
  dig := fun c hc => h.dig c (List.mem_of_mem_take ((List.dropWhile_suffix _).subset hc))
theorem Of_any (lang : ByteArray) (n : Bool) (d : ByteArray) (k : Nat) (h : Dig d k) (w : World) (hT : Asc w) :
    Calls Tryz.prog 30 #[.string lang, decV n d k] w fun e w' => e = .returned (.int .i64 (ofC lang d k)) ∧ Below w.heap.size w w' :=
  of_lang_any lang n d k _ _ h.dg w hT fun W => of_any n d k W h.k (by have := h.len; omega)
def Good (w W : World) : Prop := Asc W ∧ Below w.heap.size w W
theorem Good.start {w : World} (h : Asc w) : Good w w := ⟨h, Below.refl _ _⟩
theorem Good.step {w W W' : World} (h : Good w W) (b : Below W.heap.size W W') : Good w W' := ⟨ascTab h.1 b, h.2.trans (b.mono h.2.size)⟩
theorem Good.drew {w W : World} (h : Good w W) : Good w W.drew := h.step ((Below.refl _ _).drew)
theorem Good.alloc {w W : World} (h : Good w W) (o : Obj) : Good w (W.alloc o) := h.step ((Below.refl _ _).alloc (Nat.le_refl _) o)
theorem Good.calls {w W : World} {P : Program} {f : FuncId} {args : Array Value} {v : Value} (h : Good w W) (c : Calls P f args W fun e w' => e = .returned v ∧ Below W.heap.size W w') : Calls P f args W fun e w' => e = .returned v ∧ Good w w' :=
  c.mono fun e w' ⟨he, hb⟩ => ⟨he, h.step hb⟩
end Go.Proofs.YtgjboghnnhcgiaaGreatDoor
namespace Go.Proofs.YtgjboghnnhcgiaaGreatDoor.R
open Go.RowKit Go.Proofs.YtgjboghnnhcgiaaGreatDoor.G Go.Proofs.YtgjboghnnhcgiaaGreatDoor.U Go.Proofs.YtgjboghnnhcgiaaGreatDoorW.PrintWords Go.Proofs.YtgjboghnnhcgiaaGreatDoorW.PrintLast Go.Proofs.YtgjboghnnhcgiaaGreatDoorW.PrintMore
attribute [local go_sem] max2_int min2_int max_two min_two max_three min_three max_four min_four
set_option linter.unusedVariables false
set_option linter.unusedSimpArgs false
def errW : Option Int → Value
  | none => .nilIface
  | some c => .iface 0 (.int .i64 c)
theorem errW_none : errW none = .nilIface := rfl
theorem errW_some (c : Int) : errW (some c) = .iface 0 (.int .i64 c) := rfl
structure S23 where
  f0 : Bool
  f1 : ByteArray
  f2 : Int
end Go.Proofs.YtgjboghnnhcgiaaGreatDoor.R
namespace Go.Proofs.YtgjboghnnhcgiaaGreatDoor.R
open Go.RowKit Go.Proofs.YtgjboghnnhcgiaaGreatDoor.G Go.Proofs.YtgjboghnnhcgiaaGreatDoor.U Go.Proofs.YtgjboghnnhcgiaaGreatDoorW.PrintWords Go.Proofs.YtgjboghnnhcgiaaGreatDoorW.PrintLast Go.Proofs.YtgjboghnnhcgiaaGreatDoorW.PrintMore
attribute [local go_sem] max2_int min2_int max_two min_two max_three min_three max_four min_four
set_option linter.unusedVariables false
set_option linter.unusedSimpArgs false
def polyglotlaw02_digit.f (a0 : Int) : Option (Bool) := if a0 ≥ 48 then (some (decide (a0 ≤ 57))) else (some false)
set_option maxHeartbeats 8000000 in
set_option maxRecDepth 100000 in
theorem polyglotlaw02_digit.calls (a0 : Int) (r : Bool) (w : World) (h : polyglotlaw02_digit.f a0 = some r) :
    Calls Tryz.prog 23 #[.int .u8 a0] w fun e w' => e = .returned (.bool r) ∧ Drawn0 w w' := by
  have H : (if a0 ≥ 48 then (some (decide (a0 ≤ 57))) else (some false)) = some r := h
  clear h
  by_cases c2 : a0 ≥ 48
  · rw [if_pos c2] at H
    have c2b0 : decide (48 ≤ a0) = true := decide_eq_true c2
    clear c2
    obtain rfl := Option.some.inj H
    go_enter Tryz.func23, Tryz.ntmps23
    go_wp2
    go_ret
    exact ⟨by first | rfl | (simp; done) | (simp [*]; done), by repeat (first | exact Drawn0.refl _ | apply Drawn0.step)⟩
  · rw [if_neg c2] at H
    have c2b0 : decide (48 ≤ a0) = false := decide_eq_false c2
    clear c2
    obtain rfl := Option.some.inj H
    go_enter Tryz.func23, Tryz.ntmps23
    go_wp2
    go_ret
    exact ⟨by first | rfl | (simp; done) | (simp [*]; done), by repeat (first | exact Drawn0.refl _ | apply Drawn0.step)⟩
mutual
def polyglotlaw02_Right.j0 : Nat → Bool → Bool → ByteArray → Int → Option (Bool)
  | 0, _, _, _, _ => none
  | k + 1, x20, x102000, x102001, x102002 => if x20 = true then (some false) else (polyglotlaw02_Right.l0 k 0 x102000 x102001 x102002)
def polyglotlaw02_Right.l0 : Nat → Int → Bool → ByteArray → Int → Option (Bool)
  | 0, _, _, _, _ => none
  | k + 1, x3, x102000, x102001, x102002 => if x3 < (x102001.size : Int) then (if 0 ≤ x3 then ((polyglotlaw02_digit.f (bt x102001 x3)).bind fun t102 => (if t102 = true then (polyglotlaw02_Right.l0 k (wrap64 (x3 + 1)) x102000 x102001 x102002) else (some false))) else (none)) else (if 0 < (x102001.size : Int) then (if (bt x102001 0) = 48 then (some ((x102001.size : Int) == (wrap64 (x102002 + 1)))) else (some true)) else (none))
end
def polyglotlaw02_Right.f (k : Nat) (a0_0 : Bool) (a0_1 : ByteArray) (a0_2 : Int) : Option (Bool) := if a0_2 < 0 then (polyglotlaw02_Right.j0 k true a0_0 a0_1 a0_2) else (if a0_2 ≥ (a0_1.size : Int) then (polyglotlaw02_Right.j0 k true a0_0 a0_1 a0_2) else (polyglotlaw02_Right.j0 k (decide ((a0_1.size : Int) > 60)) a0_0 a0_1 a0_2))
set_option maxHeartbeats 8000000 in
set_option maxRecDepth 100000 in
theorem polyglotlaw02_Right.calls (k : Nat) (a0_0 : Bool) (a0_1 : ByteArray) (a0_2 : Int) (r : Bool) (w : World) (h : polyglotlaw02_Right.f k a0_0 a0_1 a0_2 = some r) :
    Calls Tryz.prog 7 #[.agg #[.bool a0_0, .string a0_1, .int .i64 a0_2]] w fun e w' => e = .returned (.bool r) ∧ Below w.heap.size w w' := by
  have hu23 := Tryz.underlying23
  have HB := Aside0.mk (Below.refl w.heap.size w)
  have H : (if a0_2 < 0 then (polyglotlaw02_Right.j0 k true a0_0 a0_1 a0_2) else (if a0_2 ≥ (a0_1.size : Int) then (polyglotlaw02_Right.j0 k true a0_0 a0_1 a0_2) else (polyglotlaw02_Right.j0 k (decide ((a0_1.size : Int) > 60)) a0_0 a0_1 a0_2))) = some r := h
  clear h
  have HC2 := Aside0.mk H
  clear H
  go_enter Tryz.func7, Tryz.ntmps7
  go_upto_region 1 with (first | ((with_reducible refine gate_dst (N := 1) rfl ?_); (try (refine gate_guard (by rfl) ?_; dsimp only)); refine box_event ?hg (N := 1) ?hd (cs := #[.bool a0_0, .string a0_1, .int .i64 a0_2]) (t := 23) ?hr ?_; (case hd => rfl); (case hg => rfl); (case hr => first | (go_simp; done) | (go_simp; rfl)); intro gb101 hg w3 hbox hb; have n0_ := Aside0.mk (below_step (by repeat (first | (with_reducible first | exact HB.out | apply below_alloc | apply pw_below_drewN | apply below_drew1) | exact HB.out)) hb); have n1_ := Aside0.mk (hbox); have n2_ := Aside0.mk ((by rw [hg]; exact (below_size (by repeat (first | (with_reducible first | exact HB.out | apply below_alloc | apply pw_below_drewN | apply below_drew1) | exact HB.out))) : w.heap.size ≤ gb101)); have n3_ := Aside0.mk ((by rw [hg]; exact (below_size (by repeat (first | (with_reducible first | exact HB.out | apply below_alloc | apply pw_below_drewN | apply below_drew1) | exact HB.out))) : w.heap.size ≤ gb101)); clear HB; have HB := n0_; have BK101 := n1_; have GW101 := n2_; have GE101 := n3_; clear n0_ n1_ n2_ n3_; clear hb hbox hg))
  (try simp only [Act.put, List.setIfInBounds_toArray, List.set_cons_zero, List.set_cons_succ])
  go_cut [20] (fun v20 wc => ∃ (kq : Nat) (x20_1 : Bool), v20 = .bool x20_1 ∧ Aside0 (polyglotlaw02_Right.j0 kq x20_1 a0_0 a0_1 a0_2 = some r) ∧ Aside0 (kq ≤ k) ∧ Aside0 (wc.heap[gb101]? = some (.cells #[.bool a0_0, .string a0_1, .int .i64 a0_2] 23 (0, 0))) ∧ Aside0 (Below w.heap.size w wc))
  case first =>
    have H := HC2.out
    clear HC2
    by_cases c4 : a0_2 < 0
    · rw [if_pos c4] at H
      have c4b0 : decide (a0_2 < 0) = true := decide_eq_true c4
      clear c4
      (first | rw [c4b0] | (simp only [i64_w, i32_w]; rw [c4b0]) | skip)
      have H' := Aside0.mk H
      clear H
      have hcz5_0 : w3.cell? ⟨gb101, 0, none⟩ = some (.bool a0_0) := (blk_cell BK101.out 0).trans rfl
      have hcz5_1 : w3.cell? ⟨gb101, 1, none⟩ = some (.string a0_1) := (blk_cell BK101.out 1).trans rfl
      have hcz5_2 : w3.cell? ⟨gb101, 2, none⟩ = some (.int .i64 a0_2) := (blk_cell BK101.out 2).trans rfl
      have hfz5_0 := blk_frozen BK101.out 0
      have hfz5_1 := blk_frozen BK101.out 1
      have hfz5_2 := blk_frozen BK101.out 2
      go_wp2
      go_meet
      case rel => exact ⟨_, (true), (by first | rfl | (simp; done) | (simp [*]; done)), H', ⟨by first | omega | exact Nat.le_refl _⟩, ⟨by (with_reducible repeat (first | refine blk_drewN ?_ _ | refine blk_drew ?_ | refine blk_alloc ?_ _)); exact BK101.out⟩, ⟨by repeat (first | (with_reducible first | exact HB.out | apply below_alloc | apply pw_below_drewN | apply below_drew1 | refine below_set ?_ GE101.out) | exact HB.out)⟩⟩
    · rw [if_neg c4] at H
      have c4b0 : decide (a0_2 < 0) = false := decide_eq_false c4
      clear c4
      (first | rw [c4b0] | (simp only [i64_w, i32_w]; rw [c4b0]) | skip)
      by_cases c6 : a0_2 ≥ (a0_1.size : Int)
      · rw [if_pos c6] at H
        have c6b0 : decide ((a0_1.size : Int) ≤ a0_2) = true := decide_eq_true c6
        clear c6
        have H' := Aside0.mk H
        clear H
        have hcz7_0 : w3.cell? ⟨gb101, 0, none⟩ = some (.bool a0_0) := (blk_cell BK101.out 0).trans rfl
        have hcz7_1 : w3.cell? ⟨gb101, 1, none⟩ = some (.string a0_1) := (blk_cell BK101.out 1).trans rfl
        have hcz7_2 : w3.cell? ⟨gb101, 2, none⟩ = some (.int .i64 a0_2) := (blk_cell BK101.out 2).trans rfl
        have hfz7_0 := blk_frozen BK101.out 0
        have hfz7_1 := blk_frozen BK101.out 1
        have hfz7_2 := blk_frozen BK101.out 2
        go_wp2
        go_meet
        case rel => exact ⟨_, (true), (by first | rfl | (simp; done) | (simp [*]; done)), H', ⟨by first | omega | exact Nat.le_refl _⟩, ⟨by (with_reducible repeat (first | refine blk_drewN ?_ _ | refine blk_drew ?_ | refine blk_alloc ?_ _)); exact BK101.out⟩, ⟨by repeat (first | (with_reducible first | exact HB.out | apply below_alloc | apply pw_below_drewN | apply below_drew1 | refine below_set ?_ GE101.out) | exact HB.out)⟩⟩
      · rw [if_neg c6] at H
        have c6b0 : decide ((a0_1.size : Int) ≤ a0_2) = false := decide_eq_false c6
        clear c6
        have H' := Aside0.mk H
        clear H
        have hcz8_0 : w3.cell? ⟨gb101, 0, none⟩ = some (.bool a0_0) := (blk_cell BK101.out 0).trans rfl
        have hcz8_1 : w3.cell? ⟨gb101, 1, none⟩ = some (.string a0_1) := (blk_cell BK101.out 1).trans rfl
        have hcz8_2 : w3.cell? ⟨gb101, 2, none⟩ = some (.int .i64 a0_2) := (blk_cell BK101.out 2).trans rfl
        have hfz8_0 := blk_frozen BK101.out 0
        have hfz8_1 := blk_frozen BK101.out 1
        have hfz8_2 := blk_frozen BK101.out 2
        go_wp2
        go_meet
        case rel => exact ⟨_, (decide ((a0_1.size : Int) > 60)), (by first | rfl | (simp; done) | (simp [*]; done)), H', ⟨by first | omega | exact Nat.le_refl _⟩, ⟨by (with_reducible repeat (first | refine blk_drewN ?_ _ | refine blk_drew ?_ | refine blk_alloc ?_ _)); exact BK101.out⟩, ⟨by repeat (first | (with_reducible first | exact HB.out | apply below_alloc | apply pw_below_drewN | apply below_drew1 | refine below_set ?_ GE101.out) | exact HB.out)⟩⟩
  case rest =>
    clear HC2
    try clear p2
    try clear c4
    try clear c4b0
    try clear c6
    try clear c6b0
    try clear c7
    try clear hcz5_0
    try clear hcz5_1
    try clear hcz5_2
    try clear hcz7_0
    try clear hcz7_1
    try clear hcz7_2
    try clear hcz8_0
    try clear hcz8_1
    try clear hcz8_2
    try clear hfz5_0
    try clear hfz5_1
    try clear hfz5_2
    try clear hfz7_0
    try clear hfz7_1
    try clear hfz7_2
    try clear hfz8_0
    try clear hfz8_1
    try clear hfz8_2
    obtain ⟨kq, x20_1, rfl, HA, HJ1, BK101, HB⟩ := hcut
    cases kq with
    | zero => exact absurd HA.out (by simp [polyglotlaw02_Right.j0])
    | succ kj1 =>
      have H := HA.out
      clear HA
      simp only [polyglotlaw02_Right.j0] at H
      by_cases c9 : x20_1 = true
      · subst c9
        have H1 : (some false) = some r := by rw [if_pos rfl] at H; exact H
        clear H
        have H := H1
        clear H1
        obtain rfl := Option.some.inj H
        go_wp2
        go_ret
        exact ⟨by first | rfl | (simp [errW_none, errW_some] <;> rfl) | (simp [*, errW_none, errW_some] <;> rfl), by repeat (first | (with_reducible first | exact HB.out | apply below_alloc | apply pw_below_drewN | apply below_drew1 | refine below_set ?_ GE101.out) | exact HB.out)⟩
      · replace c9 := Bool.eq_false_iff.mpr c9
        subst c9
        have H1 : (polyglotlaw02_Right.l0 kj1 0 a0_0 a0_1 a0_2) = some r := by rw [if_neg (show ¬ (false = true) by decide)] at H; exact H
        clear H
        have H := H1
        clear H1
        have H' := Aside0.mk H
        clear H
        go_wp2
        go_loopg [3] kj1 (fun kq v3 w' => ∃ (x3_2 : Int), v3 = .int .i64 x3_2 ∧ Aside0 (polyglotlaw02_Right.l0 kq x3_2 a0_0 a0_1 a0_2 = some r) ∧ Aside0 (kq ≤ kj1) ∧ Aside0 (w'.heap[gb101]? = some (.cells #[.bool a0_0, .string a0_1, .int .i64 a0_2] 23 (0, 0))) ∧ Aside0 (Below w.heap.size w w'))
        case atStart => exact ⟨(0), (by first | rfl | (simp; done) | (simp [*]; done)), H', ⟨Nat.le_refl _⟩, ⟨by (with_reducible repeat (first | refine blk_drewN ?_ _ | refine blk_drew ?_ | refine blk_alloc ?_ _)); exact BK101.out⟩, ⟨by repeat (first | (with_reducible first | exact HB.out | apply below_alloc | apply pw_below_drewN | apply below_drew1 | refine below_set ?_ GE101.out) | exact HB.out)⟩⟩
        case round =>
          clear H'
          try clear p2
          try clear c4
          try clear c4b0
          try clear c6
          try clear c6b0
          try clear c7
          try clear c9
          try clear hcz5_0
          try clear hcz5_1
          try clear hcz5_2
          try clear hcz7_0
          try clear hcz7_1
          try clear hcz7_2
          try clear hcz8_0
          try clear hcz8_1
          try clear hcz8_2
          try clear hfz5_0
          try clear hfz5_1
          try clear hfz5_2
          try clear hfz7_0
          try clear hfz7_1
          try clear hfz7_2
          try clear hfz8_0
          try clear hfz8_1
          try clear hfz8_2
          try clear p2
          obtain ⟨x3_2, rfl, HA, HK2, BK101, HB⟩ := hrel
          cases gk with
          | zero => exact absurd HA.out (by simp [polyglotlaw02_Right.l0])
          | succ k2 =>
            have H := HA.out
            clear HA
            simp only [polyglotlaw02_Right.l0] at H
            by_cases c10 : x3_2 < (a0_1.size : Int)
            · rw [if_pos c10] at H
              have c10b0 : decide (x3_2 < (a0_1.size : Int)) = true := decide_eq_true c10
              clear c10
              by_cases c11 : 0 ≤ x3_2
              · rw [if_pos c11] at H
                have c11b0 : decide (0 ≤ x3_2) = true := decide_eq_true c11
                clear c11
                replace H := Option.bind_eq_some_iff.mp H
                obtain ⟨t102, A130, H⟩ := H
                replace H : (if t102 = true then (polyglotlaw02_Right.l0 k2 (wrap64 (x3_2 + 1)) a0_0 a0_1 a0_2) else (some false)) = some r := H
                have A13 := Aside0.mk A130
                clear A130
                by_cases c14 : t102 = true
                · subst c14
                  have H1 : (polyglotlaw02_Right.l0 k2 (wrap64 (x3_2 + 1)) a0_0 a0_1 a0_2) = some r := by rw [if_pos rfl] at H; exact H
                  clear H
                  have H := H1
                  clear H1
                  have H' := Aside0.mk H
                  clear H
                  have hcz15_0 : wr.cell? ⟨gb101, 0, none⟩ = some (.bool a0_0) := (blk_cell BK101.out 0).trans rfl
                  have hcz15_1 : wr.cell? ⟨gb101, 1, none⟩ = some (.string a0_1) := (blk_cell BK101.out 1).trans rfl
                  have hcz15_2 : wr.cell? ⟨gb101, 2, none⟩ = some (.int .i64 a0_2) := (blk_cell BK101.out 2).trans rfl
                  have hfz15_0 := blk_frozen BK101.out 0
                  have hfz15_1 := blk_frozen BK101.out 1
                  have hfz15_2 := blk_frozen BK101.out 2
                  have p12 : 0 ≤ (x3_2 : Int) := of_decide_eq_true (by first | (with_reducible assumption) | assumption)
                  have q12 : x3_2 < (a0_1.size : Int) := of_decide_eq_true (by first | (with_reducible assumption) | assumption)
                  have hx12 := bt_at a0_1 x3_2
                  replace p12 := eq_true p12
                  replace q12 := eq_true q12
                  go_wp2_with (first | ((with_reducible refine gate_callee (f := 23) rfl ?_); refine goesL_ (some 32) rfl rfl Tryz.func23 (by kernel_rfl) rfl #[.int .u8 (bt a0_1 x3_2)] rfl (by (try simp only [List.map_toArray, List.map_cons, List.map_nil]); first | done | rfl | (simp only [List.length_drop, List.length_take]; rfl)) ?_; (with_reducible refine (polyglotlaw02_digit.calls (bt a0_1 x3_2) true _ A13.out).mono ?_); rintro e w' ⟨rfl, ⟨nd, rfl⟩⟩; refine ⟨_, rfl, ?_⟩))
                  go_roundg k2
                  case measure => have := HJ1.out; have := HK2.out; omega
                  case rel => exact ⟨(wrap64 (x3_2 + 1)), (by first | rfl | (simp; done) | (simp [*]; done)), H', ⟨by have := HJ1.out; have := HK2.out; omega⟩, ⟨by (with_reducible repeat (first | refine blk_drewN ?_ _ | refine blk_drew ?_ | refine blk_alloc ?_ _)); exact BK101.out⟩, ⟨by repeat (first | (with_reducible first | exact HB.out | apply below_alloc | apply pw_below_drewN | apply below_drew1 | refine below_set ?_ GE101.out) | exact HB.out)⟩⟩
                · replace c14 := Bool.eq_false_iff.mpr c14
                  subst c14
                  have H1 : (some false) = some r := by rw [if_neg (show ¬ (false = true) by decide)] at H; exact H
                  clear H
                  have H := H1
                  clear H1
                  obtain rfl := Option.some.inj H
                  have hcz16_0 : wr.cell? ⟨gb101, 0, none⟩ = some (.bool a0_0) := (blk_cell BK101.out 0).trans rfl
                  have hcz16_1 : wr.cell? ⟨gb101, 1, none⟩ = some (.string a0_1) := (blk_cell BK101.out 1).trans rfl
                  have hcz16_2 : wr.cell? ⟨gb101, 2, none⟩ = some (.int .i64 a0_2) := (blk_cell BK101.out 2).trans rfl
                  have hfz16_0 := blk_frozen BK101.out 0
                  have hfz16_1 := blk_frozen BK101.out 1
                  have hfz16_2 := blk_frozen BK101.out 2
                  have p12 : 0 ≤ (x3_2 : Int) := of_decide_eq_true (by first | (with_reducible assumption) | assumption)
                  have q12 : x3_2 < (a0_1.size : Int) := of_decide_eq_true (by first | (with_reducible assumption) | assumption)
                  have hx12 := bt_at a0_1 x3_2
                  replace p12 := eq_true p12
                  replace q12 := eq_true q12
                  go_wp2_with (first | ((with_reducible refine gate_callee (f := 23) rfl ?_); refine goesL_ (some 32) rfl rfl Tryz.func23 (by kernel_rfl) rfl #[.int .u8 (bt a0_1 x3_2)] rfl (by (try simp only [List.map_toArray, List.map_cons, List.map_nil]); first | done | rfl | (simp only [List.length_drop, List.length_take]; rfl)) ?_; (with_reducible refine (polyglotlaw02_digit.calls (bt a0_1 x3_2) false _ A13.out).mono ?_); rintro e w' ⟨rfl, ⟨nd, rfl⟩⟩; refine ⟨_, rfl, ?_⟩))
                  go_ret
                  exact ⟨by first | rfl | (simp [errW_none, errW_some] <;> rfl) | (simp [*, errW_none, errW_some] <;> rfl), by repeat (first | (with_reducible first | exact HB.out | apply below_alloc | apply pw_below_drewN | apply below_drew1 | refine below_set ?_ GE101.out) | exact HB.out)⟩
              · rw [if_neg c11] at H
                exact absurd H (by simp)
            · rw [if_neg c10] at H
              have c10b0 : decide (x3_2 < (a0_1.size : Int)) = false := decide_eq_false c10
              clear c10
              by_cases c17 : 0 < (a0_1.size : Int)
              · rw [if_pos c17] at H
                have c17b0 : decide (0 < (a0_1.size : Int)) = true := decide_eq_true c17
                have c17b1 : decide (0 < a0_1.size) = true := decide_eq_true (by omega)
                clear c17
                by_cases c19 : (bt a0_1 0) = 48
                · rw [if_pos c19] at H
                  have c19b0 : ((bt a0_1 0) == 48) = true := beq_iff_eq.mpr c19
                  have c19b1 : ((bt a0_1 0) != 48) = false := bne_eq_false_iff_eq.mpr c19
                  clear c19
                  obtain rfl := Option.some.inj H
                  have hcz20_0 : wr.cell? ⟨gb101, 0, none⟩ = some (.bool a0_0) := (blk_cell BK101.out 0).trans rfl
                  have hcz20_1 : wr.cell? ⟨gb101, 1, none⟩ = some (.string a0_1) := (blk_cell BK101.out 1).trans rfl
                  have hcz20_2 : wr.cell? ⟨gb101, 2, none⟩ = some (.int .i64 a0_2) := (blk_cell BK101.out 2).trans rfl
                  have hfz20_0 := blk_frozen BK101.out 0
                  have hfz20_1 := blk_frozen BK101.out 1
                  have hfz20_2 := blk_frozen BK101.out 2
                  have p18 : 0 ≤ (0 : Int) := (by omega)
                  have q18 : 0 < a0_1.size := (by have : (0 : Int) < (a0_1.size : Int) := of_decide_eq_true (by first | (with_reducible assumption) | assumption); omega)
                  have hx18 : ∀ h : 0 < a0_1.size, ((a0_1[0]'h).toNat : Int) = bt a0_1 0 := bt_at a0_1 0
                  clear p18
                  have qi18 : (0 < (a0_1.size : Int)) = True := eq_true (of_decide_eq_true (by first | (with_reducible assumption) | assumption))
                  replace q18 := eq_true q18
                  go_wp2
                  go_ret
                  exact ⟨by first | rfl | (simp [errW_none, errW_some] <;> rfl) | (simp [*, errW_none, errW_some] <;> rfl), by repeat (first | (with_reducible first | exact HB.out | apply below_alloc | apply pw_below_drewN | apply below_drew1 | refine below_set ?_ GE101.out) | exact HB.out)⟩
                · rw [if_neg c19] at H
                  have c19b0 : ((bt a0_1 0) == 48) = false := beq_eq_false_iff_ne.mpr c19
                  have c19b1 : ((bt a0_1 0) != 48) = true := bne_iff_ne.mpr c19
                  obtain rfl := Option.some.inj H
                  have hcz21_0 : wr.cell? ⟨gb101, 0, none⟩ = some (.bool a0_0) := (blk_cell BK101.out 0).trans rfl
                  have hcz21_1 : wr.cell? ⟨gb101, 1, none⟩ = some (.string a0_1) := (blk_cell BK101.out 1).trans rfl
                  have hcz21_2 : wr.cell? ⟨gb101, 2, none⟩ = some (.int .i64 a0_2) := (blk_cell BK101.out 2).trans rfl
                  have hfz21_0 := blk_frozen BK101.out 0
                  have hfz21_1 := blk_frozen BK101.out 1
                  have hfz21_2 := blk_frozen BK101.out 2
                  have p18 : 0 ≤ (0 : Int) := (by omega)
                  have q18 : 0 < a0_1.size := (by have : (0 : Int) < (a0_1.size : Int) := of_decide_eq_true (by first | (with_reducible assumption) | assumption); omega)
                  have hx18 : ∀ h : 0 < a0_1.size, ((a0_1[0]'h).toNat : Int) = bt a0_1 0 := bt_at a0_1 0
                  clear p18
                  have qi18 : (0 < (a0_1.size : Int)) = True := eq_true (of_decide_eq_true (by first | (with_reducible assumption) | assumption))
                  replace q18 := eq_true q18
                  go_wp2
                  go_ret
                  exact ⟨by first | rfl | (simp [errW_none, errW_some] <;> rfl) | (simp [*, errW_none, errW_some] <;> rfl), by repeat (first | (with_reducible first | exact HB.out | apply below_alloc | apply pw_below_drewN | apply below_drew1 | refine below_set ?_ GE101.out) | exact HB.out)⟩
              · rw [if_neg c17] at H
                exact absurd H (by simp)
def dec_isDigits.f (a0 : ByteArray) : Option (Bool) := if a0.toList = ([] : List UInt8) then (some false) else ((strings_Trim.f a0 (⟨#[48, 49, 50, 51, 52, 53, 54, 55, 56, 57]⟩ : ByteArray)).bind fun t103 => (some (t103.toList == ([] : List UInt8))))
set_option maxHeartbeats 8000000 in
set_option maxRecDepth 100000 in
theorem dec_isDigits.calls (a0 : ByteArray) (r : Bool) (w : World) (h : dec_isDigits.f a0 = some r) :
    Calls Tryz.prog 45 #[.string a0] w fun e w' => e = .returned (.bool r) ∧ Below w.heap.size w w' := by
  have HB := Aside0.mk (Below.refl w.heap.size w)
  have H : (if a0.toList = ([] : List UInt8) then (some false) else ((strings_Trim.f a0 (⟨#[48, 49, 50, 51, 52, 53, 54, 55, 56, 57]⟩ : ByteArray)).bind fun t103 => (some (t103.toList == ([] : List UInt8))))) = some r := h
  clear h
  by_cases c2 : a0.toList = ([] : List UInt8)
  · rw [if_pos c2] at H
    have c2b0 : (a0.toList == ([] : List UInt8)) = true := beq_iff_eq.mpr c2
    have c2b1 : (a0.toList != ([] : List UInt8)) = false := bne_eq_false_iff_eq.mpr c2
    clear c2
    obtain rfl := Option.some.inj H
    go_enter Tryz.func45, Tryz.ntmps45
    go_wp2
    go_ret
    exact ⟨by first | rfl | (simp [errW_none, errW_some] <;> rfl) | (simp [*, errW_none, errW_some] <;> rfl), by repeat (first | (with_reducible first | exact HB.out | apply below_alloc | apply pw_below_drewN | apply below_drew1) | exact HB.out)⟩
  · rw [if_neg c2] at H
    have c2b0 : (a0.toList == ([] : List UInt8)) = false := beq_eq_false_iff_ne.mpr c2
    have c2b1 : (a0.toList != ([] : List UInt8)) = true := bne_iff_ne.mpr c2
    replace H := Option.bind_eq_some_iff.mp H
    obtain ⟨t103, A30, H⟩ := H
    replace H : (some (t103.toList == ([] : List UInt8))) = some r := H
    have A3 := Aside0.mk A30
    clear A30
    obtain rfl := Option.some.inj H
    go_enter Tryz.func45, Tryz.ntmps45
    go_wp2_with (first | (go_at_call 47; (with_reducible refine (strings_Trim.calls a0 (⟨#[48, 49, 50, 51, 52, 53, 54, 55, 56, 57]⟩ : ByteArray) t103 _ A3.out).mono ?_); rintro e w4 ⟨rfl, hb⟩; have n0_ := Aside0.mk (below_step (by repeat (first | (with_reducible first | exact HB.out | apply below_alloc | apply pw_below_drewN | apply below_drew1) | exact HB.out)) hb); clear HB; have HB := n0_; clear n0_; (try clear hb); (try clear hb2); (try clear hk); (try clear hi)))
    go_ret
    exact ⟨by first | rfl | (simp [errW_none, errW_some] <;> rfl) | (simp [*, errW_none, errW_some] <;> rfl), by repeat (first | (with_reducible first | exact HB.out | apply below_alloc | apply pw_below_drewN | apply below_drew1) | exact HB.out)⟩
def dec_Parse.f (a0 : ByteArray) : Option (Bool × ByteArray × Int × Bool) := (strings_CutPrefix.f a0 (⟨#[45]⟩ : ByteArray)).bind fun bt105 => ((strings_Cut.f bt105.1 (⟨#[46]⟩ : ByteArray)).bind fun bt107 => ((dec_isDigits.f bt107.1).bind fun t110 => (if t110 = true then (if bt107.2.2 = true then ((dec_isDigits.f bt107.2.1).bind fun t111 => (if t111 = true then (if (wrap64 ((bt107.1.size : Int) + (bt107.2.1.size : Int))) > 40 then (some (false, (⟨#[]⟩ : ByteArray), 0, false)) else (if bt107.1.size + bt107.2.1.size ≤ 9223372036854775807 then ((dec_make0.f bt105.2 (bt107.1 ++ bt107.2.1) (bt107.2.1.size : Int)).bind fun bt112 => (some (bt112.1, bt112.2.1, bt112.2.2, true))) else (none))) else (some (false, (⟨#[]⟩ : ByteArray), 0, false)))) else (if (wrap64 ((bt107.1.size : Int) + (bt107.2.1.size : Int))) > 40 then (some (false, (⟨#[]⟩ : ByteArray), 0, false)) else (if bt107.1.size + bt107.2.1.size ≤ 9223372036854775807 then ((dec_make0.f bt105.2 (bt107.1 ++ bt107.2.1) (bt107.2.1.size : Int)).bind fun bt115 => (some (bt115.1, bt115.2.1, bt115.2.2, true))) else (none)))) else (some (false, (⟨#[]⟩ : ByteArray), 0, false)))))
set_option maxHeartbeats 8000000 in
set_option maxRecDepth 100000 in
theorem dec_Parse.calls (a0 : ByteArray) (r1 : Bool) (r2 : ByteArray) (r3 : Int) (r4 : Bool) (w : World) (h : dec_Parse.f a0 = some (r1, r2, r3, r4)) (HT0_ : Tab_ w := by exact Tab_.step HT0_ (by repeat (first | (with_reducible first | exact HB.out | apply below_alloc | apply pw_below_drewN | apply below_drew1 | refine below_set ?_ (Aside0.out (by assumption))) | exact HB.out))) :
    Calls Tryz.prog 25 #[.string a0] w fun e w' => e = .returned (.tuple #[.agg #[.bool r1, .string r2, .int .i64 r3], .bool r4]) ∧ Below w.heap.size w w' := by
  have hu23 := Tryz.underlying23
  have HB := Aside0.mk (Below.refl w.heap.size w)
  have H : ((strings_CutPrefix.f a0 (⟨#[45]⟩ : ByteArray)).bind fun bt105 => ((strings_Cut.f bt105.1 (⟨#[46]⟩ : ByteArray)).bind fun bt107 => ((dec_isDigits.f bt107.1).bind fun t110 => (if t110 = true then (if bt107.2.2 = true then ((dec_isDigits.f bt107.2.1).bind fun t111 => (if t111 = true then (if (wrap64 ((bt107.1.size : Int) + (bt107.2.1.size : Int))) > 40 then (some (false, (⟨#[]⟩ : ByteArray), 0, false)) else (if bt107.1.size + bt107.2.1.size ≤ 9223372036854775807 then ((dec_make0.f bt105.2 (bt107.1 ++ bt107.2.1) (bt107.2.1.size : Int)).bind fun bt112 => (some (bt112.1, bt112.2.1, bt112.2.2, true))) else (none))) else (some (false, (⟨#[]⟩ : ByteArray), 0, false)))) else (if (wrap64 ((bt107.1.size : Int) + (bt107.2.1.size : Int))) > 40 then (some (false, (⟨#[]⟩ : ByteArray), 0, false)) else (if bt107.1.size + bt107.2.1.size ≤ 9223372036854775807 then ((dec_make0.f bt105.2 (bt107.1 ++ bt107.2.1) (bt107.2.1.size : Int)).bind fun bt115 => (some (bt115.1, bt115.2.1, bt115.2.2, true))) else (none)))) else (some (false, (⟨#[]⟩ : ByteArray), 0, false)))))) = some (r1, r2, r3, r4) := h
  clear h
  replace H := Option.bind_eq_some_iff.mp H
  obtain ⟨⟨t105, t106⟩, A20, H⟩ := H
  replace H : ((strings_Cut.f t105 (⟨#[46]⟩ : ByteArray)).bind fun bt107 => ((dec_isDigits.f bt107.1).bind fun t110 => (if t110 = true then (if bt107.2.2 = true then ((dec_isDigits.f bt107.2.1).bind fun t111 => (if t111 = true then (if (wrap64 ((bt107.1.size : Int) + (bt107.2.1.size : Int))) > 40 then (some (false, (⟨#[]⟩ : ByteArray), 0, false)) else (if bt107.1.size + bt107.2.1.size ≤ 9223372036854775807 then ((dec_make0.f t106 (bt107.1 ++ bt107.2.1) (bt107.2.1.size : Int)).bind fun bt112 => (some (bt112.1, bt112.2.1, bt112.2.2, true))) else (none))) else (some (false, (⟨#[]⟩ : ByteArray), 0, false)))) else (if (wrap64 ((bt107.1.size : Int) + (bt107.2.1.size : Int))) > 40 then (some (false, (⟨#[]⟩ : ByteArray), 0, false)) else (if bt107.1.size + bt107.2.1.size ≤ 9223372036854775807 then ((dec_make0.f t106 (bt107.1 ++ bt107.2.1) (bt107.2.1.size : Int)).bind fun bt115 => (some (bt115.1, bt115.2.1, bt115.2.2, true))) else (none)))) else (some (false, (⟨#[]⟩ : ByteArray), 0, false))))) = some (r1, r2, r3, r4) := H
  have A2 := Aside0.mk A20
  clear A20
  replace H := Option.bind_eq_some_iff.mp H
  obtain ⟨⟨t107, t108, t109⟩, A30, H⟩ := H
  replace H : ((dec_isDigits.f t107).bind fun t110 => (if t110 = true then (if t109 = true then ((dec_isDigits.f t108).bind fun t111 => (if t111 = true then (if (wrap64 ((t107.size : Int) + (t108.size : Int))) > 40 then (some (false, (⟨#[]⟩ : ByteArray), 0, false)) else (if t107.size + t108.size ≤ 9223372036854775807 then ((dec_make0.f t106 (t107 ++ t108) (t108.size : Int)).bind fun bt112 => (some (bt112.1, bt112.2.1, bt112.2.2, true))) else (none))) else (some (false, (⟨#[]⟩ : ByteArray), 0, false)))) else (if (wrap64 ((t107.size : Int) + (t108.size : Int))) > 40 then (some (false, (⟨#[]⟩ : ByteArray), 0, false)) else (if t107.size + t108.size ≤ 9223372036854775807 then ((dec_make0.f t106 (t107 ++ t108) (t108.size : Int)).bind fun bt115 => (some (bt115.1, bt115.2.1, bt115.2.2, true))) else (none)))) else (some (false, (⟨#[]⟩ : ByteArray), 0, false)))) = some (r1, r2, r3, r4) := H
  have A3 := Aside0.mk A30
  clear A30
  replace H := Option.bind_eq_some_iff.mp H
  obtain ⟨t110, A40, H⟩ := H
  replace H : (if t110 = true then (if t109 = true then ((dec_isDigits.f t108).bind fun t111 => (if t111 = true then (if (wrap64 ((t107.size : Int) + (t108.size : Int))) > 40 then (some (false, (⟨#[]⟩ : ByteArray), 0, false)) else (if t107.size + t108.size ≤ 9223372036854775807 then ((dec_make0.f t106 (t107 ++ t108) (t108.size : Int)).bind fun bt112 => (some (bt112.1, bt112.2.1, bt112.2.2, true))) else (none))) else (some (false, (⟨#[]⟩ : ByteArray), 0, false)))) else (if (wrap64 ((t107.size : Int) + (t108.size : Int))) > 40 then (some (false, (⟨#[]⟩ : ByteArray), 0, false)) else (if t107.size + t108.size ≤ 9223372036854775807 then ((dec_make0.f t106 (t107 ++ t108) (t108.size : Int)).bind fun bt115 => (some (bt115.1, bt115.2.1, bt115.2.2, true))) else (none)))) else (some (false, (⟨#[]⟩ : ByteArray), 0, false))) = some (r1, r2, r3, r4) := H
  have A4 := Aside0.mk A40
  clear A40
  by_cases c5 : t110 = true
  · subst c5
    have H1 : (if t109 = true then ((dec_isDigits.f t108).bind fun t111 => (if t111 = true then (if (wrap64 ((t107.size : Int) + (t108.size : Int))) > 40 then (some (false, (⟨#[]⟩ : ByteArray), 0, false)) else (if t107.size + t108.size ≤ 9223372036854775807 then ((dec_make0.f t106 (t107 ++ t108) (t108.size : Int)).bind fun bt112 => (some (bt112.1, bt112.2.1, bt112.2.2, true))) else (none))) else (some (false, (⟨#[]⟩ : ByteArray), 0, false)))) else (if (wrap64 ((t107.size : Int) + (t108.size : Int))) > 40 then (some (false, (⟨#[]⟩ : ByteArray), 0, false)) else (if t107.size + t108.size ≤ 9223372036854775807 then ((dec_make0.f t106 (t107 ++ t108) (t108.size : Int)).bind fun bt115 => (some (bt115.1, bt115.2.1, bt115.2.2, true))) else (none)))) = some (r1, r2, r3, r4) := by rw [if_pos rfl] at H; exact H
    clear H
    have H := H1
    clear H1
    by_cases c6 : t109 = true
    · subst c6
      have H1 : ((dec_isDigits.f t108).bind fun t111 => (if t111 = true then (if (wrap64 ((t107.size : Int) + (t108.size : Int))) > 40 then (some (false, (⟨#[]⟩ : ByteArray), 0, false)) else (if t107.size + t108.size ≤ 9223372036854775807 then ((dec_make0.f t106 (t107 ++ t108) (t108.size : Int)).bind fun bt112 => (some (bt112.1, bt112.2.1, bt112.2.2, true))) else (none))) else (some (false, (⟨#[]⟩ : ByteArray), 0, false)))) = some (r1, r2, r3, r4) := by rw [if_pos rfl] at H; exact H
      clear H
      have H := H1
      clear H1
      replace H := Option.bind_eq_some_iff.mp H
      obtain ⟨t111, A70, H⟩ := H
      replace H : (if t111 = true then (if (wrap64 ((t107.size : Int) + (t108.size : Int))) > 40 then (some (false, (⟨#[]⟩ : ByteArray), 0, false)) else (if t107.size + t108.size ≤ 9223372036854775807 then ((dec_make0.f t106 (t107 ++ t108) (t108.size : Int)).bind fun bt112 => (some (bt112.1, bt112.2.1, bt112.2.2, true))) else (none))) else (some (false, (⟨#[]⟩ : ByteArray), 0, false))) = some (r1, r2, r3, r4) := H
      have A7 := Aside0.mk A70
      clear A70
      by_cases c8 : t111 = true
      · subst c8
        have H1 : (if (wrap64 ((t107.size : Int) + (t108.size : Int))) > 40 then (some (false, (⟨#[]⟩ : ByteArray), 0, false)) else (if t107.size + t108.size ≤ 9223372036854775807 then ((dec_make0.f t106 (t107 ++ t108) (t108.size : Int)).bind fun bt112 => (some (bt112.1, bt112.2.1, bt112.2.2, true))) else (none))) = some (r1, r2, r3, r4) := by rw [if_pos rfl] at H; exact H
        clear H
        have H := H1
        clear H1
        by_cases c9 : (wrap64 ((t107.size : Int) + (t108.size : Int))) > 40
        · rw [if_pos c9] at H
          have c9b0 : decide (40 < (wrap64 ((t107.size : Int) + (t108.size : Int)))) = true := decide_eq_true c9
          clear c9
          simp only [Option.some.injEq, Prod.mk.injEq] at H
          obtain ⟨rfl, rfl, rfl, rfl⟩ := H
          go_enter Tryz.func25, Tryz.ntmps25
          go_wp2_with (first | ((with_reducible refine gate_dst (N := 2) rfl ?_); (try (refine gate_guard (by rfl) ?_; dsimp only)); refine box_event ?hg (N := 2) ?hd (cs := #[.bool false, .string (⟨#[]⟩ : ByteArray), .int .i64 0]) (t := 23) ?hr ?_; (case hd => rfl); (case hg => rfl); (case hr => first | (go_simp; done) | (go_simp; rfl)); intro gb104 hg w10 hbox hb; have n0_ := Aside0.mk (below_step (by repeat (first | (with_reducible first | exact HB.out | apply below_alloc | apply pw_below_drewN | apply below_drew1) | exact HB.out)) hb); have n1_ := Aside0.mk (hbox); have n2_ := Aside0.mk ((by rw [hg]; exact (below_size (by repeat (first | (with_reducible first | exact HB.out | apply below_alloc | apply pw_below_drewN | apply below_drew1) | exact HB.out))) : w.heap.size ≤ gb104)); have n3_ := Aside0.mk ((by rw [hg]; exact (below_size (by repeat (first | (with_reducible first | exact HB.out | apply below_alloc | apply pw_below_drewN | apply below_drew1) | exact HB.out))) : w.heap.size ≤ gb104)); clear HB; have HB := n0_; have BK104 := n1_; have GW104 := n2_; have GE104 := n3_; clear n0_ n1_ n2_ n3_; clear hb hbox hg) | ((with_reducible refine gate_callee (f := 43) rfl ?_); refine goesL_ (some 11) rfl rfl Tryz.func43 (by kernel_rfl) rfl #[.string a0, .string (⟨#[45]⟩ : ByteArray)] rfl (by (try simp only [List.map_toArray, List.map_cons, List.map_nil]); first | done | rfl | (simp only [List.length_drop, List.length_take]; rfl)) ?_; (with_reducible refine (strings_CutPrefix.calls a0 (⟨#[45]⟩ : ByteArray) t105 t106 _ A2.out).mono ?_); rintro e w11 ⟨rfl, hb⟩; refine ⟨_, rfl, ?_⟩; have n0_ := Aside0.mk (blk_below (g := gb104) (o := .cells #[.bool false, .string (⟨#[]⟩ : ByteArray), .int .i64 0] 23 (0, 0)) (by (with_reducible repeat (first | refine blk_drewN ?_ _ | refine blk_drew ?_ | refine blk_alloc ?_ _)); exact BK104.out) hb); have n1_ := Aside0.mk (below_step (by repeat (first | (with_reducible first | exact HB.out | apply below_alloc | apply pw_below_drewN | apply below_drew1 | refine below_set ?_ GE104.out) | exact HB.out)) hb); clear BK104; clear HB; have BK104 := n0_; have HB := n1_; clear n0_ n1_; (try clear hb); (try clear hb2); (try clear hk); (try clear hi)) | ((with_reducible refine gate_callee (f := 44) rfl ?_); refine goesL_ (some 16) rfl rfl Tryz.func44 (by kernel_rfl) rfl #[.string t105, .string (⟨#[46]⟩ : ByteArray)] rfl (by (try simp only [List.map_toArray, List.map_cons, List.map_nil]); first | done | rfl | (simp only [List.length_drop, List.length_take]; rfl)) ?_; (with_reducible refine (strings_Cut.calls t105 (⟨#[46]⟩ : ByteArray) t107 t108 true _ A3.out).mono ?_); rintro e w12 ⟨rfl, hb⟩; refine ⟨_, rfl, ?_⟩; have n0_ := Aside0.mk (blk_below (g := gb104) (o := .cells #[.bool false, .string (⟨#[]⟩ : ByteArray), .int .i64 0] 23 (0, 0)) (by (with_reducible repeat (first | refine blk_drewN ?_ _ | refine blk_drew ?_ | refine blk_alloc ?_ _)); exact BK104.out) hb); have n1_ := Aside0.mk (below_step (by repeat (first | (with_reducible first | exact HB.out | apply below_alloc | apply pw_below_drewN | apply below_drew1 | refine below_set ?_ GE104.out) | exact HB.out)) hb); clear BK104; clear HB; have BK104 := n0_; have HB := n1_; clear n0_ n1_; (try clear hb); (try clear hb2); (try clear hk); (try clear hi)) | ((with_reducible refine gate_callee (f := 45) rfl ?_); refine goesL_ (some 21) rfl rfl Tryz.func45 (by kernel_rfl) rfl #[.string t107] rfl (by (try simp only [List.map_toArray, List.map_cons, List.map_nil]); first | done | rfl | (simp only [List.length_drop, List.length_take]; rfl)) ?_; (with_reducible refine (dec_isDigits.calls t107 true _ A4.out).mono ?_); rintro e w13 ⟨rfl, hb⟩; refine ⟨_, rfl, ?_⟩; have n0_ := Aside0.mk (blk_below (g := gb104) (o := .cells #[.bool false, .string (⟨#[]⟩ : ByteArray), .int .i64 0] 23 (0, 0)) (by (with_reducible repeat (first | refine blk_drewN ?_ _ | refine blk_drew ?_ | refine blk_alloc ?_ _)); exact BK104.out) hb); have n1_ := Aside0.mk (below_step (by repeat (first | (with_reducible first | exact HB.out | apply below_alloc | apply pw_below_drewN | apply below_drew1 | refine below_set ?_ GE104.out) | exact HB.out)) hb); clear BK104; clear HB; have BK104 := n0_; have HB := n1_; clear n0_ n1_; (try clear hb); (try clear hb2); (try clear hk); (try clear hi)) | (go_at_call 45; (with_reducible refine (dec_isDigits.calls t108 true _ A7.out).mono ?_); rintro e w14 ⟨rfl, hb⟩; have n0_ := Aside0.mk (blk_below (g := gb104) (o := .cells #[.bool false, .string (⟨#[]⟩ : ByteArray), .int .i64 0] 23 (0, 0)) (by (with_reducible repeat (first | refine blk_drewN ?_ _ | refine blk_drew ?_ | refine blk_alloc ?_ _)); exact BK104.out) hb); have n1_ := Aside0.mk (below_step (by repeat (first | (with_reducible first | exact HB.out | apply below_alloc | apply pw_below_drewN | apply below_drew1 | refine below_set ?_ GE104.out) | exact HB.out)) hb); clear BK104; clear HB; have BK104 := n0_; have HB := n1_; clear n0_ n1_; (try clear hb); (try clear hb2); (try clear hk); (try clear hi); have hcz15_0 : w14.cell? ⟨gb104, 0, none⟩ = some (.bool false) := (blk_cell BK104.out 0).trans rfl; have hcz15_1 : w14.cell? ⟨gb104, 1, none⟩ = some (.string (⟨#[]⟩ : ByteArray)) := (blk_cell BK104.out 1).trans rfl; have hcz15_2 : w14.cell? ⟨gb104, 2, none⟩ = some (.int .i64 0) := (blk_cell BK104.out 2).trans rfl; have hfz15_0 := blk_frozen BK104.out 0; have hfz15_1 := blk_frozen BK104.out 1; have hfz15_2 := blk_frozen BK104.out 2))
          refine bodyPost_ret (results_ct rfl _ _ gb104 23 #[.bool false, .string (⟨#[]⟩ : ByteArray), .int .i64 0] (0, 0) _ rfl (by (with_reducible repeat (first | refine blk_drewN ?_ _ | refine blk_drew ?_ | refine blk_alloc ?_ _)); refine blk_put (cs := #[.bool false, .string (⟨#[]⟩ : ByteArray), .int .i64 0]) ?_ 2 _ rfl; (with_reducible repeat (first | refine blk_drewN ?_ _ | refine blk_drew ?_ | refine blk_alloc ?_ _)); refine blk_put (cs := #[.bool false, .string (⟨#[]⟩ : ByteArray), .int .i64 0]) ?_ 1 _ rfl; (with_reducible repeat (first | refine blk_drewN ?_ _ | refine blk_drew ?_ | refine blk_alloc ?_ _)); refine blk_put (cs := #[.bool false, .string (⟨#[]⟩ : ByteArray), .int .i64 0]) ?_ 0 _ rfl; (with_reducible repeat (first | refine blk_drewN ?_ _ | refine blk_drew ?_ | refine blk_alloc ?_ _)); exact BK104.out) Tryz.underlying23 rfl (by kernel_rfl)) rfl ?_
          exact ⟨by first | rfl | (simp [errW_none, errW_some] <;> rfl) | (simp [*, errW_none, errW_some] <;> rfl), by repeat (first | (with_reducible first | exact HB.out | apply below_alloc | apply pw_below_drewN | apply below_drew1 | refine below_set ?_ GE104.out) | exact HB.out)⟩
        · rw [if_neg c9] at H
          have c9b0 : decide (40 < (wrap64 ((t107.size : Int) + (t108.size : Int)))) = false := decide_eq_false c9
          clear c9
          by_cases c16 : t107.size + t108.size ≤ 9223372036854775807
          · rw [if_pos c16] at H
            try simp only [show wrap64 ((t107.size : Int) + (t108.size : Int)) = (t107.size : Int) + (t108.size : Int) from by unfold wrap64; omega] at *
            have c16b0 := eq_true c16
            have c16b1 : decide (t107.size + t108.size ≤ 9223372036854775807) = true := decide_eq_true c16
            try have c16b2 : (9223372036854775807 < t107.size + t108.size) = False := eq_false (Nat.not_lt.2 c16)
            replace H := Option.bind_eq_some_iff.mp H
            obtain ⟨⟨t112, t113, t114⟩, A170, H⟩ := H
            replace H : (some (t112, t113, t114, true)) = some (r1, r2, r3, r4) := H
            have A17 := Aside0.mk A170
            clear A170
            simp only [Option.some.injEq, Prod.mk.injEq] at H
            obtain ⟨rfl, rfl, rfl, rfl⟩ := H
            go_enter Tryz.func25, Tryz.ntmps25
            go_wp2_with (first | ((with_reducible refine gate_dst (N := 2) rfl ?_); (try (refine gate_guard (by rfl) ?_; dsimp only)); refine box_event ?hg (N := 2) ?hd (cs := #[.bool false, .string (⟨#[]⟩ : ByteArray), .int .i64 0]) (t := 23) ?hr ?_; (case hd => rfl); (case hg => rfl); (case hr => first | (go_simp; done) | (go_simp; rfl)); intro gb104 hg w18 hbox hb; have n0_ := Aside0.mk (below_step (by repeat (first | (with_reducible first | exact HB.out | apply below_alloc | apply pw_below_drewN | apply below_drew1) | exact HB.out)) hb); have n1_ := Aside0.mk (hbox); have n2_ := Aside0.mk ((by rw [hg]; exact (below_size (by repeat (first | (with_reducible first | exact HB.out | apply below_alloc | apply pw_below_drewN | apply below_drew1) | exact HB.out))) : w.heap.size ≤ gb104)); have n3_ := Aside0.mk ((by rw [hg]; exact (below_size (by repeat (first | (with_reducible first | exact HB.out | apply below_alloc | apply pw_below_drewN | apply below_drew1) | exact HB.out))) : w.heap.size ≤ gb104)); clear HB; have HB := n0_; have BK104 := n1_; have GW104 := n2_; have GE104 := n3_; clear n0_ n1_ n2_ n3_; clear hb hbox hg) | ((with_reducible refine gate_callee (f := 43) rfl ?_); refine goesL_ (some 11) rfl rfl Tryz.func43 (by kernel_rfl) rfl #[.string a0, .string (⟨#[45]⟩ : ByteArray)] rfl (by (try simp only [List.map_toArray, List.map_cons, List.map_nil]); first | done | rfl | (simp only [List.length_drop, List.length_take]; rfl)) ?_; (with_reducible refine (strings_CutPrefix.calls a0 (⟨#[45]⟩ : ByteArray) t105 t106 _ A2.out).mono ?_); rintro e w19 ⟨rfl, hb⟩; refine ⟨_, rfl, ?_⟩; have n0_ := Aside0.mk (blk_below (g := gb104) (o := .cells #[.bool false, .string (⟨#[]⟩ : ByteArray), .int .i64 0] 23 (0, 0)) (by (with_reducible repeat (first | refine blk_drewN ?_ _ | refine blk_drew ?_ | refine blk_alloc ?_ _)); exact BK104.out) hb); have n1_ := Aside0.mk (below_step (by repeat (first | (with_reducible first | exact HB.out | apply below_alloc | apply pw_below_drewN | apply below_drew1 | refine below_set ?_ GE104.out) | exact HB.out)) hb); clear BK104; clear HB; have BK104 := n0_; have HB := n1_; clear n0_ n1_; (try clear hb); (try clear hb2); (try clear hk); (try clear hi)) | ((with_reducible refine gate_callee (f := 44) rfl ?_); refine goesL_ (some 16) rfl rfl Tryz.func44 (by kernel_rfl) rfl #[.string t105, .string (⟨#[46]⟩ : ByteArray)] rfl (by (try simp only [List.map_toArray, List.map_cons, List.map_nil]); first | done | rfl | (simp only [List.length_drop, List.length_take]; rfl)) ?_; (with_reducible refine (strings_Cut.calls t105 (⟨#[46]⟩ : ByteArray) t107 t108 true _ A3.out).mono ?_); rintro e w20 ⟨rfl, hb⟩; refine ⟨_, rfl, ?_⟩; have n0_ := Aside0.mk (blk_below (g := gb104) (o := .cells #[.bool false, .string (⟨#[]⟩ : ByteArray), .int .i64 0] 23 (0, 0)) (by (with_reducible repeat (first | refine blk_drewN ?_ _ | refine blk_drew ?_ | refine blk_alloc ?_ _)); exact BK104.out) hb); have n1_ := Aside0.mk (below_step (by repeat (first | (with_reducible first | exact HB.out | apply below_alloc | apply pw_below_drewN | apply below_drew1 | refine below_set ?_ GE104.out) | exact HB.out)) hb); clear BK104; clear HB; have BK104 := n0_; have HB := n1_; clear n0_ n1_; (try clear hb); (try clear hb2); (try clear hk); (try clear hi)) | ((with_reducible refine gate_callee (f := 45) rfl ?_); refine goesL_ (some 21) rfl rfl Tryz.func45 (by kernel_rfl) rfl #[.string t107] rfl (by (try simp only [List.map_toArray, List.map_cons, List.map_nil]); first | done | rfl | (simp only [List.length_drop, List.length_take]; rfl)) ?_; (with_reducible refine (dec_isDigits.calls t107 true _ A4.out).mono ?_); rintro e w21 ⟨rfl, hb⟩; refine ⟨_, rfl, ?_⟩; have n0_ := Aside0.mk (blk_below (g := gb104) (o := .cells #[.bool false, .string (⟨#[]⟩ : ByteArray), .int .i64 0] 23 (0, 0)) (by (with_reducible repeat (first | refine blk_drewN ?_ _ | refine blk_drew ?_ | refine blk_alloc ?_ _)); exact BK104.out) hb); have n1_ := Aside0.mk (below_step (by repeat (first | (with_reducible first | exact HB.out | apply below_alloc | apply pw_below_drewN | apply below_drew1 | refine below_set ?_ GE104.out) | exact HB.out)) hb); clear BK104; clear HB; have BK104 := n0_; have HB := n1_; clear n0_ n1_; (try clear hb); (try clear hb2); (try clear hk); (try clear hi)) | (go_at_call 45; (with_reducible refine (dec_isDigits.calls t108 true _ A7.out).mono ?_); rintro e w22 ⟨rfl, hb⟩; have n0_ := Aside0.mk (blk_below (g := gb104) (o := .cells #[.bool false, .string (⟨#[]⟩ : ByteArray), .int .i64 0] 23 (0, 0)) (by (with_reducible repeat (first | refine blk_drewN ?_ _ | refine blk_drew ?_ | refine blk_alloc ?_ _)); exact BK104.out) hb); have n1_ := Aside0.mk (below_step (by repeat (first | (with_reducible first | exact HB.out | apply below_alloc | apply pw_below_drewN | apply below_drew1 | refine below_set ?_ GE104.out) | exact HB.out)) hb); clear BK104; clear HB; have BK104 := n0_; have HB := n1_; clear n0_ n1_; (try clear hb); (try clear hb2); (try clear hk); (try clear hi)) | ((with_reducible refine gate_callee (f := 46) rfl ?_); refine goesL_ (some 46) rfl rfl Tryz.func46 (by kernel_rfl) rfl #[.bool t106, .string (t107 ++ t108), .int .i64 (t108.size : Int)] rfl (by (try simp only [List.map_toArray, List.map_cons, List.map_nil]); first | done | rfl | (simp only [List.length_drop, List.length_take]; rfl)) ?_; (with_reducible refine (dec_make0.calls t106 (t107 ++ t108) (t108.size : Int) t112 t113 t114 _ A17.out).mono ?_); rintro e w23 ⟨rfl, hb⟩; refine ⟨_, rfl, ?_⟩; have n0_ := Aside0.mk (blk_below (g := gb104) (o := .cells #[.bool false, .string (⟨#[]⟩ : ByteArray), .int .i64 0] 23 (0, 0)) (by (with_reducible repeat (first | refine blk_drewN ?_ _ | refine blk_drew ?_ | refine blk_alloc ?_ _)); exact BK104.out) hb); have n1_ := Aside0.mk (below_step (by repeat (first | (with_reducible first | exact HB.out | apply below_alloc | apply pw_below_drewN | apply below_drew1 | refine below_set ?_ GE104.out) | exact HB.out)) hb); clear BK104; clear HB; have BK104 := n0_; have HB := n1_; clear n0_ n1_; (try clear hb); (try clear hb2); (try clear hk); (try clear hi); have hcz24_0 : w23.cell? ⟨gb104, 0, none⟩ = some (.bool false) := (blk_cell BK104.out 0).trans rfl; have hcz24_1 : w23.cell? ⟨gb104, 1, none⟩ = some (.string (⟨#[]⟩ : ByteArray)) := (blk_cell BK104.out 1).trans rfl; have hcz24_2 : w23.cell? ⟨gb104, 2, none⟩ = some (.int .i64 0) := (blk_cell BK104.out 2).trans rfl; have hfz24_0 := blk_frozen BK104.out 0; have hfz24_1 := blk_frozen BK104.out 1; have hfz24_2 := blk_frozen BK104.out 2))
            refine bodyPost_ret (results_ct rfl _ _ gb104 23 #[.bool t112, .string t113, .int .i64 t114] (0, 0) _ rfl (by (with_reducible repeat (first | refine blk_drewN ?_ _ | refine blk_drew ?_ | refine blk_alloc ?_ _)); refine blk_put (cs := #[.bool t112, .string t113, .int .i64 0]) ?_ 2 _ rfl; (with_reducible repeat (first | refine blk_drewN ?_ _ | refine blk_drew ?_ | refine blk_alloc ?_ _)); refine blk_put (cs := #[.bool t112, .string (⟨#[]⟩ : ByteArray), .int .i64 0]) ?_ 1 _ rfl; (with_reducible repeat (first | refine blk_drewN ?_ _ | refine blk_drew ?_ | refine blk_alloc ?_ _)); refine blk_put (cs := #[.bool false, .string (⟨#[]⟩ : ByteArray), .int .i64 0]) ?_ 0 _ rfl; (with_reducible repeat (first | refine blk_drewN ?_ _ | refine blk_drew ?_ | refine blk_alloc ?_ _)); exact BK104.out) Tryz.underlying23 rfl (by kernel_rfl)) rfl ?_
            exact ⟨by first | rfl | (simp [errW_none, errW_some] <;> rfl) | (simp [*, errW_none, errW_some] <;> rfl), by repeat (first | (with_reducible first | exact HB.out | apply below_alloc | apply pw_below_drewN | apply below_drew1 | refine below_set ?_ GE104.out) | exact HB.out)⟩
          · rw [if_neg c16] at H
            exact absurd H (by simp)
      · replace c8 := Bool.eq_false_iff.mpr c8
        subst c8
        have H1 : (some (false, (⟨#[]⟩ : ByteArray), 0, false)) = some (r1, r2, r3, r4) := by rw [if_neg (show ¬ (false = true) by decide)] at H; exact H
        clear H
        have H := H1
        clear H1
        simp only [Option.some.injEq, Prod.mk.injEq] at H
        obtain ⟨rfl, rfl, rfl, rfl⟩ := H
        go_enter Tryz.func25, Tryz.ntmps25
        go_wp2_with (first | ((with_reducible refine gate_dst (N := 2) rfl ?_); (try (refine gate_guard (by rfl) ?_; dsimp only)); refine box_event ?hg (N := 2) ?hd (cs := #[.bool false, .string (⟨#[]⟩ : ByteArray), .int .i64 0]) (t := 23) ?hr ?_; (case hd => rfl); (case hg => rfl); (case hr => first | (go_simp; done) | (go_simp; rfl)); intro gb104 hg w25 hbox hb; have n0_ := Aside0.mk (below_step (by repeat (first | (with_reducible first | exact HB.out | apply below_alloc | apply pw_below_drewN | apply below_drew1) | exact HB.out)) hb); have n1_ := Aside0.mk (hbox); have n2_ := Aside0.mk ((by rw [hg]; exact (below_size (by repeat (first | (with_reducible first | exact HB.out | apply below_alloc | apply pw_below_drewN | apply below_drew1) | exact HB.out))) : w.heap.size ≤ gb104)); have n3_ := Aside0.mk ((by rw [hg]; exact (below_size (by repeat (first | (with_reducible first | exact HB.out | apply below_alloc | apply pw_below_drewN | apply below_drew1) | exact HB.out))) : w.heap.size ≤ gb104)); clear HB; have HB := n0_; have BK104 := n1_; have GW104 := n2_; have GE104 := n3_; clear n0_ n1_ n2_ n3_; clear hb hbox hg) | ((with_reducible refine gate_callee (f := 43) rfl ?_); refine goesL_ (some 11) rfl rfl Tryz.func43 (by kernel_rfl) rfl #[.string a0, .string (⟨#[45]⟩ : ByteArray)] rfl (by (try simp only [List.map_toArray, List.map_cons, List.map_nil]); first | done | rfl | (simp only [List.length_drop, List.length_take]; rfl)) ?_; (with_reducible refine (strings_CutPrefix.calls a0 (⟨#[45]⟩ : ByteArray) t105 t106 _ A2.out).mono ?_); rintro e w26 ⟨rfl, hb⟩; refine ⟨_, rfl, ?_⟩; have n0_ := Aside0.mk (blk_below (g := gb104) (o := .cells #[.bool false, .string (⟨#[]⟩ : ByteArray), .int .i64 0] 23 (0, 0)) (by (with_reducible repeat (first | refine blk_drewN ?_ _ | refine blk_drew ?_ | refine blk_alloc ?_ _)); exact BK104.out) hb); have n1_ := Aside0.mk (below_step (by repeat (first | (with_reducible first | exact HB.out | apply below_alloc | apply pw_below_drewN | apply below_drew1 | refine below_set ?_ GE104.out) | exact HB.out)) hb); clear BK104; clear HB; have BK104 := n0_; have HB := n1_; clear n0_ n1_; (try clear hb); (try clear hb2); (try clear hk); (try clear hi)) | ((with_reducible refine gate_callee (f := 44) rfl ?_); refine goesL_ (some 16) rfl rfl Tryz.func44 (by kernel_rfl) rfl #[.string t105, .string (⟨#[46]⟩ : ByteArray)] rfl (by (try simp only [List.map_toArray, List.map_cons, List.map_nil]); first | done | rfl | (simp only [List.length_drop, List.length_take]; rfl)) ?_; (with_reducible refine (strings_Cut.calls t105 (⟨#[46]⟩ : ByteArray) t107 t108 true _ A3.out).mono ?_); rintro e w27 ⟨rfl, hb⟩; refine ⟨_, rfl, ?_⟩; have n0_ := Aside0.mk (blk_below (g := gb104) (o := .cells #[.bool false, .string (⟨#[]⟩ : ByteArray), .int .i64 0] 23 (0, 0)) (by (with_reducible repeat (first | refine blk_drewN ?_ _ | refine blk_drew ?_ | refine blk_alloc ?_ _)); exact BK104.out) hb); have n1_ := Aside0.mk (below_step (by repeat (first | (with_reducible first | exact HB.out | apply below_alloc | apply pw_below_drewN | apply below_drew1 | refine below_set ?_ GE104.out) | exact HB.out)) hb); clear BK104; clear HB; have BK104 := n0_; have HB := n1_; clear n0_ n1_; (try clear hb); (try clear hb2); (try clear hk); (try clear hi)) | ((with_reducible refine gate_callee (f := 45) rfl ?_); refine goesL_ (some 21) rfl rfl Tryz.func45 (by kernel_rfl) rfl #[.string t107] rfl (by (try simp only [List.map_toArray, List.map_cons, List.map_nil]); first | done | rfl | (simp only [List.length_drop, List.length_take]; rfl)) ?_; (with_reducible refine (dec_isDigits.calls t107 true _ A4.out).mono ?_); rintro e w28 ⟨rfl, hb⟩; refine ⟨_, rfl, ?_⟩; have n0_ := Aside0.mk (blk_below (g := gb104) (o := .cells #[.bool false, .string (⟨#[]⟩ : ByteArray), .int .i64 0] 23 (0, 0)) (by (with_reducible repeat (first | refine blk_drewN ?_ _ | refine blk_drew ?_ | refine blk_alloc ?_ _)); exact BK104.out) hb); have n1_ := Aside0.mk (below_step (by repeat (first | (with_reducible first | exact HB.out | apply below_alloc | apply pw_below_drewN | apply below_drew1 | refine below_set ?_ GE104.out) | exact HB.out)) hb); clear BK104; clear HB; have BK104 := n0_; have HB := n1_; clear n0_ n1_; (try clear hb); (try clear hb2); (try clear hk); (try clear hi)) | (go_at_call 45; (with_reducible refine (dec_isDigits.calls t108 false _ A7.out).mono ?_); rintro e w29 ⟨rfl, hb⟩; have n0_ := Aside0.mk (blk_below (g := gb104) (o := .cells #[.bool false, .string (⟨#[]⟩ : ByteArray), .int .i64 0] 23 (0, 0)) (by (with_reducible repeat (first | refine blk_drewN ?_ _ | refine blk_drew ?_ | refine blk_alloc ?_ _)); exact BK104.out) hb); have n1_ := Aside0.mk (below_step (by repeat (first | (with_reducible first | exact HB.out | apply below_alloc | apply pw_below_drewN | apply below_drew1 | refine below_set ?_ GE104.out) | exact HB.out)) hb); clear BK104; clear HB; have BK104 := n0_; have HB := n1_; clear n0_ n1_; (try clear hb); (try clear hb2); (try clear hk); (try clear hi); have hcz30_0 : w29.cell? ⟨gb104, 0, none⟩ = some (.bool false) := (blk_cell BK104.out 0).trans rfl; have hcz30_1 : w29.cell? ⟨gb104, 1, none⟩ = some (.string (⟨#[]⟩ : ByteArray)) := (blk_cell BK104.out 1).trans rfl; have hcz30_2 : w29.cell? ⟨gb104, 2, none⟩ = some (.int .i64 0) := (blk_cell BK104.out 2).trans rfl; have hfz30_0 := blk_frozen BK104.out 0; have hfz30_1 := blk_frozen BK104.out 1; have hfz30_2 := blk_frozen BK104.out 2))
        refine bodyPost_ret (results_ct rfl _ _ gb104 23 #[.bool false, .string (⟨#[]⟩ : ByteArray), .int .i64 0] (0, 0) _ rfl (by (with_reducible repeat (first | refine blk_drewN ?_ _ | refine blk_drew ?_ | refine blk_alloc ?_ _)); refine blk_put (cs := #[.bool false, .string (⟨#[]⟩ : ByteArray), .int .i64 0]) ?_ 2 _ rfl; (with_reducible repeat (first | refine blk_drewN ?_ _ | refine blk_drew ?_ | refine blk_alloc ?_ _)); refine blk_put (cs := #[.bool false, .string (⟨#[]⟩ : ByteArray), .int .i64 0]) ?_ 1 _ rfl; (with_reducible repeat (first | refine blk_drewN ?_ _ | refine blk_drew ?_ | refine blk_alloc ?_ _)); refine blk_put (cs := #[.bool false, .string (⟨#[]⟩ : ByteArray), .int .i64 0]) ?_ 0 _ rfl; (with_reducible repeat (first | refine blk_drewN ?_ _ | refine blk_drew ?_ | refine blk_alloc ?_ _)); exact BK104.out) Tryz.underlying23 rfl (by kernel_rfl)) rfl ?_
        exact ⟨by first | rfl | (simp [errW_none, errW_some] <;> rfl) | (simp [*, errW_none, errW_some] <;> rfl), by repeat (first | (with_reducible first | exact HB.out | apply below_alloc | apply pw_below_drewN | apply below_drew1 | refine below_set ?_ GE104.out) | exact HB.out)⟩
    · replace c6 := Bool.eq_false_iff.mpr c6
      subst c6
      have H1 : (if (wrap64 ((t107.size : Int) + (t108.size : Int))) > 40 then (some (false, (⟨#[]⟩ : ByteArray), 0, false)) else (if t107.size + t108.size ≤ 9223372036854775807 then ((dec_make0.f t106 (t107 ++ t108) (t108.size : Int)).bind fun bt115 => (some (bt115.1, bt115.2.1, bt115.2.2, true))) else (none))) = some (r1, r2, r3, r4) := by rw [if_neg (show ¬ (false = true) by decide)] at H; exact H
      clear H
      have H := H1
      clear H1
      by_cases c31 : (wrap64 ((t107.size : Int) + (t108.size : Int))) > 40
      · rw [if_pos c31] at H
        have c31b0 : decide (40 < (wrap64 ((t107.size : Int) + (t108.size : Int)))) = true := decide_eq_true c31
        clear c31
        simp only [Option.some.injEq, Prod.mk.injEq] at H
        obtain ⟨rfl, rfl, rfl, rfl⟩ := H
        go_enter Tryz.func25, Tryz.ntmps25
        go_wp2_with (first | ((with_reducible refine gate_dst (N := 2) rfl ?_); (try (refine gate_guard (by rfl) ?_; dsimp only)); refine box_event ?hg (N := 2) ?hd (cs := #[.bool false, .string (⟨#[]⟩ : ByteArray), .int .i64 0]) (t := 23) ?hr ?_; (case hd => rfl); (case hg => rfl); (case hr => first | (go_simp; done) | (go_simp; rfl)); intro gb104 hg w32 hbox hb; have n0_ := Aside0.mk (below_step (by repeat (first | (with_reducible first | exact HB.out | apply below_alloc | apply pw_below_drewN | apply below_drew1) | exact HB.out)) hb); have n1_ := Aside0.mk (hbox); have n2_ := Aside0.mk ((by rw [hg]; exact (below_size (by repeat (first | (with_reducible first | exact HB.out | apply below_alloc | apply pw_below_drewN | apply below_drew1) | exact HB.out))) : w.heap.size ≤ gb104)); have n3_ := Aside0.mk ((by rw [hg]; exact (below_size (by repeat (first | (with_reducible first | exact HB.out | apply below_alloc | apply pw_below_drewN | apply below_drew1) | exact HB.out))) : w.heap.size ≤ gb104)); clear HB; have HB := n0_; have BK104 := n1_; have GW104 := n2_; have GE104 := n3_; clear n0_ n1_ n2_ n3_; clear hb hbox hg) | ((with_reducible refine gate_callee (f := 43) rfl ?_); refine goesL_ (some 11) rfl rfl Tryz.func43 (by kernel_rfl) rfl #[.string a0, .string (⟨#[45]⟩ : ByteArray)] rfl (by (try simp only [List.map_toArray, List.map_cons, List.map_nil]); first | done | rfl | (simp only [List.length_drop, List.length_take]; rfl)) ?_; (with_reducible refine (strings_CutPrefix.calls a0 (⟨#[45]⟩ : ByteArray) t105 t106 _ A2.out).mono ?_); rintro e w33 ⟨rfl, hb⟩; refine ⟨_, rfl, ?_⟩; have n0_ := Aside0.mk (blk_below (g := gb104) (o := .cells #[.bool false, .string (⟨#[]⟩ : ByteArray), .int .i64 0] 23 (0, 0)) (by (with_reducible repeat (first | refine blk_drewN ?_ _ | refine blk_drew ?_ | refine blk_alloc ?_ _)); exact BK104.out) hb); have n1_ := Aside0.mk (below_step (by repeat (first | (with_reducible first | exact HB.out | apply below_alloc | apply pw_below_drewN | apply below_drew1 | refine below_set ?_ GE104.out) | exact HB.out)) hb); clear BK104; clear HB; have BK104 := n0_; have HB := n1_; clear n0_ n1_; (try clear hb); (try clear hb2); (try clear hk); (try clear hi)) | ((with_reducible refine gate_callee (f := 44) rfl ?_); refine goesL_ (some 16) rfl rfl Tryz.func44 (by kernel_rfl) rfl #[.string t105, .string (⟨#[46]⟩ : ByteArray)] rfl (by (try simp only [List.map_toArray, List.map_cons, List.map_nil]); first | done | rfl | (simp only [List.length_drop, List.length_take]; rfl)) ?_; (with_reducible refine (strings_Cut.calls t105 (⟨#[46]⟩ : ByteArray) t107 t108 false _ A3.out).mono ?_); rintro e w34 ⟨rfl, hb⟩; refine ⟨_, rfl, ?_⟩; have n0_ := Aside0.mk (blk_below (g := gb104) (o := .cells #[.bool false, .string (⟨#[]⟩ : ByteArray), .int .i64 0] 23 (0, 0)) (by (with_reducible repeat (first | refine blk_drewN ?_ _ | refine blk_drew ?_ | refine blk_alloc ?_ _)); exact BK104.out) hb); have n1_ := Aside0.mk (below_step (by repeat (first | (with_reducible first | exact HB.out | apply below_alloc | apply pw_below_drewN | apply below_drew1 | refine below_set ?_ GE104.out) | exact HB.out)) hb); clear BK104; clear HB; have BK104 := n0_; have HB := n1_; clear n0_ n1_; (try clear hb); (try clear hb2); (try clear hk); (try clear hi)) | ((with_reducible refine gate_callee (f := 45) rfl ?_); refine goesL_ (some 21) rfl rfl Tryz.func45 (by kernel_rfl) rfl #[.string t107] rfl (by (try simp only [List.map_toArray, List.map_cons, List.map_nil]); first | done | rfl | (simp only [List.length_drop, List.length_take]; rfl)) ?_; (with_reducible refine (dec_isDigits.calls t107 true _ A4.out).mono ?_); rintro e w35 ⟨rfl, hb⟩; refine ⟨_, rfl, ?_⟩; have n0_ := Aside0.mk (blk_below (g := gb104) (o := .cells #[.bool false, .string (⟨#[]⟩ : ByteArray), .int .i64 0] 23 (0, 0)) (by (with_reducible repeat (first | refine blk_drewN ?_ _ | refine blk_drew ?_ | refine blk_alloc ?_ _)); exact BK104.out) hb); have n1_ := Aside0.mk (below_step (by repeat (first | (with_reducible first | exact HB.out | apply below_alloc | apply pw_below_drewN | apply below_drew1 | refine below_set ?_ GE104.out) | exact HB.out)) hb); clear BK104; clear HB; have BK104 := n0_; have HB := n1_; clear n0_ n1_; (try clear hb); (try clear hb2); (try clear hk); (try clear hi); have hcz36_0 : w35.cell? ⟨gb104, 0, none⟩ = some (.bool false) := (blk_cell BK104.out 0).trans rfl; have hcz36_1 : w35.cell? ⟨gb104, 1, none⟩ = some (.string (⟨#[]⟩ : ByteArray)) := (blk_cell BK104.out 1).trans rfl; have hcz36_2 : w35.cell? ⟨gb104, 2, none⟩ = some (.int .i64 0) := (blk_cell BK104.out 2).trans rfl; have hfz36_0 := blk_frozen BK104.out 0; have hfz36_1 := blk_frozen BK104.out 1; have hfz36_2 := blk_frozen BK104.out 2))
        refine bodyPost_ret (results_ct rfl _ _ gb104 23 #[.bool false, .string (⟨#[]⟩ : ByteArray), .int .i64 0] (0, 0) _ rfl (by (with_reducible repeat (first | refine blk_drewN ?_ _ | refine blk_drew ?_ | refine blk_alloc ?_ _)); refine blk_put (cs := #[.bool false, .string (⟨#[]⟩ : ByteArray), .int .i64 0]) ?_ 2 _ rfl; (with_reducible repeat (first | refine blk_drewN ?_ _ | refine blk_drew ?_ | refine blk_alloc ?_ _)); refine blk_put (cs := #[.bool false, .string (⟨#[]⟩ : ByteArray), .int .i64 0]) ?_ 1 _ rfl; (with_reducible repeat (first | refine blk_drewN ?_ _ | refine blk_drew ?_ | refine blk_alloc ?_ _)); refine blk_put (cs := #[.bool false, .string (⟨#[]⟩ : ByteArray), .int .i64 0]) ?_ 0 _ rfl; (with_reducible repeat (first | refine blk_drewN ?_ _ | refine blk_drew ?_ | refine blk_alloc ?_ _)); exact BK104.out) Tryz.underlying23 rfl (by kernel_rfl)) rfl ?_
        exact ⟨by first | rfl | (simp [errW_none, errW_some] <;> rfl) | (simp [*, errW_none, errW_some] <;> rfl), by repeat (first | (with_reducible first | exact HB.out | apply below_alloc | apply pw_below_drewN | apply below_drew1 | refine below_set ?_ GE104.out) | exact HB.out)⟩
      · rw [if_neg c31] at H
        have c31b0 : decide (40 < (wrap64 ((t107.size : Int) + (t108.size : Int)))) = false := decide_eq_false c31
        clear c31
        by_cases c37 : t107.size + t108.size ≤ 9223372036854775807
        · rw [if_pos c37] at H
          try simp only [show wrap64 ((t107.size : Int) + (t108.size : Int)) = (t107.size : Int) + (t108.size : Int) from by unfold wrap64; omega] at *
          have c37b0 := eq_true c37
          have c37b1 : decide (t107.size + t108.size ≤ 9223372036854775807) = true := decide_eq_true c37
          try have c37b2 : (9223372036854775807 < t107.size + t108.size) = False := eq_false (Nat.not_lt.2 c37)
          replace H := Option.bind_eq_some_iff.mp H
          obtain ⟨⟨t115, t116, t117⟩, A380, H⟩ := H
          replace H : (some (t115, t116, t117, true)) = some (r1, r2, r3, r4) := H
          have A38 := Aside0.mk A380
          clear A380
          simp only [Option.some.injEq, Prod.mk.injEq] at H
          obtain ⟨rfl, rfl, rfl, rfl⟩ := H
          go_enter Tryz.func25, Tryz.ntmps25
          go_wp2_with (first | ((with_reducible refine gate_dst (N := 2) rfl ?_); (try (refine gate_guard (by rfl) ?_; dsimp only)); refine box_event ?hg (N := 2) ?hd (cs := #[.bool false, .string (⟨#[]⟩ : ByteArray), .int .i64 0]) (t := 23) ?hr ?_; (case hd => rfl); (case hg => rfl); (case hr => first | (go_simp; done) | (go_simp; rfl)); intro gb104 hg w39 hbox hb; have n0_ := Aside0.mk (below_step (by repeat (first | (with_reducible first | exact HB.out | apply below_alloc | apply pw_below_drewN | apply below_drew1) | exact HB.out)) hb); have n1_ := Aside0.mk (hbox); have n2_ := Aside0.mk ((by rw [hg]; exact (below_size (by repeat (first | (with_reducible first | exact HB.out | apply below_alloc | apply pw_below_drewN | apply below_drew1) | exact HB.out))) : w.heap.size ≤ gb104)); have n3_ := Aside0.mk ((by rw [hg]; exact (below_size (by repeat (first | (with_reducible first | exact HB.out | apply below_alloc | apply pw_below_drewN | apply below_drew1) | exact HB.out))) : w.heap.size ≤ gb104)); clear HB; have HB := n0_; have BK104 := n1_; have GW104 := n2_; have GE104 := n3_; clear n0_ n1_ n2_ n3_; clear hb hbox hg) | ((with_reducible refine gate_callee (f := 43) rfl ?_); refine goesL_ (some 11) rfl rfl Tryz.func43 (by kernel_rfl) rfl #[.string a0, .string (⟨#[45]⟩ : ByteArray)] rfl (by (try simp only [List.map_toArray, List.map_cons, List.map_nil]); first | done | rfl | (simp only [List.length_drop, List.length_take]; rfl)) ?_; (with_reducible refine (strings_CutPrefix.calls a0 (⟨#[45]⟩ : ByteArray) t105 t106 _ A2.out).mono ?_); rintro e w40 ⟨rfl, hb⟩; refine ⟨_, rfl, ?_⟩; have n0_ := Aside0.mk (blk_below (g := gb104) (o := .cells #[.bool false, .string (⟨#[]⟩ : ByteArray), .int .i64 0] 23 (0, 0)) (by (with_reducible repeat (first | refine blk_drewN ?_ _ | refine blk_drew ?_ | refine blk_alloc ?_ _)); exact BK104.out) hb); have n1_ := Aside0.mk (below_step (by repeat (first | (with_reducible first | exact HB.out | apply below_alloc | apply pw_below_drewN | apply below_drew1 | refine below_set ?_ GE104.out) | exact HB.out)) hb); clear BK104; clear HB; have BK104 := n0_; have HB := n1_; clear n0_ n1_; (try clear hb); (try clear hb2); (try clear hk); (try clear hi)) | ((with_reducible refine gate_callee (f := 44) rfl ?_); refine goesL_ (some 16) rfl rfl Tryz.func44 (by kernel_rfl) rfl #[.string t105, .string (⟨#[46]⟩ : ByteArray)] rfl (by (try simp only [List.map_toArray, List.map_cons, List.map_nil]); first | done | rfl | (simp only [List.length_drop, List.length_take]; rfl)) ?_; (with_reducible refine (strings_Cut.calls t105 (⟨#[46]⟩ : ByteArray) t107 t108 false _ A3.out).mono ?_); rintro e w41 ⟨rfl, hb⟩; refine ⟨_, rfl, ?_⟩; have n0_ := Aside0.mk (blk_below (g := gb104) (o := .cells #[.bool false, .string (⟨#[]⟩ : ByteArray), .int .i64 0] 23 (0, 0)) (by (with_reducible repeat (first | refine blk_drewN ?_ _ | refine blk_drew ?_ | refine blk_alloc ?_ _)); exact BK104.out) hb); have n1_ := Aside0.mk (below_step (by repeat (first | (with_reducible first | exact HB.out | apply below_alloc | apply pw_below_drewN | apply below_drew1 | refine below_set ?_ GE104.out) | exact HB.out)) hb); clear BK104; clear HB; have BK104 := n0_; have HB := n1_; clear n0_ n1_; (try clear hb); (try clear hb2); (try clear hk); (try clear hi)) | ((with_reducible refine gate_callee (f := 45) rfl ?_); refine goesL_ (some 21) rfl rfl Tryz.func45 (by kernel_rfl) rfl #[.string t107] rfl (by (try simp only [List.map_toArray, List.map_cons, List.map_nil]); first | done | rfl | (simp only [List.length_drop, List.length_take]; rfl)) ?_; (with_reducible refine (dec_isDigits.calls t107 true _ A4.out).mono ?_); rintro e w42 ⟨rfl, hb⟩; refine ⟨_, rfl, ?_⟩; have n0_ := Aside0.mk (blk_below (g := gb104) (o := .cells #[.bool false, .string (⟨#[]⟩ : ByteArray), .int .i64 0] 23 (0, 0)) (by (with_reducible repeat (first | refine blk_drewN ?_ _ | refine blk_drew ?_ | refine blk_alloc ?_ _)); exact BK104.out) hb); have n1_ := Aside0.mk (below_step (by repeat (first | (with_reducible first | exact HB.out | apply below_alloc | apply pw_below_drewN | apply below_drew1 | refine below_set ?_ GE104.out) | exact HB.out)) hb); clear BK104; clear HB; have BK104 := n0_; have HB := n1_; clear n0_ n1_; (try clear hb); (try clear hb2); (try clear hk); (try clear hi)) | ((with_reducible refine gate_callee (f := 46) rfl ?_); refine goesL_ (some 46) rfl rfl Tryz.func46 (by kernel_rfl) rfl #[.bool t106, .string (t107 ++ t108), .int .i64 (t108.size : Int)] rfl (by (try simp only [List.map_toArray, List.map_cons, List.map_nil]); first | done | rfl | (simp only [List.length_drop, List.length_take]; rfl)) ?_; (with_reducible refine (dec_make0.calls t106 (t107 ++ t108) (t108.size : Int) t115 t116 t117 _ A38.out).mono ?_); rintro e w43 ⟨rfl, hb⟩; refine ⟨_, rfl, ?_⟩; have n0_ := Aside0.mk (blk_below (g := gb104) (o := .cells #[.bool false, .string (⟨#[]⟩ : ByteArray), .int .i64 0] 23 (0, 0)) (by (with_reducible repeat (first | refine blk_drewN ?_ _ | refine blk_drew ?_ | refine blk_alloc ?_ _)); exact BK104.out) hb); have n1_ := Aside0.mk (below_step (by repeat (first | (with_reducible first | exact HB.out | apply below_alloc | apply pw_below_drewN | apply below_drew1 | refine below_set ?_ GE104.out) | exact HB.out)) hb); clear BK104; clear HB; have BK104 := n0_; have HB := n1_; clear n0_ n1_; (try clear hb); (try clear hb2); (try clear hk); (try clear hi); have hcz44_0 : w43.cell? ⟨gb104, 0, none⟩ = some (.bool false) := (blk_cell BK104.out 0).trans rfl; have hcz44_1 : w43.cell? ⟨gb104, 1, none⟩ = some (.string (⟨#[]⟩ : ByteArray)) := (blk_cell BK104.out 1).trans rfl; have hcz44_2 : w43.cell? ⟨gb104, 2, none⟩ = some (.int .i64 0) := (blk_cell BK104.out 2).trans rfl; have hfz44_0 := blk_frozen BK104.out 0; have hfz44_1 := blk_frozen BK104.out 1; have hfz44_2 := blk_frozen BK104.out 2))
          refine bodyPost_ret (results_ct rfl _ _ gb104 23 #[.bool t115, .string t116, .int .i64 t117] (0, 0) _ rfl (by (with_reducible repeat (first | refine blk_drewN ?_ _ | refine blk_drew ?_ | refine blk_alloc ?_ _)); refine blk_put (cs := #[.bool t115, .string t116, .int .i64 0]) ?_ 2 _ rfl; (with_reducible repeat (first | refine blk_drewN ?_ _ | refine blk_drew ?_ | refine blk_alloc ?_ _)); refine blk_put (cs := #[.bool t115, .string (⟨#[]⟩ : ByteArray), .int .i64 0]) ?_ 1 _ rfl; (with_reducible repeat (first | refine blk_drewN ?_ _ | refine blk_drew ?_ | refine blk_alloc ?_ _)); refine blk_put (cs := #[.bool false, .string (⟨#[]⟩ : ByteArray), .int .i64 0]) ?_ 0 _ rfl; (with_reducible repeat (first | refine blk_drewN ?_ _ | refine blk_drew ?_ | refine blk_alloc ?_ _)); exact BK104.out) Tryz.underlying23 rfl (by kernel_rfl)) rfl ?_
          exact ⟨by first | rfl | (simp [errW_none, errW_some] <;> rfl) | (simp [*, errW_none, errW_some] <;> rfl), by repeat (first | (with_reducible first | exact HB.out | apply below_alloc | apply pw_below_drewN | apply below_drew1 | refine below_set ?_ GE104.out) | exact HB.out)⟩
        · rw [if_neg c37] at H
          exact absurd H (by simp)
  · replace c5 := Bool.eq_false_iff.mpr c5
    subst c5
    have H1 : (some (false, (⟨#[]⟩ : ByteArray), 0, false)) = some (r1, r2, r3, r4) := by rw [if_neg (show ¬ (false = true) by decide)] at H; exact H
    clear H
    have H := H1
    clear H1
    simp only [Option.some.injEq, Prod.mk.injEq] at H
    obtain ⟨rfl, rfl, rfl, rfl⟩ := H
    go_enter Tryz.func25, Tryz.ntmps25
    go_wp2_with (first | ((with_reducible refine gate_dst (N := 2) rfl ?_); (try (refine gate_guard (by rfl) ?_; dsimp only)); refine box_event ?hg (N := 2) ?hd (cs := #[.bool false, .string (⟨#[]⟩ : ByteArray), .int .i64 0]) (t := 23) ?hr ?_; (case hd => rfl); (case hg => rfl); (case hr => first | (go_simp; done) | (go_simp; rfl)); intro gb104 hg w45 hbox hb; have n0_ := Aside0.mk (below_step (by repeat (first | (with_reducible first | exact HB.out | apply below_alloc | apply pw_below_drewN | apply below_drew1) | exact HB.out)) hb); have n1_ := Aside0.mk (hbox); have n2_ := Aside0.mk ((by rw [hg]; exact (below_size (by repeat (first | (with_reducible first | exact HB.out | apply below_alloc | apply pw_below_drewN | apply below_drew1) | exact HB.out))) : w.heap.size ≤ gb104)); have n3_ := Aside0.mk ((by rw [hg]; exact (below_size (by repeat (first | (with_reducible first | exact HB.out | apply below_alloc | apply pw_below_drewN | apply below_drew1) | exact HB.out))) : w.heap.size ≤ gb104)); clear HB; have HB := n0_; have BK104 := n1_; have GW104 := n2_; have GE104 := n3_; clear n0_ n1_ n2_ n3_; clear hb hbox hg) | ((with_reducible refine gate_callee (f := 43) rfl ?_); refine goesL_ (some 11) rfl rfl Tryz.func43 (by kernel_rfl) rfl #[.string a0, .string (⟨#[45]⟩ : ByteArray)] rfl (by (try simp only [List.map_toArray, List.map_cons, List.map_nil]); first | done | rfl | (simp only [List.length_drop, List.length_take]; rfl)) ?_; (with_reducible refine (strings_CutPrefix.calls a0 (⟨#[45]⟩ : ByteArray) t105 t106 _ A2.out).mono ?_); rintro e w46 ⟨rfl, hb⟩; refine ⟨_, rfl, ?_⟩; have n0_ := Aside0.mk (blk_below (g := gb104) (o := .cells #[.bool false, .string (⟨#[]⟩ : ByteArray), .int .i64 0] 23 (0, 0)) (by (with_reducible repeat (first | refine blk_drewN ?_ _ | refine blk_drew ?_ | refine blk_alloc ?_ _)); exact BK104.out) hb); have n1_ := Aside0.mk (below_step (by repeat (first | (with_reducible first | exact HB.out | apply below_alloc | apply pw_below_drewN | apply below_drew1 | refine below_set ?_ GE104.out) | exact HB.out)) hb); clear BK104; clear HB; have BK104 := n0_; have HB := n1_; clear n0_ n1_; (try clear hb); (try clear hb2); (try clear hk); (try clear hi)) | ((with_reducible refine gate_callee (f := 44) rfl ?_); refine goesL_ (some 16) rfl rfl Tryz.func44 (by kernel_rfl) rfl #[.string t105, .string (⟨#[46]⟩ : ByteArray)] rfl (by (try simp only [List.map_toArray, List.map_cons, List.map_nil]); first | done | rfl | (simp only [List.length_drop, List.length_take]; rfl)) ?_; (with_reducible refine (strings_Cut.calls t105 (⟨#[46]⟩ : ByteArray) t107 t108 t109 _ A3.out).mono ?_); rintro e w47 ⟨rfl, hb⟩; refine ⟨_, rfl, ?_⟩; have n0_ := Aside0.mk (blk_below (g := gb104) (o := .cells #[.bool false, .string (⟨#[]⟩ : ByteArray), .int .i64 0] 23 (0, 0)) (by (with_reducible repeat (first | refine blk_drewN ?_ _ | refine blk_drew ?_ | refine blk_alloc ?_ _)); exact BK104.out) hb); have n1_ := Aside0.mk (below_step (by repeat (first | (with_reducible first | exact HB.out | apply below_alloc | apply pw_below_drewN | apply below_drew1 | refine below_set ?_ GE104.out) | exact HB.out)) hb); clear BK104; clear HB; have BK104 := n0_; have HB := n1_; clear n0_ n1_; (try clear hb); (try clear hb2); (try clear hk); (try clear hi)) | ((with_reducible refine gate_callee (f := 45) rfl ?_); refine goesL_ (some 21) rfl rfl Tryz.func45 (by kernel_rfl) rfl #[.string t107] rfl (by (try simp only [List.map_toArray, List.map_cons, List.map_nil]); first | done | rfl | (simp only [List.length_drop, List.length_take]; rfl)) ?_; (with_reducible refine (dec_isDigits.calls t107 false _ A4.out).mono ?_); rintro e w48 ⟨rfl, hb⟩; refine ⟨_, rfl, ?_⟩; have n0_ := Aside0.mk (blk_below (g := gb104) (o := .cells #[.bool false, .string (⟨#[]⟩ : ByteArray), .int .i64 0] 23 (0, 0)) (by (with_reducible repeat (first | refine blk_drewN ?_ _ | refine blk_drew ?_ | refine blk_alloc ?_ _)); exact BK104.out) hb); have n1_ := Aside0.mk (below_step (by repeat (first | (with_reducible first | exact HB.out | apply below_alloc | apply pw_below_drewN | apply below_drew1 | refine below_set ?_ GE104.out) | exact HB.out)) hb); clear BK104; clear HB; have BK104 := n0_; have HB := n1_; clear n0_ n1_; (try clear hb); (try clear hb2); (try clear hk); (try clear hi); have hcz49_0 : w48.cell? ⟨gb104, 0, none⟩ = some (.bool false) := (blk_cell BK104.out 0).trans rfl; have hcz49_1 : w48.cell? ⟨gb104, 1, none⟩ = some (.string (⟨#[]⟩ : ByteArray)) := (blk_cell BK104.out 1).trans rfl; have hcz49_2 : w48.cell? ⟨gb104, 2, none⟩ = some (.int .i64 0) := (blk_cell BK104.out 2).trans rfl; have hfz49_0 := blk_frozen BK104.out 0; have hfz49_1 := blk_frozen BK104.out 1; have hfz49_2 := blk_frozen BK104.out 2))
    refine bodyPost_ret (results_ct rfl _ _ gb104 23 #[.bool false, .string (⟨#[]⟩ : ByteArray), .int .i64 0] (0, 0) _ rfl (by (with_reducible repeat (first | refine blk_drewN ?_ _ | refine blk_drew ?_ | refine blk_alloc ?_ _)); refine blk_put (cs := #[.bool false, .string (⟨#[]⟩ : ByteArray), .int .i64 0]) ?_ 2 _ rfl; (with_reducible repeat (first | refine blk_drewN ?_ _ | refine blk_drew ?_ | refine blk_alloc ?_ _)); refine blk_put (cs := #[.bool false, .string (⟨#[]⟩ : ByteArray), .int .i64 0]) ?_ 1 _ rfl; (with_reducible repeat (first | refine blk_drewN ?_ _ | refine blk_drew ?_ | refine blk_alloc ?_ _)); refine blk_put (cs := #[.bool false, .string (⟨#[]⟩ : ByteArray), .int .i64 0]) ?_ 0 _ rfl; (with_reducible repeat (first | refine blk_drewN ?_ _ | refine blk_drew ?_ | refine blk_alloc ?_ _)); exact BK104.out) Tryz.underlying23 rfl (by kernel_rfl)) rfl ?_
    exact ⟨by first | rfl | (simp [errW_none, errW_some] <;> rfl) | (simp [*, errW_none, errW_some] <;> rfl), by repeat (first | (with_reducible first | exact HB.out | apply below_alloc | apply pw_below_drewN | apply below_drew1 | refine below_set ?_ GE104.out) | exact HB.out)⟩
def dec_Dec_Zero.f (a0_0 : Bool) (a0_1 : ByteArray) (a0_2 : Int) : Option (Bool) := (strings_Trim.f a0_1 (⟨#[48]⟩ : ByteArray)).bind fun t119 => (some (t119.toList == ([] : List UInt8)))
set_option maxHeartbeats 8000000 in
set_option maxRecDepth 100000 in
theorem dec_Dec_Zero.calls (a0_0 : Bool) (a0_1 : ByteArray) (a0_2 : Int) (r : Bool) (w : World) (h : dec_Dec_Zero.f a0_0 a0_1 a0_2 = some r) :
    Calls Tryz.prog 28 #[.agg #[.bool a0_0, .string a0_1, .int .i64 a0_2]] w fun e w' => e = .returned (.bool r) ∧ Below w.heap.size w w' := by
  have hu23 := Tryz.underlying23
  have HB := Aside0.mk (Below.refl w.heap.size w)
  have H : ((strings_Trim.f a0_1 (⟨#[48]⟩ : ByteArray)).bind fun t119 => (some (t119.toList == ([] : List UInt8)))) = some r := h
  clear h
  replace H := Option.bind_eq_some_iff.mp H
  obtain ⟨t119, A20, H⟩ := H
  replace H : (some (t119.toList == ([] : List UInt8))) = some r := H
  have A2 := Aside0.mk A20
  clear A20
  obtain rfl := Option.some.inj H
  go_enter Tryz.func28, Tryz.ntmps28
  go_wp2_with (first | ((with_reducible refine gate_dst (N := 1) rfl ?_); refine box_event ?hg (N := 1) ?hd (cs := #[.bool a0_0, .string a0_1, .int .i64 a0_2]) (t := 23) ?hr ?_; (case hd => rfl); (case hg => rfl); (case hr => first | (go_simp; done) | (go_simp; rfl)); intro gb118 hg w3 hbox hb; have n0_ := Aside0.mk (below_step (by repeat (first | (with_reducible first | exact HB.out | apply below_alloc | apply pw_below_drewN | apply below_drew1) | exact HB.out)) hb); have n1_ := Aside0.mk (hbox); have n2_ := Aside0.mk ((by rw [hg]; exact (below_size (by repeat (first | (with_reducible first | exact HB.out | apply below_alloc | apply pw_below_drewN | apply below_drew1) | exact HB.out))) : w.heap.size ≤ gb118)); have n3_ := Aside0.mk ((by rw [hg]; exact (below_size (by repeat (first | (with_reducible first | exact HB.out | apply below_alloc | apply pw_below_drewN | apply below_drew1) | exact HB.out))) : w.heap.size ≤ gb118)); clear HB; have HB := n0_; have BK118 := n1_; have GW118 := n2_; have GE118 := n3_; clear n0_ n1_ n2_ n3_; clear hb hbox hg; have hcz4_0 : w3.cell? ⟨gb118, 0, none⟩ = some (.bool a0_0) := (blk_cell BK118.out 0).trans rfl; have hcz4_1 : w3.cell? ⟨gb118, 1, none⟩ = some (.string a0_1) := (blk_cell BK118.out 1).trans rfl; have hcz4_2 : w3.cell? ⟨gb118, 2, none⟩ = some (.int .i64 a0_2) := (blk_cell BK118.out 2).trans rfl; have hfz4_0 := blk_frozen BK118.out 0; have hfz4_1 := blk_frozen BK118.out 1; have hfz4_2 := blk_frozen BK118.out 2) | ((with_reducible refine gate_callee (f := 47) rfl ?_); refine goesL_ (some 5) rfl rfl Tryz.func47 (by kernel_rfl) rfl #[.string a0_1, .string (⟨#[48]⟩ : ByteArray)] rfl (by (try simp only [List.map_toArray, List.map_cons, List.map_nil]); first | done | rfl | (simp only [List.length_drop, List.length_take]; rfl)) ?_; (with_reducible refine (strings_Trim.calls a0_1 (⟨#[48]⟩ : ByteArray) t119 _ A2.out).mono ?_); rintro e w5 ⟨rfl, hb⟩; refine ⟨_, rfl, ?_⟩; have n0_ := Aside0.mk (blk_below (g := gb118) (o := .cells #[.bool a0_0, .string a0_1, .int .i64 a0_2] 23 (0, 0)) (by (with_reducible repeat (first | refine blk_drewN ?_ _ | refine blk_drew ?_ | refine blk_alloc ?_ _)); exact BK118.out) hb); have n1_ := Aside0.mk (below_step (by repeat (first | (with_reducible first | exact HB.out | apply below_alloc | apply pw_below_drewN | apply below_drew1 | refine below_set ?_ GE118.out) | exact HB.out)) hb); clear BK118; clear HB; have BK118 := n0_; have HB := n1_; clear n0_ n1_; (try clear hb); (try clear hb2); (try clear hk); (try clear hi)))
  go_ret
  exact ⟨by first | rfl | (simp [errW_none, errW_some] <;> rfl) | (simp [*, errW_none, errW_some] <;> rfl), by repeat (first | (with_reducible first | exact HB.out | apply below_alloc | apply pw_below_drewN | apply below_drew1 | refine below_set ?_ GE118.out) | exact HB.out)⟩
def cmp_Or_int.l0 : Nat → Int → List Int → Int → Int → Option (Int)
  | 0, _, _, _, _ => none
  | k + 1, x3, x6, x7, x8 => if x8 < x7 then (if 0 ≤ x8 then (if x8 < (x6.length : Int) then (if (rd x6 x8) = x3 then (cmp_Or_int.l0 k x3 x6 x7 (wrap64 (x8 + 1))) else (some (rd x6 x8))) else (none)) else (none)) else (some x3)
def cmp_Or_int.f (k : Nat) (l0 : List Int) : Option (Int) := cmp_Or_int.l0 k 0 l0 (l0.length : Int) 0
set_option maxHeartbeats 8000000 in
set_option maxRecDepth 100000 in
theorem cmp_Or_int.calls (k : Nat) (A0 : Option Addr) (c0 : Nat) (l0 : List Int) (r : Int) (w : World) (hr0 : Kd.C (Kd.int .i64) w A0 l0.length l0) (hc0 : l0.length ≤ c0) (h : cmp_Or_int.f k l0 = some r) :
    Calls Tryz.prog 49 #[.slice A0 l0.length c0] w fun e w' => e = .returned (.int .i64 r) ∧ Drawn0 w w' := by
  have HR0 := Aside0.mk hr0
  have HC0 := Aside0.mk hc0
  clear hr0 hc0
  have H : (cmp_Or_int.l0 k 0 l0 (l0.length : Int) 0) = some r := h
  clear h
  have H' := Aside0.mk H
  clear H
  go_enter Tryz.func49, Tryz.ntmps49
  go_wp2
  go_loopg [8] k (fun kq v8 w' => ∃ (x8_1 : Int), v8 = .int .i64 x8_1 ∧ Aside0 (cmp_Or_int.l0 kq 0 l0 (l0.length : Int) x8_1 = some r) ∧ Aside0 (kq ≤ k) ∧ Drawn0 w w')
  case atStart => exact ⟨(0), (by first | rfl | (simp; done) | (simp [*]; done)), H', ⟨Nat.le_refl _⟩, by repeat (first | exact Drawn0.refl _ | apply Drawn0.step)⟩
  case round =>
    clear H'
    obtain ⟨x8_1, rfl, HA, HK1, ⟨m1, rfl⟩⟩ := hrel
    cases gk with
    | zero => exact absurd HA.out (by simp [cmp_Or_int.l0])
    | succ k1 =>
      have H := HA.out
      clear HA
      simp only [cmp_Or_int.l0] at H
      by_cases c2 : x8_1 < (l0.length : Int)
      · rw [if_pos c2] at H
        have c2b0 : decide (x8_1 < (l0.length : Int)) = true := decide_eq_true c2
        clear c2
        by_cases c3 : 0 ≤ x8_1
        · rw [if_pos c3] at H
          have c3b0 : decide (0 ≤ x8_1) = true := decide_eq_true c3
          clear c3
          by_cases c4 : x8_1 < (l0.length : Int)
          · rw [if_pos c4] at H
            have c4b0 : decide (x8_1 < (l0.length : Int)) = true := decide_eq_true c4
            clear c4
            by_cases c5 : (rd l0 x8_1) = 0
            · rw [if_pos c5] at H
              have c5b0 : ((rd l0 x8_1) == 0) = true := beq_iff_eq.mpr c5
              have c5b1 : ((rd l0 x8_1) != 0) = false := bne_eq_false_iff_eq.mpr c5
              clear c5
              have H' := Aside0.mk H
              clear H
              have p120 : 0 ≤ (x8_1 : Int) := of_decide_eq_true (by first | (with_reducible assumption) | assumption)
              have q120 : x8_1 < (l0.length : Int) := of_decide_eq_true (by first | (with_reducible assumption) | assumption)
              obtain ⟨ad120, e120, hx120_0⟩ := Kd.at_int HR0.out x8_1 p120 q120
              cases e120
              replace p120 := eq_true p120
              replace q120 := eq_true q120
              go_wp2
              go_roundg k1
              case measure => have := HK1.out; omega
              case rel => exact ⟨(wrap64 (x8_1 + 1)), (by first | rfl | (simp; done) | (simp [*]; done)), H', ⟨by have := HK1.out; omega⟩, by repeat (first | exact Drawn0.refl _ | apply Drawn0.step)⟩
            · rw [if_neg c5] at H
              have c5b0 : ((rd l0 x8_1) == 0) = false := beq_eq_false_iff_ne.mpr c5
              have c5b1 : ((rd l0 x8_1) != 0) = true := bne_iff_ne.mpr c5
              obtain rfl := Option.some.inj H
              have p120 : 0 ≤ (x8_1 : Int) := of_decide_eq_true (by first | (with_reducible assumption) | assumption)
              have q120 : x8_1 < (l0.length : Int) := of_decide_eq_true (by first | (with_reducible assumption) | assumption)
              obtain ⟨ad120, e120, hx120_0⟩ := Kd.at_int HR0.out x8_1 p120 q120
              cases e120
              replace p120 := eq_true p120
              replace q120 := eq_true q120
              go_wp2
              go_ret
              exact ⟨by first | rfl | (simp; done) | (simp [*]; done), by repeat (first | exact Drawn0.refl _ | apply Drawn0.step)⟩
          · rw [if_neg c4] at H
            exact absurd H (by simp)
        · rw [if_neg c3] at H
          exact absurd H (by simp)
      · rw [if_neg c2] at H
        have c2b0 : decide (x8_1 < (l0.length : Int)) = false := decide_eq_false c2
        clear c2
        obtain rfl := Option.some.inj H
        go_wp2
        go_ret
        exact ⟨by first | rfl | (simp; done) | (simp [*]; done), by repeat (first | exact Drawn0.refl _ | apply Drawn0.step)⟩
end Go.Proofs.YtgjboghnnhcgiaaGreatDoor.R
namespace Go.Proofs.YtgjboghnnhcgiaaGreatDoor.R
open Go.RowKit Go.Proofs.YtgjboghnnhcgiaaGreatDoor.G Go.Proofs.YtgjboghnnhcgiaaGreatDoor.U Go.Proofs.YtgjboghnnhcgiaaGreatDoorW.PrintWords Go.Proofs.YtgjboghnnhcgiaaGreatDoorW.PrintLast Go.Proofs.YtgjboghnnhcgiaaGreatDoorW.PrintMore
attribute [local go_sem] max2_int min2_int max_two min_two max_three min_three max_four min_four
set_option linter.unusedVariables false
set_option linter.unusedSimpArgs false
def dec_Dec_size.f (k : Nat) (a0_0 : Bool) (a0_1 : ByteArray) (a0_2 : Int) (a1_0 : Bool) (a1_1 : ByteArray) (a1_2 : Int) : Option (Int) := (strings_Repeat.f (⟨#[48]⟩ : ByteArray) (wrap64 ((mx a0_2 a1_2) - a0_2))).bind fun t123 => (if a0_1.size + t123.size ≤ 9223372036854775807 then ((strings_Repeat.f (⟨#[48]⟩ : ByteArray) (wrap64 ((mx a0_2 a1_2) - a1_2))).bind fun t124 => (if a1_1.size + t124.size ≤ 9223372036854775807 then ((strings_TrimLeft.f (a0_1 ++ t123) (⟨#[48]⟩ : ByteArray)).bind fun t125 => ((strings_TrimLeft.f (a1_1 ++ t124) (⟨#[48]⟩ : ByteArray)).bind fun t126 => ((cmp_Compare_int.f (t125.size : Int) (t126.size : Int)).bind fun t127 => ((cmp_Compare_string.f t125 t126).bind fun t128 => ((cmp_Or_int.f k (([t127, t128] : List Int))).bind fun t132 => (some t132)))))) else (none))) else (none))
def dec_Dec_size.T2 : Bool × List (List Nat × List Nat) := (true, [([], []), ([0], [0]), ([], []), ([], []), ([3], [3]), ([2, 4], [2, 4]), ([5], [5]), ([1, 6], [1, 6]), ([], []), ([8], [8]), ([], []), ([], []), ([11], [11]), ([10, 12], [10, 12]), ([13, 6], [13]), ([9, 14], [9, 14]), ([7, 14, 0, 1, 2, 3, 4, 5, 6, 7], [7]), ([15, 16, 0, 1, 2, 3, 4, 5, 6, 7, 8, 9, 10, 11, 12, 13, 14, 15, 16], [15])])
def dec_Dec_size.B2 : List Nat := [0, 1, 0, 0, 8, 28, 60, 127, 0, 256, 0, 0, 2048, 7168, 15484, 32636, 31999, 131071]
theorem dec_Dec_size.tab2 : rtab .any (opsOf Tryz.f29 2) = dec_Dec_size.T2 := by kernel_rfl
theorem dec_Dec_size.bits2 : waitsOk dec_Dec_size.T2.2 dec_Dec_size.B2 = true := by kernel_rfl
set_option maxHeartbeats 8000000 in
set_option maxRecDepth 100000 in
theorem dec_Dec_size.calls (k : Nat) (a0_0 : Bool) (a0_1 : ByteArray) (a0_2 : Int) (a1_0 : Bool) (a1_1 : ByteArray) (a1_2 : Int) (r : Int) (w : World) (h : dec_Dec_size.f k a0_0 a0_1 a0_2 a1_0 a1_1 a1_2 = some r) :
    Calls Tryz.prog 29 #[.agg #[.bool a0_0, .string a0_1, .int .i64 a0_2], .agg #[.bool a1_0, .string a1_1, .int .i64 a1_2]] w fun e w' => e = .returned (.int .i64 r) ∧ Below w.heap.size w w' := by
  have hu23 := Tryz.underlying23
  have HB := Aside0.mk (Below.refl w.heap.size w)
  have H : ((strings_Repeat.f (⟨#[48]⟩ : ByteArray) (wrap64 ((mx a0_2 a1_2) - a0_2))).bind fun t123 => (if a0_1.size + t123.size ≤ 9223372036854775807 then ((strings_Repeat.f (⟨#[48]⟩ : ByteArray) (wrap64 ((mx a0_2 a1_2) - a1_2))).bind fun t124 => (if a1_1.size + t124.size ≤ 9223372036854775807 then ((strings_TrimLeft.f (a0_1 ++ t123) (⟨#[48]⟩ : ByteArray)).bind fun t125 => ((strings_TrimLeft.f (a1_1 ++ t124) (⟨#[48]⟩ : ByteArray)).bind fun t126 => ((cmp_Compare_int.f (t125.size : Int) (t126.size : Int)).bind fun t127 => ((cmp_Compare_string.f t125 t126).bind fun t128 => ((cmp_Or_int.f k (([t127, t128] : List Int))).bind fun t132 => (some t132)))))) else (none))) else (none))) = some r := h
  clear h
  obtain ⟨ji3, hji3⟩ : ∃ j_ : Int, (mx a0_2 a1_2) = j_ := ⟨_, rfl⟩
  replace H : ((strings_Repeat.f (⟨#[48]⟩ : ByteArray) (wrap64 ((ji3) - a0_2))).bind fun t123 => (if a0_1.size + t123.size ≤ 9223372036854775807 then ((strings_Repeat.f (⟨#[48]⟩ : ByteArray) (wrap64 ((ji3) - a1_2))).bind fun t124 => (if a1_1.size + t124.size ≤ 9223372036854775807 then ((strings_TrimLeft.f (a0_1 ++ t123) (⟨#[48]⟩ : ByteArray)).bind fun t125 => ((strings_TrimLeft.f (a1_1 ++ t124) (⟨#[48]⟩ : ByteArray)).bind fun t126 => ((cmp_Compare_int.f (t125.size : Int) (t126.size : Int)).bind fun t127 => ((cmp_Compare_string.f t125 t126).bind fun t128 => ((cmp_Or_int.f k (([t127, t128] : List Int))).bind fun t132 => (some t132)))))) else (none))) else (none))) = some r := by first | (rw [hji3] at H; exact H) | (simp only [hji3] at H ⊢; exact H)
  have hji3_ : (if a0_2 < a1_2 then a1_2 else a0_2) = ji3 := hji3
  replace H := Option.bind_eq_some_iff.mp H
  obtain ⟨t123, A40, H⟩ := H
  replace H : (if a0_1.size + t123.size ≤ 9223372036854775807 then ((strings_Repeat.f (⟨#[48]⟩ : ByteArray) (wrap64 ((ji3) - a1_2))).bind fun t124 => (if a1_1.size + t124.size ≤ 9223372036854775807 then ((strings_TrimLeft.f (a0_1 ++ t123) (⟨#[48]⟩ : ByteArray)).bind fun t125 => ((strings_TrimLeft.f (a1_1 ++ t124) (⟨#[48]⟩ : ByteArray)).bind fun t126 => ((cmp_Compare_int.f (t125.size : Int) (t126.size : Int)).bind fun t127 => ((cmp_Compare_string.f t125 t126).bind fun t128 => ((cmp_Or_int.f k (([t127, t128] : List Int))).bind fun t132 => (some t132)))))) else (none))) else (none)) = some r := H
  have A4 := Aside0.mk A40
  clear A40
  by_cases c5 : a0_1.size + t123.size ≤ 9223372036854775807
  · rw [if_pos c5] at H
    try simp only [show wrap64 ((a0_1.size : Int) + (t123.size : Int)) = (a0_1.size : Int) + (t123.size : Int) from by unfold wrap64; omega] at *
    have c5b0 := eq_true c5
    have c5b1 : decide (a0_1.size + t123.size ≤ 9223372036854775807) = true := decide_eq_true c5
    try have c5b2 : (9223372036854775807 < a0_1.size + t123.size) = False := eq_false (Nat.not_lt.2 c5)
    replace H := Option.bind_eq_some_iff.mp H
    obtain ⟨t124, A60, H⟩ := H
    replace H : (if a1_1.size + t124.size ≤ 9223372036854775807 then ((strings_TrimLeft.f (a0_1 ++ t123) (⟨#[48]⟩ : ByteArray)).bind fun t125 => ((strings_TrimLeft.f (a1_1 ++ t124) (⟨#[48]⟩ : ByteArray)).bind fun t126 => ((cmp_Compare_int.f (t125.size : Int) (t126.size : Int)).bind fun t127 => ((cmp_Compare_string.f t125 t126).bind fun t128 => ((cmp_Or_int.f k (([t127, t128] : List Int))).bind fun t132 => (some t132)))))) else (none)) = some r := H
    have A6 := Aside0.mk A60
    clear A60
    by_cases c7 : a1_1.size + t124.size ≤ 9223372036854775807
    · rw [if_pos c7] at H
      try simp only [show wrap64 ((a1_1.size : Int) + (t124.size : Int)) = (a1_1.size : Int) + (t124.size : Int) from by unfold wrap64; omega] at *
      have c7b0 := eq_true c7
      have c7b1 : decide (a1_1.size + t124.size ≤ 9223372036854775807) = true := decide_eq_true c7
      try have c7b2 : (9223372036854775807 < a1_1.size + t124.size) = False := eq_false (Nat.not_lt.2 c7)
      replace H := Option.bind_eq_some_iff.mp H
      obtain ⟨t125, A80, H⟩ := H
      replace H : ((strings_TrimLeft.f (a1_1 ++ t124) (⟨#[48]⟩ : ByteArray)).bind fun t126 => ((cmp_Compare_int.f (t125.size : Int) (t126.size : Int)).bind fun t127 => ((cmp_Compare_string.f t125 t126).bind fun t128 => ((cmp_Or_int.f k (([t127, t128] : List Int))).bind fun t132 => (some t132))))) = some r := H
      have A8 := Aside0.mk A80
      clear A80
      replace H := Option.bind_eq_some_iff.mp H
      obtain ⟨t126, A90, H⟩ := H
      replace H : ((cmp_Compare_int.f (t125.size : Int) (t126.size : Int)).bind fun t127 => ((cmp_Compare_string.f t125 t126).bind fun t128 => ((cmp_Or_int.f k (([t127, t128] : List Int))).bind fun t132 => (some t132)))) = some r := H
      have A9 := Aside0.mk A90
      clear A90
      replace H := Option.bind_eq_some_iff.mp H
      obtain ⟨t127, A100, H⟩ := H
      replace H : ((cmp_Compare_string.f t125 t126).bind fun t128 => ((cmp_Or_int.f k (([t127, t128] : List Int))).bind fun t132 => (some t132))) = some r := H
      have A10 := Aside0.mk A100
      clear A100
      replace H := Option.bind_eq_some_iff.mp H
      obtain ⟨t128, A110, H⟩ := H
      replace H : ((cmp_Or_int.f k (([t127, t128] : List Int))).bind fun t132 => (some t132)) = some r := H
      have A11 := Aside0.mk A110
      clear A110
      obtain ⟨y129, hy129⟩ : ∃ y_ : List Int, y_ = (([t127, t128] : List Int)) := ⟨_, rfl⟩
      replace H : ((cmp_Or_int.f k y129).bind fun t132 => (some t132)) = some r := by first | (rw [hy129]; with_reducible exact H) | (have H2_ := (Option.bind_some _ _).symm.trans H; rw [hy129]; with_reducible exact H2_) | (have H2_ := (Option.bind_some _ _).symm.trans H; with_reducible exact H2_) | with_reducible exact H | (rw [hy129]; exact H) | exact H
      have Ny129 := Aside0.mk hy129
      clear hy129
      replace H := Option.bind_eq_some_iff.mp H
      obtain ⟨t132, A120, H⟩ := H
      replace H : (some t132) = some r := H
      have A12 := Aside0.mk A120
      clear A120
      obtain rfl := Option.some.inj H
      go_enter Tryz.func29, Tryz.ntmps29
      try go_wp2_with (first | ((with_reducible refine gate_dst (N := 2) rfl ?_); refine box_event ?hg (N := 2) ?hd (cs := #[.bool a0_0, .string a0_1, .int .i64 a0_2]) (t := 23) ?hr ?_; (case hd => rfl); (case hg => rfl); (case hr => first | (go_simp; done) | (go_simp; rfl)); intro gb121 hg w13 hbox hb; have n0_ := Aside0.mk (below_step (by repeat (first | (with_reducible first | exact HB.out | apply below_alloc | apply pw_below_drewN | apply below_drew1) | exact HB.out)) hb); have n1_ := Aside0.mk (hbox); have n2_ := Aside0.mk ((by rw [hg]; exact (below_size (by repeat (first | (with_reducible first | exact HB.out | apply below_alloc | apply pw_below_drewN | apply below_drew1) | exact HB.out))) : w.heap.size ≤ gb121)); have n3_ := Aside0.mk ((by rw [hg]; exact (below_size (by repeat (first | (with_reducible first | exact HB.out | apply below_alloc | apply pw_below_drewN | apply below_drew1) | exact HB.out))) : w.heap.size ≤ gb121)); clear HB; have HB := n0_; have BK121 := n1_; have GW121 := n2_; have GE121 := n3_; clear n0_ n1_ n2_ n3_; clear hb hbox hg) | ((with_reducible refine gate_dst (N := 3) rfl ?_); refine box_event ?hg (N := 3) ?hd (cs := #[.bool a1_0, .string a1_1, .int .i64 a1_2]) (t := 23) ?hr ?_; (case hd => rfl); (case hg => rfl); (case hr => first | (go_simp; done) | (go_simp; rfl)); intro gb122 hg w14 hbox hb; have n0_ := Aside0.mk (blk_below (g := gb121) (o := .cells #[.bool a0_0, .string a0_1, .int .i64 a0_2] 23 (0, 0)) (by (with_reducible repeat (first | refine blk_drewN ?_ _ | refine blk_drew ?_ | refine blk_alloc ?_ _)); exact BK121.out) hb); have n1_ := Aside0.mk (below_step (by repeat (first | (with_reducible first | exact HB.out | apply below_alloc | apply pw_below_drewN | apply below_drew1 | refine below_set ?_ GE121.out) | exact HB.out)) hb); have n2_ := Aside0.mk (hbox); have n3_ := Aside0.mk ((by rw [hg]; exact (below_size (by repeat (first | (with_reducible first | exact HB.out | apply below_alloc | apply pw_below_drewN | apply below_drew1 | refine below_set ?_ GE121.out) | exact HB.out))) : w.heap.size ≤ gb122)); have n4_ := Aside0.mk ((by rw [hg]; exact (below_size (by repeat (first | (with_reducible first | exact HB.out | apply below_alloc | apply pw_below_drewN | apply below_drew1 | refine below_set ?_ GE121.out) | exact HB.out))) : w.heap.size ≤ gb122)); have n5_ := Aside0.mk ((by rw [hg]; exact Nat.ne_of_lt (blk_lt (g := gb121) (o := .cells #[.bool a0_0, .string a0_1, .int .i64 a0_2] 23 (0, 0)) (by (with_reducible repeat (first | refine blk_drewN ?_ _ | refine blk_drew ?_ | refine blk_alloc ?_ _)); exact BK121.out)) : gb121 ≠ gb122)); have n6_ := Aside0.mk ((by rw [hg]; exact Nat.ne_of_gt (blk_lt (g := gb121) (o := .cells #[.bool a0_0, .string a0_1, .int .i64 a0_2] 23 (0, 0)) (by (with_reducible repeat (first | refine blk_drewN ?_ _ | refine blk_drew ?_ | refine blk_alloc ?_ _)); exact BK121.out)) : gb122 ≠ gb121)); clear BK121; clear HB; have BK121 := n0_; have HB := n1_; have BK122 := n2_; have GW122 := n3_; have GE122 := n4_; have NB121_122 := n5_; have NB122_121 := n6_; clear n0_ n1_ n2_ n3_ n4_ n5_ n6_; clear hb hbox hg; have hnb15 := NB121_122.out; have hnc15 := NB122_121.out; have hcz16_0 : w14.cell? ⟨gb121, 0, none⟩ = some (.bool a0_0) := (blk_cell BK121.out 0).trans rfl; have hcz16_1 : w14.cell? ⟨gb121, 1, none⟩ = some (.string a0_1) := (blk_cell BK121.out 1).trans rfl; have hcz16_2 : w14.cell? ⟨gb121, 2, none⟩ = some (.int .i64 a0_2) := (blk_cell BK121.out 2).trans rfl; have hfz16_0 := blk_frozen BK121.out 0; have hfz16_1 := blk_frozen BK121.out 1; have hfz16_2 := blk_frozen BK121.out 2; have hcz17_0 : w14.cell? ⟨gb122, 0, none⟩ = some (.bool a1_0) := (blk_cell BK122.out 0).trans rfl; have hcz17_1 : w14.cell? ⟨gb122, 1, none⟩ = some (.string a1_1) := (blk_cell BK122.out 1).trans rfl; have hcz17_2 : w14.cell? ⟨gb122, 2, none⟩ = some (.int .i64 a1_2) := (blk_cell BK122.out 2).trans rfl; have hfz17_0 := blk_frozen BK122.out 0; have hfz17_1 := blk_frozen BK122.out 1; have hfz17_2 := blk_frozen BK122.out 2))
      have n0_ := Aside0.mk (blk_drew BK121.out)
      have n1_ := Aside0.mk (blk_drew BK122.out)
      have n2_ := Aside0.mk (below_drew1 HB.out)
      clear BK121
      clear BK122
      clear HB
      have BK121 := n0_
      have BK122 := n1_
      have HB := n2_
      clear n0_ n1_ n2_
      refine start_ (n := 18) (S := fun w' => w'.cell? ⟨gb121, 0, none⟩ = some (.bool a0_0) ∧ w'.cell? ⟨gb121, 1, none⟩ = some (.string a0_1) ∧ w'.cell? ⟨gb121, 2, none⟩ = some (.int .i64 a0_2) ∧ w'.cell? ⟨gb122, 0, none⟩ = some (.bool a1_0) ∧ w'.cell? ⟨gb122, 1, none⟩ = some (.string a1_1) ∧ w'.cell? ⟨gb122, 2, none⟩ = some (.int .i64 a1_2)) (ds := []) #[false, false, false, false, false, false, false, false, false, false, false, false, false, false, false, false, false, false] (by kernel_rfl) rfl rfl ⟨(blk_cell BK121.out 0).trans rfl, (blk_cell BK121.out 1).trans rfl, (blk_cell BK121.out 2).trans rfl, (blk_cell BK122.out 0).trans rfl, (blk_cell BK122.out 1).trans rfl, (blk_cell BK122.out 2).trans rfl⟩ (fun hHeld => ?_); refine with_tabW dec_Dec_size.tab2 dec_Dec_size.bits2 (fun HT_ HW_ => ?_)
      generalize w14.drew = w18 at BK121 BK122 HB hHeld ⊢
      refine pure_ (i := 0) (N := some 13) (v := ?_) (a' := ?_) #[true, false, false, false, false, false, false, false, false, false, false, false, false, false, false, false, false, false] rfl rfl (any_of HT_.out (by kernel_rfl)) (fun _ _ _ h => h) (Or.inl ⟨by rfl, ?_⟩) ?_ ?_
      rotate_left
      · intro w'
        go_simp
        with_reducible rfl
      rotate_left
      · simp only [Act.put, List.setIfInBounds_toArray, List.set_cons_zero, List.set_cons_succ, i64_w, i32_w]
        rfl
      refine pure_ (i := 2) (N := some 15) (v := ?_) (a' := ?_) #[true, false, true, false, false, false, false, false, false, false, false, false, false, false, false, false, false, false] rfl rfl (any_of HT_.out (by kernel_rfl)) (fun _ _ _ h => h) (Or.inl ⟨by rfl, ?_⟩) ?_ ?_
      rotate_left
      · intro w'
        go_simp
        with_reducible rfl
      rotate_left
      · simp only [Act.put, List.setIfInBounds_toArray, List.set_cons_zero, List.set_cons_succ, i64_w, i32_w]
        rfl
      refine pure_ (i := 3) (N := some 16) (v := ?_) (a' := ?_) #[true, false, true, true, false, false, false, false, false, false, false, false, false, false, false, false, false, false] rfl rfl (any_of HT_.out (by kernel_rfl)) (fun _ _ _ h => h) (Or.inl ⟨by rfl, ?_⟩) ?_ ?_
      rotate_left
      · intro w'
        go_simp
        with_reducible rfl
      rotate_left
      · simp only [Act.put, List.setIfInBounds_toArray, List.set_cons_zero, List.set_cons_succ, i64_w, i32_w]
        rfl
      refine pure_ (i := 8) (N := some 21) (v := ?_) (a' := ?_) #[true, false, true, true, false, false, false, false, true, false, false, false, false, false, false, false, false, false] rfl rfl (any_of HT_.out (by kernel_rfl)) (fun _ _ _ h => h) (Or.inl ⟨by rfl, ?_⟩) ?_ ?_
      rotate_left
      · intro w'
        go_simp
        with_reducible rfl
      rotate_left
      · simp only [Act.put, List.setIfInBounds_toArray, List.set_cons_zero, List.set_cons_succ, i64_w, i32_w]
        rfl
      refine pure_ (i := 10) (N := some 23) (v := ?_) (a' := ?_) #[true, false, true, true, false, false, false, false, true, false, true, false, false, false, false, false, false, false] rfl rfl (any_of HT_.out (by kernel_rfl)) (fun _ _ _ h => h) (Or.inl ⟨by rfl, ?_⟩) ?_ ?_
      rotate_left
      · intro w'
        go_simp
        with_reducible rfl
      rotate_left
      · simp only [Act.put, List.setIfInBounds_toArray, List.set_cons_zero, List.set_cons_succ, i64_w, i32_w]
        rfl
      refine pure_ (i := 11) (N := some 24) (v := ?_) (a' := ?_) #[true, false, true, true, false, false, false, false, true, false, true, true, false, false, false, false, false, false] rfl rfl (any_of HT_.out (by kernel_rfl)) (fun _ _ _ h => h) (Or.inl ⟨by rfl, ?_⟩) ?_ ?_
      rotate_left
      · intro w'
        go_simp
        with_reducible rfl
      rotate_left
      · simp only [Act.put, List.setIfInBounds_toArray, List.set_cons_zero, List.set_cons_succ, i64_w, i32_w]
        rfl
      refine take_ (i := 1) (N := some 14) (v := ?_) (a' := ?_) #[true, true, true, true, false, false, false, false, true, false, true, true, false, false, false, false, false, false] rfl rfl (take_ofW HT_.out HW_.out (by kernel_rfl)) (fun _ _ _ h => h) (Or.inl ⟨by rfl, ?_⟩) hHeld ?_ ?_
      rotate_left
      · rintro w' ⟨s0, s1, s2, s3, s4, s5⟩
        go_simp
        with_reducible rfl
      rotate_left
      · simp only [Act.put, List.setIfInBounds_toArray, List.set_cons_zero, List.set_cons_succ, i64_w, i32_w]
        rfl
      refine take_ (i := 4) (N := some 17) (v := ?_) (a' := ?_) #[true, true, true, true, true, false, false, false, true, false, true, true, false, false, false, false, false, false] rfl rfl (take_ofW HT_.out HW_.out (by kernel_rfl)) (fun _ _ _ h => h) (Or.inl ⟨by rfl, ?_⟩) hHeld ?_ ?_
      rotate_left
      · rintro w' ⟨s0, s1, s2, s3, s4, s5⟩
        go_simp
        with_reducible rfl
      rotate_left
      · simp only [Act.put, List.setIfInBounds_toArray, List.set_cons_zero, List.set_cons_succ, i64_w, i32_w]
        rfl
      refine pure_ (i := 5) (N := some 18) (v := ?_) (a' := ?_) #[true, true, true, true, true, true, false, false, true, false, true, true, false, false, false, false, false, false] rfl rfl (any_of HT_.out (by kernel_rfl)) (fun _ _ _ h => h) (Or.inl ⟨by rfl, ?_⟩) ?_ ?_
      rotate_left
      · intro w'
        go_simp
        with_reducible rfl
      rotate_left
      · simp only [Act.put, List.setIfInBounds_toArray, List.set_cons_zero, List.set_cons_succ, i64_w, i32_w]
        rfl
      refine take_ (i := 9) (N := some 22) (v := ?_) (a' := ?_) #[true, true, true, true, true, true, false, false, true, true, true, true, false, false, false, false, false, false] rfl rfl (take_ofW HT_.out HW_.out (by kernel_rfl)) (fun _ _ _ h => h) (Or.inl ⟨by rfl, ?_⟩) hHeld ?_ ?_
      rotate_left
      · rintro w' ⟨s0, s1, s2, s3, s4, s5⟩
        go_simp
        with_reducible rfl
      rotate_left
      · simp only [Act.put, List.setIfInBounds_toArray, List.set_cons_zero, List.set_cons_succ, i64_w, i32_w]
        rfl
      refine take_ (i := 12) (N := some 25) (v := ?_) (a' := ?_) #[true, true, true, true, true, true, false, false, true, true, true, true, true, false, false, false, false, false] rfl rfl (take_ofW HT_.out HW_.out (by kernel_rfl)) (fun _ _ _ h => h) (Or.inl ⟨by rfl, ?_⟩) hHeld ?_ ?_
      rotate_left
      · rintro w' ⟨s0, s1, s2, s3, s4, s5⟩
        go_simp
        with_reducible rfl
      rotate_left
      · simp only [Act.put, List.setIfInBounds_toArray, List.set_cons_zero, List.set_cons_succ, i64_w, i32_w]
        rfl
      refine pure_ (i := 13) (N := some 26) (v := ?_) (a' := ?_) #[true, true, true, true, true, true, false, false, true, true, true, true, true, true, false, false, false, false] rfl rfl (any_of HT_.out (by kernel_rfl)) (fun _ _ _ h => h) (Or.inl ⟨by rfl, ?_⟩) ?_ ?_
      rotate_left
      · intro w'
        go_simp
        with_reducible rfl
      rotate_left
      · simp only [Act.put, List.setIfInBounds_toArray, List.set_cons_zero, List.set_cons_succ, i64_w, i32_w]
        rfl
      refine one_ (i := 6) (N := some 19) #[true, true, true, true, true, true, true, false, true, true, true, true, true, true, false, false, false, false] rfl rfl (one_of HT_.out (by kernel_rfl)) (by decide) (fun K hK => ?_)
      refine goes_ Tryz.func34 (by kernel_rfl) rfl #[.string (⟨#[48]⟩ : ByteArray), .int .i64 (wrap64 ((ji3) - a0_2))] (by rfl) rfl rfl (by (try simp only [List.map_toArray, List.map_cons, List.map_nil]); first | done | (simp only [hji3]; rfl) | rfl | (simp only [List.length_drop, List.length_take]; rfl)) ?_
      with_reducible refine (strings_Repeat.calls (⟨#[48]⟩ : ByteArray) (wrap64 ((ji3) - a0_2)) t123 _ A4.out).mono ?_
      rintro e w19 ⟨rfl, hb⟩
      refine ⟨_, rfl, ?_⟩
      have n0_ := Aside0.mk (blk_below (g := gb121) (o := .cells #[.bool a0_0, .string a0_1, .int .i64 a0_2] 23 (0, 0)) (by (with_reducible repeat (first | refine blk_drewN ?_ _ | refine blk_drew ?_ | refine blk_alloc ?_ _)); exact BK121.out) hb)
      have n1_ := Aside0.mk (blk_below (g := gb122) (o := .cells #[.bool a1_0, .string a1_1, .int .i64 a1_2] 23 (0, 0)) (by (with_reducible repeat (first | refine blk_drewN ?_ _ | refine blk_drew ?_ | refine blk_alloc ?_ _)); exact BK122.out) hb)
      have n2_ := Aside0.mk (below_step (by repeat (first | (with_reducible first | exact HB.out | apply below_alloc | apply pw_below_drewN | apply below_drew1 | refine below_set ?_ GE121.out | refine below_set ?_ GE122.out) | exact HB.out)) hb)
      clear BK121
      clear BK122
      clear HB
      have BK121 := n0_
      have BK122 := n1_
      have HB := n2_
      clear n0_ n1_ n2_
      (try clear hb)
      (try clear hb2)
      (try clear hk)
      (try clear hi)
      refine hK.out _ _ ⟨(blk_cell BK121.out 0).trans rfl, (blk_cell BK121.out 1).trans rfl, (blk_cell BK121.out 2).trans rfl, (blk_cell BK122.out 0).trans rfl, (blk_cell BK122.out 1).trans rfl, (blk_cell BK122.out 2).trans rfl⟩ (fun hHeld => ?_)
      clear hK K
      refine norm_ (a' := ?_) ?_ ?_
      rotate_left
      · show Act.put _ (some 19) _ = _
        simp only [Act.put, List.setIfInBounds_toArray, List.set_cons_zero, List.set_cons_succ, i64_w, i32_w]
        rfl
      refine pure_ (i := 7) (N := some 20) (v := ?_) (a' := ?_) #[true, true, true, true, true, true, true, true, true, true, true, true, true, true, false, false, false, false] rfl rfl (any_of HT_.out (by kernel_rfl)) (fun _ _ _ h => h) (Or.inl ⟨by rfl, ?_⟩) ?_ ?_
      rotate_left
      · intro w'
        go_simp
        with_reducible rfl
      rotate_left
      · simp only [Act.put, List.setIfInBounds_toArray, List.set_cons_zero, List.set_cons_succ, i64_w, i32_w]
        rfl
      refine one_ (i := 14) (N := some 27) #[true, true, true, true, true, true, true, true, true, true, true, true, true, true, true, false, false, false] rfl rfl (one_of HT_.out (by kernel_rfl)) (by decide) (fun K hK => ?_)
      refine goes_ Tryz.func34 (by kernel_rfl) rfl #[.string (⟨#[48]⟩ : ByteArray), .int .i64 (wrap64 ((ji3) - a1_2))] (by rfl) rfl rfl (by (try simp only [List.map_toArray, List.map_cons, List.map_nil]); first | done | (simp only [hji3]; rfl) | rfl | (simp only [List.length_drop, List.length_take]; rfl)) ?_
      with_reducible refine (strings_Repeat.calls (⟨#[48]⟩ : ByteArray) (wrap64 ((ji3) - a1_2)) t124 _ A6.out).mono ?_
      rintro e w20 ⟨rfl, hb⟩
      refine ⟨_, rfl, ?_⟩
      have n0_ := Aside0.mk (blk_below (g := gb121) (o := .cells #[.bool a0_0, .string a0_1, .int .i64 a0_2] 23 (0, 0)) (by (with_reducible repeat (first | refine blk_drewN ?_ _ | refine blk_drew ?_ | refine blk_alloc ?_ _)); exact BK121.out) hb)
      have n1_ := Aside0.mk (blk_below (g := gb122) (o := .cells #[.bool a1_0, .string a1_1, .int .i64 a1_2] 23 (0, 0)) (by (with_reducible repeat (first | refine blk_drewN ?_ _ | refine blk_drew ?_ | refine blk_alloc ?_ _)); exact BK122.out) hb)
      have n2_ := Aside0.mk (below_step (by repeat (first | (with_reducible first | exact HB.out | apply below_alloc | apply pw_below_drewN | apply below_drew1 | refine below_set ?_ GE121.out | refine below_set ?_ GE122.out) | exact HB.out)) hb)
      clear BK121
      clear BK122
      clear HB
      have BK121 := n0_
      have BK122 := n1_
      have HB := n2_
      clear n0_ n1_ n2_
      (try clear hb)
      (try clear hb2)
      (try clear hk)
      (try clear hi)
      refine hK.out _ _ ⟨(blk_cell BK121.out 0).trans rfl, (blk_cell BK121.out 1).trans rfl, (blk_cell BK121.out 2).trans rfl, (blk_cell BK122.out 0).trans rfl, (blk_cell BK122.out 1).trans rfl, (blk_cell BK122.out 2).trans rfl⟩ (fun hHeld => ?_)
      clear hK K
      refine norm_ (a' := ?_) ?_ ?_
      rotate_left
      · show Act.put _ (some 27) _ = _
        simp only [Act.put, List.setIfInBounds_toArray, List.set_cons_zero, List.set_cons_succ, i64_w, i32_w]
        rfl
      refine pure_ (i := 15) (N := some 28) (v := ?_) (a' := ?_) #[true, true, true, true, true, true, true, true, true, true, true, true, true, true, true, true, false, false] rfl rfl (any_of HT_.out (by kernel_rfl)) (fun _ _ _ h => h) (Or.inl ⟨by rfl, ?_⟩) ?_ ?_
      rotate_left
      · intro w'
        go_simp
        with_reducible rfl
      rotate_left
      · simp only [Act.put, List.setIfInBounds_toArray, List.set_cons_zero, List.set_cons_succ, i64_w, i32_w]
        rfl
      refine pure_ (i := 16) (N := some 6) (v := ?_) (a' := ?_) #[true, true, true, true, true, true, true, true, true, true, true, true, true, true, true, true, true, false] rfl rfl (any_of HT_.out (by kernel_rfl)) (fun _ _ _ h => h) (Or.inl ⟨by rfl, ?_⟩) ?_ ?_
      rotate_left
      · intro w'
        go_simp
        with_reducible rfl
      rotate_left
      · simp only [Act.put, List.setIfInBounds_toArray, List.set_cons_zero, List.set_cons_succ, i64_w, i32_w]
        rfl
      refine pure_ (i := 17) (N := some 7) (v := ?_) (a' := ?_) #[true, true, true, true, true, true, true, true, true, true, true, true, true, true, true, true, true, true] rfl rfl (any_of HT_.out (by kernel_rfl)) (fun _ _ _ h => h) (Or.inl ⟨by rfl, ?_⟩) ?_ ?_
      rotate_left
      · intro w'
        go_simp
        with_reducible rfl
      rotate_left
      · simp only [Act.put, List.setIfInBounds_toArray, List.set_cons_zero, List.set_cons_succ, i64_w, i32_w]
        rfl
      refine done_ (done_of HT_.out (by kernel_rfl)) ?_
      try go_wp2_with (first | ((with_reducible refine gate_callee (f := 48) rfl ?_); refine goesL_ (some 30) rfl rfl Tryz.func48 (by kernel_rfl) rfl #[.string (a0_1 ++ t123), .string (⟨#[48]⟩ : ByteArray)] rfl (by (try simp only [List.map_toArray, List.map_cons, List.map_nil]); first | done | rfl | (simp only [List.length_drop, List.length_take]; rfl)) ?_; (with_reducible refine (strings_TrimLeft.calls (a0_1 ++ t123) (⟨#[48]⟩ : ByteArray) t125 _ A8.out).mono ?_); rintro e w21 ⟨rfl, hb⟩; refine ⟨_, rfl, ?_⟩; have n0_ := Aside0.mk (blk_below (g := gb121) (o := .cells #[.bool a0_0, .string a0_1, .int .i64 a0_2] 23 (0, 0)) (by (with_reducible repeat (first | refine blk_drewN ?_ _ | refine blk_drew ?_ | refine blk_alloc ?_ _)); exact BK121.out) hb); have n1_ := Aside0.mk (blk_below (g := gb122) (o := .cells #[.bool a1_0, .string a1_1, .int .i64 a1_2] 23 (0, 0)) (by (with_reducible repeat (first | refine blk_drewN ?_ _ | refine blk_drew ?_ | refine blk_alloc ?_ _)); exact BK122.out) hb); have n2_ := Aside0.mk (below_step (by repeat (first | (with_reducible first | exact HB.out | apply below_alloc | apply pw_below_drewN | apply below_drew1 | refine below_set ?_ GE121.out | refine below_set ?_ GE122.out) | exact HB.out)) hb); clear BK121; clear BK122; clear HB; have BK121 := n0_; have BK122 := n1_; have HB := n2_; clear n0_ n1_ n2_; (try clear hb); (try clear hb2); (try clear hk); (try clear hi)) | ((with_reducible refine gate_callee (f := 48) rfl ?_); refine goesL_ (some 32) rfl rfl Tryz.func48 (by kernel_rfl) rfl #[.string (a1_1 ++ t124), .string (⟨#[48]⟩ : ByteArray)] rfl (by (try simp only [List.map_toArray, List.map_cons, List.map_nil]); first | done | rfl | (simp only [List.length_drop, List.length_take]; rfl)) ?_; (with_reducible refine (strings_TrimLeft.calls (a1_1 ++ t124) (⟨#[48]⟩ : ByteArray) t126 _ A9.out).mono ?_); rintro e w22 ⟨rfl, hb⟩; refine ⟨_, rfl, ?_⟩; have n0_ := Aside0.mk (blk_below (g := gb121) (o := .cells #[.bool a0_0, .string a0_1, .int .i64 a0_2] 23 (0, 0)) (by (with_reducible repeat (first | refine blk_drewN ?_ _ | refine blk_drew ?_ | refine blk_alloc ?_ _)); exact BK121.out) hb); have n1_ := Aside0.mk (blk_below (g := gb122) (o := .cells #[.bool a1_0, .string a1_1, .int .i64 a1_2] 23 (0, 0)) (by (with_reducible repeat (first | refine blk_drewN ?_ _ | refine blk_drew ?_ | refine blk_alloc ?_ _)); exact BK122.out) hb); have n2_ := Aside0.mk (below_step (by repeat (first | (with_reducible first | exact HB.out | apply below_alloc | apply pw_below_drewN | apply below_drew1 | refine below_set ?_ GE121.out | refine below_set ?_ GE122.out) | exact HB.out)) hb); clear BK121; clear BK122; clear HB; have BK121 := n0_; have BK122 := n1_; have HB := n2_; clear n0_ n1_ n2_; (try clear hb); (try clear hb2); (try clear hk); (try clear hi)) | ((with_reducible refine gate_callee (f := 50) rfl ?_); refine goesL_ (some 37) rfl rfl Tryz.func50 (by kernel_rfl) rfl #[.int .i64 (t125.size : Int), .int .i64 (t126.size : Int)] rfl (by (try simp only [List.map_toArray, List.map_cons, List.map_nil]); first | done | rfl | (simp only [List.length_drop, List.length_take]; rfl)) ?_; (with_reducible refine (cmp_Compare_int.calls (t125.size : Int) (t126.size : Int) t127 _ A10.out).mono ?_); rintro e w' ⟨rfl, ⟨nd, rfl⟩⟩; refine ⟨_, rfl, ?_⟩) | ((with_reducible refine gate_callee (f := 51) rfl ?_); refine goesL_ (some 40) rfl rfl Tryz.func51 (by kernel_rfl) rfl #[.string t125, .string t126] rfl (by (try simp only [List.map_toArray, List.map_cons, List.map_nil]); first | done | rfl | (simp only [List.length_drop, List.length_take]; rfl)) ?_; (with_reducible refine (cmp_Compare_string.calls t125 t126 t128 _ A11.out).mono ?_); rintro e w' ⟨rfl, ⟨nd, rfl⟩⟩; refine ⟨_, rfl, ?_⟩) | ((with_reducible refine gate_dst (N := 41) rfl ?_); refine Kd.R_lit (Kd.int .i64) _ 3 ?hg (N := 41) ?hd (xs := ([t127, t128] : List Int)) (inner := [.int .i64 t127, .int .i64 t128]) (ok := fun _ => True) (okp := fun _ => True) ?hr ?hp (fun _ hk => hk) trivial (Below.refl _ _) (Nat.le_refl _) (by simp) ?_; (case hd => rfl); (case hg => rfl); (case hr => first | (go_simp; done) | (go_simp; rfl)); (case hp => exact (Reps.one (show Kd.M (Kd.int .i64) _ _ _ t127 [.int .i64 t127] from rfl) (Reps.one (show Kd.M (Kd.int .i64) _ _ _ t128 [.int .i64 t128] from rfl) (Reps.none _ _)))); intro v130 w23 ho24 hb hg_ hnew_; clear hg_ hnew_; (first | rw [← Ny129.out] at ho24 | (simp only [Int.reduceToNat] at ho24; rw [← Ny129.out] at ho24)); have n0_ := Aside0.mk (Kd.R_lower ho24 (below_size (by repeat (first | (with_reducible first | exact HB.out | apply below_alloc | apply pw_below_drewN | apply below_drew1 | refine below_set ?_ GE121.out | refine below_set ?_ GE122.out) | exact HB.out)))); have n1_ := Aside0.mk (blk_below (g := gb121) (o := .cells #[.bool a0_0, .string a0_1, .int .i64 a0_2] 23 (0, 0)) (by (with_reducible repeat (first | refine blk_drewN ?_ _ | refine blk_drew ?_ | refine blk_alloc ?_ _)); exact BK121.out) hb); have n2_ := Aside0.mk (blk_below (g := gb122) (o := .cells #[.bool a1_0, .string a1_1, .int .i64 a1_2] 23 (0, 0)) (by (with_reducible repeat (first | refine blk_drewN ?_ _ | refine blk_drew ?_ | refine blk_alloc ?_ _)); exact BK122.out) hb); have n3_ := Aside0.mk (below_step (by repeat (first | (with_reducible first | exact HB.out | apply below_alloc | apply pw_below_drewN | apply below_drew1 | refine below_set ?_ GE121.out | refine below_set ?_ GE122.out) | exact HB.out)) hb); clear BK121; clear BK122; clear HB; have HO131 := n0_; have BK121 := n1_; have BK122 := n2_; have HB := n3_; clear n0_ n1_ n2_ n3_; clear hb ho24; obtain ⟨Ao25, co25, eo25⟩ := Kd.R_slice HO131.out; subst eo25) | ((with_reducible refine gate_callee (f := 49) rfl ?_); refine goesL_ (some 42) rfl rfl Tryz.func49 (by kernel_rfl) rfl #[.slice Ao25 y129.length co25] rfl (by (try simp only [List.map_toArray, List.map_cons, List.map_nil]); first | done | rfl | (simp only [List.length_drop, List.length_take]; rfl)) ?_; (with_reducible refine (cmp_Or_int.calls k _ _ y129 t132 _ ?side1 ?side2 A12.out).mono ?_); (case side1 => repeat (first | exact (Kd.R_reads' HO131.out).2.2 | (with_reducible refine Kd.C_alloc ?_ _) | (with_reducible refine Kd.C_drewN ?_ _) | (with_reducible refine Kd.C_drew ?_))); (case side2 => exact (Kd.R_reads' HO131.out).2.1); rintro e w' ⟨rfl, ⟨nd, rfl⟩⟩; refine ⟨_, rfl, ?_⟩))
      go_ret
      exact ⟨by first | rfl | (simp [errW_none, errW_some] <;> rfl) | (simp only [← hji3]; first | rfl | (simp [errW_none, errW_some] <;> rfl)) | (simp [*, errW_none, errW_some] <;> rfl), by repeat (first | (with_reducible first | exact HB.out | apply below_alloc | apply pw_below_drewN | apply below_drew1 | refine below_set ?_ GE121.out | refine below_set ?_ GE122.out) | exact HB.out)⟩
    · rw [if_neg c7] at H
      exact absurd H (by simp)
  · rw [if_neg c5] at H
    exact absurd H (by simp)
end Go.Proofs.YtgjboghnnhcgiaaGreatDoor.R
