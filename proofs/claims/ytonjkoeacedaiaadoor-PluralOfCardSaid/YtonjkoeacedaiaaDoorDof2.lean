/- The walk of plural.Of. (Printed by gen_dof2.py.) -/
import Derived.Test.YtonjkoeacedaiaaDoorDof
import Derived.Lib.LaidTab
import Derived.Laws.EntriesVeiled
namespace Go.Proofs.YtonjkoeacedaiaaDoor
open Go.RowKit
set_option linter.unusedVariables false
set_option linter.unusedSimpArgs false
attribute [local go_sem ↓] Go.wp_at_zero Go.wp_at_succ

theorem heldOf {w W W1 : World} {B : Nat} {a0 a1 a2 a3 : Addr} {v0 v1 v2 v3 : Value} (b : Below B W W1) (hB : W.heap.size ≤ B) (h : W.cell? a0 = some v0 ∧ W.cell? a1 = some v1 ∧ W.cell? a2 = some v2 ∧ W.cell? a3 = some v3 ∧ Below w.heap.size w W) :
    W1.cell? a0 = some v0 ∧ W1.cell? a1 = some v1 ∧ W1.cell? a2 = some v2 ∧ W1.cell? a3 = some v3 ∧ Below w.heap.size w W1 :=
  ⟨below_cellOf b hB h.1, below_cellOf b hB h.2.1, below_cellOf b hB h.2.2.1, below_cellOf b hB h.2.2.2.1, below_step h.2.2.2.2 b (Nat.le_trans h.2.2.2.2.size hB)⟩
def heldS (w : World) (n : Bool) (d : ByteArray) (k : Nat) (a : Addr) (v : Value) (w' : World) : Prop := w'.cell? ⟨w.heap.size, 0, none⟩ = some (.bool n) ∧ w'.cell? ⟨w.heap.size, 1, none⟩ = some (.string d) ∧ w'.cell? ⟨w.heap.size, 2, none⟩ = some (.int .i64 k) ∧ w'.cell? a = some v ∧ Below w.heap.size w w'
theorem cell_al {W : World} {a : Addr} {v : Value} (h : W.cell? a = some v) (o : Obj) : (W.alloc o).cell? a = some v := below_cellOf ((Below.refl W.heap.size W).alloc (Nat.le_refl _) o) (Nat.le_refl _) h
theorem cell_dr {W : World} {a : Addr} {v : Value} (h : W.cell? a = some v) : W.drew.cell? a = some v := by simpa using h
theorem ascTab {w W : World} (h : Lib.TabIs Tryd.prog w "strings.asciiSpace" .u8 Lib.asciiSpaceTab) (b : Below w.heap.size w W) : Lib.TabIs Tryd.prog W "strings.asciiSpace" .u8 Lib.asciiSpaceTab := by
  have hg : Tryd.prog.globalNamed "strings.asciiSpace" = some 0 := by kernel_rfl
  unfold Lib.TabIs World.var? at h ⊢
  rw [hg, Option.bind_some] at h ⊢
  by_cases hlt : 0 < w.heap.size
  · rw [b.block _ hlt]; exact h
  · rw [Array.getElem?_eq_none (by omega)] at h; cases h

set_option maxRecDepth 100000 in
set_option maxHeartbeats 4000000 in
theorem of_lang_any (lang : ByteArray) (n : Bool) (d : ByteArray) (k : Nat) (L : List UInt8) (b : Bool) (hDg : Dg L) (w : World) (hT : Lib.TabIs Tryd.prog w "strings.asciiSpace" .u8 Lib.asciiSpaceTab)
    (cO : ∀ W, Calls Tryd.prog 54 #[decV n d k] W fun e w' => e = .returned (numV L k b) ∧ Below W.heap.size W w') :
    Calls Tryd.prog 19 #[.string lang, decV n d k] w fun e w' => e = .returned (.int .i64 (pick lang (table L k b))) ∧ Below w.heap.size w w' := by
  have cR := fun w => rules_any w
  obtain ⟨RES, hRES⟩ : ∃ R, pick lang (table L k b) = R := ⟨_, rfl⟩
  rw [hRES]
  have cL0 := fun W => en_any L k b W hDg
  have cL1 := fun W => fr_any L k b W hDg
  have cL2 := fun W => es_any L k b W hDg
  have cL3 := fun W => polish_any L k b W hDg
  have cL4 := fun W => russian_any L k b W hDg
  have cL5 := fun W => czech_any L k b W hDg
  have cL6 := fun W => arabic_any L k b W hDg
  unfold decV at *
  have bA := ((Below.refl w.heap.size w).alloc (Nat.le_refl _) (.cells #[.bool n, .string d, .int .i64 k] 23)).alloc (by simp) (.cells rulesCells 86)
  have hb0 : ((w.alloc (.cells #[.bool n, .string d, .int .i64 k] 23)).alloc (.cells rulesCells 86)).heap[w.heap.size]? = some (.cells #[.bool n, .string d, .int .i64 k] 23) := by
    rw [Below.heap_alloc _ _ _ (by simp)]; exact heap_alloc_new w _
  have hb1 : ((w.alloc (.cells #[.bool n, .string d, .int .i64 k] 23)).alloc (.cells rulesCells 86)).heap[w.heap.size + 1]? = some (.cells rulesCells 86) := by
    have := heap_alloc_new (w.alloc (.cells #[.bool n, .string d, .int .i64 k] 23)) (.cells rulesCells 86)
    rw [show (w.alloc (.cells #[.bool n, .string d, .int .i64 k] 23)).heap.size = w.heap.size + 1 by simp] at this
    exact this
  go_enter Tryd.func19, Tryd.ntmps19
  go_wp2_with (go_at_call 51; refine (cR _).mono ?_; rintro e W1 ⟨rfl, rfl⟩)
  go_loopg [9] 7 (fun gk si wx => ∃ i : Nat, si = .int .i64 i ∧ i ≤ 7 ∧ Below w.heap.size w wx ∧ wx.heap[w.heap.size]? = some (.cells #[.bool n, .string d, .int .i64 k] 23) ∧ wx.heap[w.heap.size + 1]? = some (.cells rulesCells 86) ∧ pick lang ((table L k b).drop i) = RES ∧ 7 ≤ i + gk)
  case atStart => exact ⟨0, rfl, by omega, bA, hb0, hb1, hRES, by omega⟩
  case round =>
    obtain ⟨i, rfl, hi, hbw, hB0, hB1, hp, hfu⟩ := hrel
    clear bA hb0 hb1 hRES
    have d0 := (Lib.cell_of_heap hB0 0).trans (by rfl : _ = some (.bool n))
    have d1 := (Lib.cell_of_heap hB0 1).trans (by rfl : _ = some (.string d))
    have d2 := (Lib.cell_of_heap hB0 2).trans (by rfl : _ = some (.int .i64 (k : Int)))
    have hsz := hbw.size
    have hs1 : w.heap.size + 1 < wr.heap.size := (Array.getElem?_eq_some_iff.1 hB1).1
    rcases (show i = 7 ∨ i = 0 ∨ i = 1 ∨ i = 2 ∨ i = 3 ∨ i = 4 ∨ i = 5 ∨ i = 6 by omega) with rfl | rfl | rfl | rfl | rfl | rfl | rfl | rfl
    · have HP : Hid (0 = RES) := Lib.hid hp
      clear hp
      go_wp2
      go_ret
      exact ⟨by rw [← HP.out]; rfl, hbw⟩
    · obtain ⟨f, rfl⟩ : ∃ f, gk = f + 1 := ⟨gk - 1, by omega⟩
      have r0 := (Lib.cell_of_heap hB1 0).trans (by rfl : _ = some (.string ⟨#[101, 110, 32, 100, 101, 32, 110, 108, 32, 115, 118]⟩))
      have r1 := (Lib.cell_of_heap hB1 1).trans (by rfl : _ = some (.func (.func 78) #[] #[]))
      have cF := fun W (h : Below w.heap.size w W) => fields_c ⟨#[101, 110, 32, 100, 101, 32, 110, 108, 32, 115, 118]⟩ W (by decide) (by decide) (ascTab hT h)
      obtain ⟨F, hF⟩ : ∃ F, Lib.fields (⟨#[101, 110, 32, 100, 101, 32, 110, 108, 32, 115, 118]⟩ : ByteArray).data.toList = F := ⟨_, rfl⟩
      have hFl : 0 < F.length ∧ F.length < 1000 := by rw [← hF]; decide +kernel
      have cC := contains_h F lang (wr.alloc (.cells #[.string ⟨#[101, 110, 32, 100, 101, 32, 110, 108, 32, 115, 118]⟩, .func (.func 78) #[] #[]] 86)) (wr.heap.size + 1) (by simp) hFl.1 hFl.2
      rw [hF] at cF
      have hp' : (if Lib.containsS (F.map mkB) lang then enC L k else pick lang ((table L k b).drop 1)) = RES := by rw [← hF]; exact hp
      obtain ⟨B, hB⟩ : ∃ B, Lib.containsS (F.map mkB) lang = B := ⟨_, rfl⟩
      rw [hB] at cC hp'
      clear hp hF hFl hB
      have bA := hbw.alloc hsz (.cells #[.string ⟨#[101, 110, 32, 100, 101, 32, 110, 108, 32, 115, 118]⟩, .func (.func 78) #[] #[]] 86)
      have bB := bA.alloc (bA.size) (.cells (F.map fun l => Value.string ⟨l.toArray⟩).toArray 9)
      cases B with
      | false =>
        have HP : Hid (pick lang ((table L k b).drop 1) = RES) := Lib.hid hp'
        clear hp'
        have q0 : ((wr.alloc (.cells #[.string ⟨#[101, 110, 32, 100, 101, 32, 110, 108, 32, 115, 118]⟩, .func (.func 78) #[] #[]] 86)).alloc (.cells (F.map fun l => Value.string ⟨l.toArray⟩).toArray 9)).heap[w.heap.size]? = some (.cells #[.bool n, .string d, .int .i64 k] 23) := by rw [Below.heap_alloc _ _ _ (by simp; omega), Below.heap_alloc _ _ _ (by omega)]; exact hB0
        have q1 : ((wr.alloc (.cells #[.string ⟨#[101, 110, 32, 100, 101, 32, 110, 108, 32, 115, 118]⟩, .func (.func 78) #[] #[]] 86)).alloc (.cells (F.map fun l => Value.string ⟨l.toArray⟩).toArray 9)).heap[w.heap.size + 1]? = some (.cells rulesCells 86) := by rw [Below.heap_alloc _ _ _ (by simp; omega), Below.heap_alloc _ _ _ (by omega)]; exact hB1
        go_wp2_with (first
          | (go_at_call 53; (with_reducible refine (cF _ bA).mono ?_); rintro e W1 ⟨rfl, rfl⟩)
          | (go_at_call 52; (with_reducible refine cC.mono ?_); rintro e W1 ⟨rfl, rfl⟩))
        go_roundg f
        case measure => omega
        case rel => exact ⟨1, rfl, by omega, bB, q0, q1, HP.out, by omega⟩
      | true =>
        have HP : Hid (enC L k = RES) := Lib.hid hp'
        clear hp'
        have hS0 : heldS w n d k ⟨wr.heap.size, 1, none⟩ (.func (.func 78) #[] #[]) ((wr.alloc (.cells #[.string ⟨#[101, 110, 32, 100, 101, 32, 110, 108, 32, 115, 118]⟩, .func (.func 78) #[] #[]] 86)).alloc (.cells (F.map fun l => Value.string ⟨l.toArray⟩).toArray 9)).drew := by
          exact ⟨cell_dr (cell_al (cell_al d0 _) _), cell_dr (cell_al (cell_al d1 _) _), cell_dr (cell_al (cell_al d2 _) _), cell_dr (cell_al ((Lib.cell_of_heap (heap_alloc_new wr _) 1).trans (by rfl)) _), bB.drew⟩
        go_wp2_with (first
          | (go_at_call 53; (with_reducible refine (cF _ bA).mono ?_); rintro e W1 ⟨rfl, rfl⟩)
          | (go_at_call 52; (with_reducible refine cC.mono ?_); rintro e W1 ⟨rfl, rfl⟩))
        go_region_held3 (fun w' => w'.cell? ⟨w.heap.size, 0, none⟩ = some (.bool n) ∧ w'.cell? ⟨w.heap.size, 1, none⟩ = some (.string d) ∧ w'.cell? ⟨w.heap.size, 2, none⟩ = some (.int .i64 k) ∧ w'.cell? ⟨wr.heap.size, 1, none⟩ = some (.func (.func 78) #[] #[]) ∧ Below w.heap.size w w')
          (first | exact h10 | exact hS0)
          (first
            | (go_at_call 54; (with_reducible refine (cO _).mono ?_); rintro e W1 ⟨rfl, b1⟩; have h10 := heldOf b1 (Nat.le_refl _) (by assumption))
            | (go_at_call 78; (with_reducible refine (cL0 _).mono ?_); rintro e W1 ⟨rfl, b1⟩; have h10 := heldOf b1 (Nat.le_refl _) (by assumption)))
        go_wp2
        go_ret
        exact ⟨ret_int HP.out, h10.2.2.2.2⟩
    · obtain ⟨f, rfl⟩ : ∃ f, gk = f + 1 := ⟨gk - 1, by omega⟩
      have r0 := (Lib.cell_of_heap hB1 2).trans (by rfl : _ = some (.string ⟨#[102, 114]⟩))
      have r1 := (Lib.cell_of_heap hB1 3).trans (by rfl : _ = some (.func (.func 79) #[] #[]))
      have cF := fun W (h : Below w.heap.size w W) => fields_c ⟨#[102, 114]⟩ W (by decide) (by decide) (ascTab hT h)
      obtain ⟨F, hF⟩ : ∃ F, Lib.fields (⟨#[102, 114]⟩ : ByteArray).data.toList = F := ⟨_, rfl⟩
      have hFl : 0 < F.length ∧ F.length < 1000 := by rw [← hF]; decide +kernel
      have cC := contains_h F lang (wr.alloc (.cells #[.string ⟨#[102, 114]⟩, .func (.func 79) #[] #[]] 86)) (wr.heap.size + 1) (by simp) hFl.1 hFl.2
      rw [hF] at cF
      have hp' : (if Lib.containsS (F.map mkB) lang then frC L else pick lang ((table L k b).drop 2)) = RES := by rw [← hF]; exact hp
      obtain ⟨B, hB⟩ : ∃ B, Lib.containsS (F.map mkB) lang = B := ⟨_, rfl⟩
      rw [hB] at cC hp'
      clear hp hF hFl hB
      have bA := hbw.alloc hsz (.cells #[.string ⟨#[102, 114]⟩, .func (.func 79) #[] #[]] 86)
      have bB := bA.alloc (bA.size) (.cells (F.map fun l => Value.string ⟨l.toArray⟩).toArray 9)
      cases B with
      | false =>
        have HP : Hid (pick lang ((table L k b).drop 2) = RES) := Lib.hid hp'
        clear hp'
        have q0 : ((wr.alloc (.cells #[.string ⟨#[102, 114]⟩, .func (.func 79) #[] #[]] 86)).alloc (.cells (F.map fun l => Value.string ⟨l.toArray⟩).toArray 9)).heap[w.heap.size]? = some (.cells #[.bool n, .string d, .int .i64 k] 23) := by rw [Below.heap_alloc _ _ _ (by simp; omega), Below.heap_alloc _ _ _ (by omega)]; exact hB0
        have q1 : ((wr.alloc (.cells #[.string ⟨#[102, 114]⟩, .func (.func 79) #[] #[]] 86)).alloc (.cells (F.map fun l => Value.string ⟨l.toArray⟩).toArray 9)).heap[w.heap.size + 1]? = some (.cells rulesCells 86) := by rw [Below.heap_alloc _ _ _ (by simp; omega), Below.heap_alloc _ _ _ (by omega)]; exact hB1
        go_wp2_with (first
          | (go_at_call 53; (with_reducible refine (cF _ bA).mono ?_); rintro e W1 ⟨rfl, rfl⟩)
          | (go_at_call 52; (with_reducible refine cC.mono ?_); rintro e W1 ⟨rfl, rfl⟩))
        go_roundg f
        case measure => omega
        case rel => exact ⟨2, rfl, by omega, bB, q0, q1, HP.out, by omega⟩
      | true =>
        have HP : Hid (frC L = RES) := Lib.hid hp'
        clear hp'
        have hS0 : heldS w n d k ⟨wr.heap.size, 1, none⟩ (.func (.func 79) #[] #[]) ((wr.alloc (.cells #[.string ⟨#[102, 114]⟩, .func (.func 79) #[] #[]] 86)).alloc (.cells (F.map fun l => Value.string ⟨l.toArray⟩).toArray 9)).drew := by
          exact ⟨cell_dr (cell_al (cell_al d0 _) _), cell_dr (cell_al (cell_al d1 _) _), cell_dr (cell_al (cell_al d2 _) _), cell_dr (cell_al ((Lib.cell_of_heap (heap_alloc_new wr _) 1).trans (by rfl)) _), bB.drew⟩
        go_wp2_with (first
          | (go_at_call 53; (with_reducible refine (cF _ bA).mono ?_); rintro e W1 ⟨rfl, rfl⟩)
          | (go_at_call 52; (with_reducible refine cC.mono ?_); rintro e W1 ⟨rfl, rfl⟩))
        go_region_held3 (fun w' => w'.cell? ⟨w.heap.size, 0, none⟩ = some (.bool n) ∧ w'.cell? ⟨w.heap.size, 1, none⟩ = some (.string d) ∧ w'.cell? ⟨w.heap.size, 2, none⟩ = some (.int .i64 k) ∧ w'.cell? ⟨wr.heap.size, 1, none⟩ = some (.func (.func 79) #[] #[]) ∧ Below w.heap.size w w')
          (first | exact h10 | exact hS0)
          (first
            | (go_at_call 54; (with_reducible refine (cO _).mono ?_); rintro e W1 ⟨rfl, b1⟩; have h10 := heldOf b1 (Nat.le_refl _) (by assumption))
            | (go_at_call 79; (with_reducible refine (cL1 _).mono ?_); rintro e W1 ⟨rfl, b1⟩; have h10 := heldOf b1 (Nat.le_refl _) (by assumption)))
        go_wp2
        go_ret
        exact ⟨ret_int HP.out, h10.2.2.2.2⟩
    · obtain ⟨f, rfl⟩ : ∃ f, gk = f + 1 := ⟨gk - 1, by omega⟩
      have r0 := (Lib.cell_of_heap hB1 4).trans (by rfl : _ = some (.string ⟨#[101, 115]⟩))
      have r1 := (Lib.cell_of_heap hB1 5).trans (by rfl : _ = some (.func (.func 80) #[] #[]))
      have cF := fun W (h : Below w.heap.size w W) => fields_c ⟨#[101, 115]⟩ W (by decide) (by decide) (ascTab hT h)
      obtain ⟨F, hF⟩ : ∃ F, Lib.fields (⟨#[101, 115]⟩ : ByteArray).data.toList = F := ⟨_, rfl⟩
      have hFl : 0 < F.length ∧ F.length < 1000 := by rw [← hF]; decide +kernel
      have cC := contains_h F lang (wr.alloc (.cells #[.string ⟨#[101, 115]⟩, .func (.func 80) #[] #[]] 86)) (wr.heap.size + 1) (by simp) hFl.1 hFl.2
      rw [hF] at cF
      have hp' : (if Lib.containsS (F.map mkB) lang then esC L b else pick lang ((table L k b).drop 3)) = RES := by rw [← hF]; exact hp
      obtain ⟨B, hB⟩ : ∃ B, Lib.containsS (F.map mkB) lang = B := ⟨_, rfl⟩
      rw [hB] at cC hp'
      clear hp hF hFl hB
      have bA := hbw.alloc hsz (.cells #[.string ⟨#[101, 115]⟩, .func (.func 80) #[] #[]] 86)
      have bB := bA.alloc (bA.size) (.cells (F.map fun l => Value.string ⟨l.toArray⟩).toArray 9)
      cases B with
      | false =>
        have HP : Hid (pick lang ((table L k b).drop 3) = RES) := Lib.hid hp'
        clear hp'
        have q0 : ((wr.alloc (.cells #[.string ⟨#[101, 115]⟩, .func (.func 80) #[] #[]] 86)).alloc (.cells (F.map fun l => Value.string ⟨l.toArray⟩).toArray 9)).heap[w.heap.size]? = some (.cells #[.bool n, .string d, .int .i64 k] 23) := by rw [Below.heap_alloc _ _ _ (by simp; omega), Below.heap_alloc _ _ _ (by omega)]; exact hB0
        have q1 : ((wr.alloc (.cells #[.string ⟨#[101, 115]⟩, .func (.func 80) #[] #[]] 86)).alloc (.cells (F.map fun l => Value.string ⟨l.toArray⟩).toArray 9)).heap[w.heap.size + 1]? = some (.cells rulesCells 86) := by rw [Below.heap_alloc _ _ _ (by simp; omega), Below.heap_alloc _ _ _ (by omega)]; exact hB1
        go_wp2_with (first
          | (go_at_call 53; (with_reducible refine (cF _ bA).mono ?_); rintro e W1 ⟨rfl, rfl⟩)
          | (go_at_call 52; (with_reducible refine cC.mono ?_); rintro e W1 ⟨rfl, rfl⟩))
        go_roundg f
        case measure => omega
        case rel => exact ⟨3, rfl, by omega, bB, q0, q1, HP.out, by omega⟩
      | true =>
        have HP : Hid (esC L b = RES) := Lib.hid hp'
        clear hp'
        have hS0 : heldS w n d k ⟨wr.heap.size, 1, none⟩ (.func (.func 80) #[] #[]) ((wr.alloc (.cells #[.string ⟨#[101, 115]⟩, .func (.func 80) #[] #[]] 86)).alloc (.cells (F.map fun l => Value.string ⟨l.toArray⟩).toArray 9)).drew := by
          exact ⟨cell_dr (cell_al (cell_al d0 _) _), cell_dr (cell_al (cell_al d1 _) _), cell_dr (cell_al (cell_al d2 _) _), cell_dr (cell_al ((Lib.cell_of_heap (heap_alloc_new wr _) 1).trans (by rfl)) _), bB.drew⟩
        go_wp2_with (first
          | (go_at_call 53; (with_reducible refine (cF _ bA).mono ?_); rintro e W1 ⟨rfl, rfl⟩)
          | (go_at_call 52; (with_reducible refine cC.mono ?_); rintro e W1 ⟨rfl, rfl⟩))
        go_region_held3 (fun w' => w'.cell? ⟨w.heap.size, 0, none⟩ = some (.bool n) ∧ w'.cell? ⟨w.heap.size, 1, none⟩ = some (.string d) ∧ w'.cell? ⟨w.heap.size, 2, none⟩ = some (.int .i64 k) ∧ w'.cell? ⟨wr.heap.size, 1, none⟩ = some (.func (.func 80) #[] #[]) ∧ Below w.heap.size w w')
          (first | exact h10 | exact hS0)
          (first
            | (go_at_call 54; (with_reducible refine (cO _).mono ?_); rintro e W1 ⟨rfl, b1⟩; have h10 := heldOf b1 (Nat.le_refl _) (by assumption))
            | (go_at_call 80; (with_reducible refine (cL2 _).mono ?_); rintro e W1 ⟨rfl, b1⟩; have h10 := heldOf b1 (Nat.le_refl _) (by assumption)))
        go_wp2
        go_ret
        exact ⟨ret_int HP.out, h10.2.2.2.2⟩
    · obtain ⟨f, rfl⟩ : ∃ f, gk = f + 1 := ⟨gk - 1, by omega⟩
      have r0 := (Lib.cell_of_heap hB1 6).trans (by rfl : _ = some (.string ⟨#[112, 108]⟩))
      have r1 := (Lib.cell_of_heap hB1 7).trans (by rfl : _ = some (.func (.func 81) #[] #[]))
      have cF := fun W (h : Below w.heap.size w W) => fields_c ⟨#[112, 108]⟩ W (by decide) (by decide) (ascTab hT h)
      obtain ⟨F, hF⟩ : ∃ F, Lib.fields (⟨#[112, 108]⟩ : ByteArray).data.toList = F := ⟨_, rfl⟩
      have hFl : 0 < F.length ∧ F.length < 1000 := by rw [← hF]; decide +kernel
      have cC := contains_h F lang (wr.alloc (.cells #[.string ⟨#[112, 108]⟩, .func (.func 81) #[] #[]] 86)) (wr.heap.size + 1) (by simp) hFl.1 hFl.2
      rw [hF] at cF
      have hp' : (if Lib.containsS (F.map mkB) lang then polC L k else pick lang ((table L k b).drop 4)) = RES := by rw [← hF]; exact hp
      obtain ⟨B, hB⟩ : ∃ B, Lib.containsS (F.map mkB) lang = B := ⟨_, rfl⟩
      rw [hB] at cC hp'
      clear hp hF hFl hB
      have bA := hbw.alloc hsz (.cells #[.string ⟨#[112, 108]⟩, .func (.func 81) #[] #[]] 86)
      have bB := bA.alloc (bA.size) (.cells (F.map fun l => Value.string ⟨l.toArray⟩).toArray 9)
      cases B with
      | false =>
        have HP : Hid (pick lang ((table L k b).drop 4) = RES) := Lib.hid hp'
        clear hp'
        have q0 : ((wr.alloc (.cells #[.string ⟨#[112, 108]⟩, .func (.func 81) #[] #[]] 86)).alloc (.cells (F.map fun l => Value.string ⟨l.toArray⟩).toArray 9)).heap[w.heap.size]? = some (.cells #[.bool n, .string d, .int .i64 k] 23) := by rw [Below.heap_alloc _ _ _ (by simp; omega), Below.heap_alloc _ _ _ (by omega)]; exact hB0
        have q1 : ((wr.alloc (.cells #[.string ⟨#[112, 108]⟩, .func (.func 81) #[] #[]] 86)).alloc (.cells (F.map fun l => Value.string ⟨l.toArray⟩).toArray 9)).heap[w.heap.size + 1]? = some (.cells rulesCells 86) := by rw [Below.heap_alloc _ _ _ (by simp; omega), Below.heap_alloc _ _ _ (by omega)]; exact hB1
        go_wp2_with (first
          | (go_at_call 53; (with_reducible refine (cF _ bA).mono ?_); rintro e W1 ⟨rfl, rfl⟩)
          | (go_at_call 52; (with_reducible refine cC.mono ?_); rintro e W1 ⟨rfl, rfl⟩))
        go_roundg f
        case measure => omega
        case rel => exact ⟨4, rfl, by omega, bB, q0, q1, HP.out, by omega⟩
      | true =>
        have HP : Hid (polC L k = RES) := Lib.hid hp'
        clear hp'
        have hS0 : heldS w n d k ⟨wr.heap.size, 1, none⟩ (.func (.func 81) #[] #[]) ((wr.alloc (.cells #[.string ⟨#[112, 108]⟩, .func (.func 81) #[] #[]] 86)).alloc (.cells (F.map fun l => Value.string ⟨l.toArray⟩).toArray 9)).drew := by
          exact ⟨cell_dr (cell_al (cell_al d0 _) _), cell_dr (cell_al (cell_al d1 _) _), cell_dr (cell_al (cell_al d2 _) _), cell_dr (cell_al ((Lib.cell_of_heap (heap_alloc_new wr _) 1).trans (by rfl)) _), bB.drew⟩
        go_wp2_with (first
          | (go_at_call 53; (with_reducible refine (cF _ bA).mono ?_); rintro e W1 ⟨rfl, rfl⟩)
          | (go_at_call 52; (with_reducible refine cC.mono ?_); rintro e W1 ⟨rfl, rfl⟩))
        go_region_held3 (fun w' => w'.cell? ⟨w.heap.size, 0, none⟩ = some (.bool n) ∧ w'.cell? ⟨w.heap.size, 1, none⟩ = some (.string d) ∧ w'.cell? ⟨w.heap.size, 2, none⟩ = some (.int .i64 k) ∧ w'.cell? ⟨wr.heap.size, 1, none⟩ = some (.func (.func 81) #[] #[]) ∧ Below w.heap.size w w')
          (first | exact h10 | exact hS0)
          (first
            | (go_at_call 54; (with_reducible refine (cO _).mono ?_); rintro e W1 ⟨rfl, b1⟩; have h10 := heldOf b1 (Nat.le_refl _) (by assumption))
            | (go_at_call 81; (with_reducible refine (cL3 _).mono ?_); rintro e W1 ⟨rfl, b1⟩; have h10 := heldOf b1 (Nat.le_refl _) (by assumption)))
        go_wp2
        go_ret
        exact ⟨ret_int HP.out, h10.2.2.2.2⟩
    · obtain ⟨f, rfl⟩ : ∃ f, gk = f + 1 := ⟨gk - 1, by omega⟩
      have r0 := (Lib.cell_of_heap hB1 8).trans (by rfl : _ = some (.string ⟨#[114, 117]⟩))
      have r1 := (Lib.cell_of_heap hB1 9).trans (by rfl : _ = some (.func (.func 82) #[] #[]))
      have cF := fun W (h : Below w.heap.size w W) => fields_c ⟨#[114, 117]⟩ W (by decide) (by decide) (ascTab hT h)
      obtain ⟨F, hF⟩ : ∃ F, Lib.fields (⟨#[114, 117]⟩ : ByteArray).data.toList = F := ⟨_, rfl⟩
      have hFl : 0 < F.length ∧ F.length < 1000 := by rw [← hF]; decide +kernel
      have cC := contains_h F lang (wr.alloc (.cells #[.string ⟨#[114, 117]⟩, .func (.func 82) #[] #[]] 86)) (wr.heap.size + 1) (by simp) hFl.1 hFl.2
      rw [hF] at cF
      have hp' : (if Lib.containsS (F.map mkB) lang then rusC L k else pick lang ((table L k b).drop 5)) = RES := by rw [← hF]; exact hp
      obtain ⟨B, hB⟩ : ∃ B, Lib.containsS (F.map mkB) lang = B := ⟨_, rfl⟩
      rw [hB] at cC hp'
      clear hp hF hFl hB
      have bA := hbw.alloc hsz (.cells #[.string ⟨#[114, 117]⟩, .func (.func 82) #[] #[]] 86)
      have bB := bA.alloc (bA.size) (.cells (F.map fun l => Value.string ⟨l.toArray⟩).toArray 9)
      cases B with
      | false =>
        have HP : Hid (pick lang ((table L k b).drop 5) = RES) := Lib.hid hp'
        clear hp'
        have q0 : ((wr.alloc (.cells #[.string ⟨#[114, 117]⟩, .func (.func 82) #[] #[]] 86)).alloc (.cells (F.map fun l => Value.string ⟨l.toArray⟩).toArray 9)).heap[w.heap.size]? = some (.cells #[.bool n, .string d, .int .i64 k] 23) := by rw [Below.heap_alloc _ _ _ (by simp; omega), Below.heap_alloc _ _ _ (by omega)]; exact hB0
        have q1 : ((wr.alloc (.cells #[.string ⟨#[114, 117]⟩, .func (.func 82) #[] #[]] 86)).alloc (.cells (F.map fun l => Value.string ⟨l.toArray⟩).toArray 9)).heap[w.heap.size + 1]? = some (.cells rulesCells 86) := by rw [Below.heap_alloc _ _ _ (by simp; omega), Below.heap_alloc _ _ _ (by omega)]; exact hB1
        go_wp2_with (first
          | (go_at_call 53; (with_reducible refine (cF _ bA).mono ?_); rintro e W1 ⟨rfl, rfl⟩)
          | (go_at_call 52; (with_reducible refine cC.mono ?_); rintro e W1 ⟨rfl, rfl⟩))
        go_roundg f
        case measure => omega
        case rel => exact ⟨5, rfl, by omega, bB, q0, q1, HP.out, by omega⟩
      | true =>
        have HP : Hid (rusC L k = RES) := Lib.hid hp'
        clear hp'
        have hS0 : heldS w n d k ⟨wr.heap.size, 1, none⟩ (.func (.func 82) #[] #[]) ((wr.alloc (.cells #[.string ⟨#[114, 117]⟩, .func (.func 82) #[] #[]] 86)).alloc (.cells (F.map fun l => Value.string ⟨l.toArray⟩).toArray 9)).drew := by
          exact ⟨cell_dr (cell_al (cell_al d0 _) _), cell_dr (cell_al (cell_al d1 _) _), cell_dr (cell_al (cell_al d2 _) _), cell_dr (cell_al ((Lib.cell_of_heap (heap_alloc_new wr _) 1).trans (by rfl)) _), bB.drew⟩
        go_wp2_with (first
          | (go_at_call 53; (with_reducible refine (cF _ bA).mono ?_); rintro e W1 ⟨rfl, rfl⟩)
          | (go_at_call 52; (with_reducible refine cC.mono ?_); rintro e W1 ⟨rfl, rfl⟩))
        go_region_held3 (fun w' => w'.cell? ⟨w.heap.size, 0, none⟩ = some (.bool n) ∧ w'.cell? ⟨w.heap.size, 1, none⟩ = some (.string d) ∧ w'.cell? ⟨w.heap.size, 2, none⟩ = some (.int .i64 k) ∧ w'.cell? ⟨wr.heap.size, 1, none⟩ = some (.func (.func 82) #[] #[]) ∧ Below w.heap.size w w')
          (first | exact h10 | exact hS0)
          (first
            | (go_at_call 54; (with_reducible refine (cO _).mono ?_); rintro e W1 ⟨rfl, b1⟩; have h10 := heldOf b1 (Nat.le_refl _) (by assumption))
            | (go_at_call 82; (with_reducible refine (cL4 _).mono ?_); rintro e W1 ⟨rfl, b1⟩; have h10 := heldOf b1 (Nat.le_refl _) (by assumption)))
        go_wp2
        go_ret
        exact ⟨ret_int HP.out, h10.2.2.2.2⟩
    · obtain ⟨f, rfl⟩ : ∃ f, gk = f + 1 := ⟨gk - 1, by omega⟩
      have r0 := (Lib.cell_of_heap hB1 10).trans (by rfl : _ = some (.string ⟨#[99, 115]⟩))
      have r1 := (Lib.cell_of_heap hB1 11).trans (by rfl : _ = some (.func (.func 83) #[] #[]))
      have cF := fun W (h : Below w.heap.size w W) => fields_c ⟨#[99, 115]⟩ W (by decide) (by decide) (ascTab hT h)
      obtain ⟨F, hF⟩ : ∃ F, Lib.fields (⟨#[99, 115]⟩ : ByteArray).data.toList = F := ⟨_, rfl⟩
      have hFl : 0 < F.length ∧ F.length < 1000 := by rw [← hF]; decide +kernel
      have cC := contains_h F lang (wr.alloc (.cells #[.string ⟨#[99, 115]⟩, .func (.func 83) #[] #[]] 86)) (wr.heap.size + 1) (by simp) hFl.1 hFl.2
      rw [hF] at cF
      have hp' : (if Lib.containsS (F.map mkB) lang then czeC L k else pick lang ((table L k b).drop 6)) = RES := by rw [← hF]; exact hp
      obtain ⟨B, hB⟩ : ∃ B, Lib.containsS (F.map mkB) lang = B := ⟨_, rfl⟩
      rw [hB] at cC hp'
      clear hp hF hFl hB
      have bA := hbw.alloc hsz (.cells #[.string ⟨#[99, 115]⟩, .func (.func 83) #[] #[]] 86)
      have bB := bA.alloc (bA.size) (.cells (F.map fun l => Value.string ⟨l.toArray⟩).toArray 9)
      cases B with
      | false =>
        have HP : Hid (pick lang ((table L k b).drop 6) = RES) := Lib.hid hp'
        clear hp'
        have q0 : ((wr.alloc (.cells #[.string ⟨#[99, 115]⟩, .func (.func 83) #[] #[]] 86)).alloc (.cells (F.map fun l => Value.string ⟨l.toArray⟩).toArray 9)).heap[w.heap.size]? = some (.cells #[.bool n, .string d, .int .i64 k] 23) := by rw [Below.heap_alloc _ _ _ (by simp; omega), Below.heap_alloc _ _ _ (by omega)]; exact hB0
        have q1 : ((wr.alloc (.cells #[.string ⟨#[99, 115]⟩, .func (.func 83) #[] #[]] 86)).alloc (.cells (F.map fun l => Value.string ⟨l.toArray⟩).toArray 9)).heap[w.heap.size + 1]? = some (.cells rulesCells 86) := by rw [Below.heap_alloc _ _ _ (by simp; omega), Below.heap_alloc _ _ _ (by omega)]; exact hB1
        go_wp2_with (first
          | (go_at_call 53; (with_reducible refine (cF _ bA).mono ?_); rintro e W1 ⟨rfl, rfl⟩)
          | (go_at_call 52; (with_reducible refine cC.mono ?_); rintro e W1 ⟨rfl, rfl⟩))
        go_roundg f
        case measure => omega
        case rel => exact ⟨6, rfl, by omega, bB, q0, q1, HP.out, by omega⟩
      | true =>
        have HP : Hid (czeC L k = RES) := Lib.hid hp'
        clear hp'
        have hS0 : heldS w n d k ⟨wr.heap.size, 1, none⟩ (.func (.func 83) #[] #[]) ((wr.alloc (.cells #[.string ⟨#[99, 115]⟩, .func (.func 83) #[] #[]] 86)).alloc (.cells (F.map fun l => Value.string ⟨l.toArray⟩).toArray 9)).drew := by
          exact ⟨cell_dr (cell_al (cell_al d0 _) _), cell_dr (cell_al (cell_al d1 _) _), cell_dr (cell_al (cell_al d2 _) _), cell_dr (cell_al ((Lib.cell_of_heap (heap_alloc_new wr _) 1).trans (by rfl)) _), bB.drew⟩
        go_wp2_with (first
          | (go_at_call 53; (with_reducible refine (cF _ bA).mono ?_); rintro e W1 ⟨rfl, rfl⟩)
          | (go_at_call 52; (with_reducible refine cC.mono ?_); rintro e W1 ⟨rfl, rfl⟩))
        go_region_held3 (fun w' => w'.cell? ⟨w.heap.size, 0, none⟩ = some (.bool n) ∧ w'.cell? ⟨w.heap.size, 1, none⟩ = some (.string d) ∧ w'.cell? ⟨w.heap.size, 2, none⟩ = some (.int .i64 k) ∧ w'.cell? ⟨wr.heap.size, 1, none⟩ = some (.func (.func 83) #[] #[]) ∧ Below w.heap.size w w')
          (first | exact h10 | exact hS0)
          (first
            | (go_at_call 54; (with_reducible refine (cO _).mono ?_); rintro e W1 ⟨rfl, b1⟩; have h10 := heldOf b1 (Nat.le_refl _) (by assumption))
            | (go_at_call 83; (with_reducible refine (cL5 _).mono ?_); rintro e W1 ⟨rfl, b1⟩; have h10 := heldOf b1 (Nat.le_refl _) (by assumption)))
        go_wp2
        go_ret
        exact ⟨ret_int HP.out, h10.2.2.2.2⟩
    · obtain ⟨f, rfl⟩ : ∃ f, gk = f + 1 := ⟨gk - 1, by omega⟩
      have r0 := (Lib.cell_of_heap hB1 12).trans (by rfl : _ = some (.string ⟨#[97, 114]⟩))
      have r1 := (Lib.cell_of_heap hB1 13).trans (by rfl : _ = some (.func (.func 84) #[] #[]))
      have cF := fun W (h : Below w.heap.size w W) => fields_c ⟨#[97, 114]⟩ W (by decide) (by decide) (ascTab hT h)
      obtain ⟨F, hF⟩ : ∃ F, Lib.fields (⟨#[97, 114]⟩ : ByteArray).data.toList = F := ⟨_, rfl⟩
      have hFl : 0 < F.length ∧ F.length < 1000 := by rw [← hF]; decide +kernel
      have cC := contains_h F lang (wr.alloc (.cells #[.string ⟨#[97, 114]⟩, .func (.func 84) #[] #[]] 86)) (wr.heap.size + 1) (by simp) hFl.1 hFl.2
      rw [hF] at cF
      have hp' : (if Lib.containsS (F.map mkB) lang then araC L b else pick lang ((table L k b).drop 7)) = RES := by rw [← hF]; exact hp
      obtain ⟨B, hB⟩ : ∃ B, Lib.containsS (F.map mkB) lang = B := ⟨_, rfl⟩
      rw [hB] at cC hp'
      clear hp hF hFl hB
      have bA := hbw.alloc hsz (.cells #[.string ⟨#[97, 114]⟩, .func (.func 84) #[] #[]] 86)
      have bB := bA.alloc (bA.size) (.cells (F.map fun l => Value.string ⟨l.toArray⟩).toArray 9)
      cases B with
      | false =>
        have HP : Hid (pick lang ((table L k b).drop 7) = RES) := Lib.hid hp'
        clear hp'
        have q0 : ((wr.alloc (.cells #[.string ⟨#[97, 114]⟩, .func (.func 84) #[] #[]] 86)).alloc (.cells (F.map fun l => Value.string ⟨l.toArray⟩).toArray 9)).heap[w.heap.size]? = some (.cells #[.bool n, .string d, .int .i64 k] 23) := by rw [Below.heap_alloc _ _ _ (by simp; omega), Below.heap_alloc _ _ _ (by omega)]; exact hB0
        have q1 : ((wr.alloc (.cells #[.string ⟨#[97, 114]⟩, .func (.func 84) #[] #[]] 86)).alloc (.cells (F.map fun l => Value.string ⟨l.toArray⟩).toArray 9)).heap[w.heap.size + 1]? = some (.cells rulesCells 86) := by rw [Below.heap_alloc _ _ _ (by simp; omega), Below.heap_alloc _ _ _ (by omega)]; exact hB1
        go_wp2_with (first
          | (go_at_call 53; (with_reducible refine (cF _ bA).mono ?_); rintro e W1 ⟨rfl, rfl⟩)
          | (go_at_call 52; (with_reducible refine cC.mono ?_); rintro e W1 ⟨rfl, rfl⟩))
        go_roundg f
        case measure => omega
        case rel => exact ⟨7, rfl, by omega, bB, q0, q1, HP.out, by omega⟩
      | true =>
        have HP : Hid (araC L b = RES) := Lib.hid hp'
        clear hp'
        have hS0 : heldS w n d k ⟨wr.heap.size, 1, none⟩ (.func (.func 84) #[] #[]) ((wr.alloc (.cells #[.string ⟨#[97, 114]⟩, .func (.func 84) #[] #[]] 86)).alloc (.cells (F.map fun l => Value.string ⟨l.toArray⟩).toArray 9)).drew := by
          exact ⟨cell_dr (cell_al (cell_al d0 _) _), cell_dr (cell_al (cell_al d1 _) _), cell_dr (cell_al (cell_al d2 _) _), cell_dr (cell_al ((Lib.cell_of_heap (heap_alloc_new wr _) 1).trans (by rfl)) _), bB.drew⟩
        go_wp2_with (first
          | (go_at_call 53; (with_reducible refine (cF _ bA).mono ?_); rintro e W1 ⟨rfl, rfl⟩)
          | (go_at_call 52; (with_reducible refine cC.mono ?_); rintro e W1 ⟨rfl, rfl⟩))
        go_region_held3 (fun w' => w'.cell? ⟨w.heap.size, 0, none⟩ = some (.bool n) ∧ w'.cell? ⟨w.heap.size, 1, none⟩ = some (.string d) ∧ w'.cell? ⟨w.heap.size, 2, none⟩ = some (.int .i64 k) ∧ w'.cell? ⟨wr.heap.size, 1, none⟩ = some (.func (.func 84) #[] #[]) ∧ Below w.heap.size w w')
          (first | exact h10 | exact hS0)
          (first
            | (go_at_call 54; (with_reducible refine (cO _).mono ?_); rintro e W1 ⟨rfl, b1⟩; have h10 := heldOf b1 (Nat.le_refl _) (by assumption))
            | (go_at_call 84; (with_reducible refine (cL6 _).mono ?_); rintro e W1 ⟨rfl, b1⟩; have h10 := heldOf b1 (Nat.le_refl _) (by assumption)))
        go_wp2
        go_ret
        exact ⟨ret_int HP.out, h10.2.2.2.2⟩
end Go.Proofs.YtonjkoeacedaiaaDoor
