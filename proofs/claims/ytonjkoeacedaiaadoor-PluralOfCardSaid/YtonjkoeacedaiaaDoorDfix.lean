/- The walk of the law's Of (layer 2): a number's digits, a hundred behind the point. -/
import Derived.Test.YtonjkoeacedaiaaDoorDright
import Derived.Deep.RegionHeld3
import Derived.Deep.WholeRow
import Derived.Deep.MidRow
import Derived.StillTailTactics
import Derived.Deep.DrawnRows
namespace Go.Proofs.YtonjkoeacedaiaaDoor
open Go.RowKit
set_option linter.unusedVariables false
set_option linter.unusedSimpArgs false

theorem fixInfo : (Tryd.prog.info? 69).map (·.size) = some 200 := by kernel_rfl
theorem zc_eq : Tryd.zeroCells69 = ((List.range 200).map fun _ => Value.int .i64 0).toArray := by kernel_rfl
theorem zc_size : Tryd.zeroCells69.size = 200 := by kernel_rfl
/-- What stands at the place p of the hundred and hundred places behind i digits, m of all ahead of the point. -/
def fixD (D : List UInt8) (m i p : Nat) : Int := if 100 - m ≤ p ∧ p < 100 - m + i then ((D.getD (p - (100 - m)) 0).toNat : Int) - 48 else 0
def fixA (D : List UInt8) (m i : Nat) : Array Value := ((List.range 200).map fun p => Value.int .i64 (fixD D m i p)).toArray
theorem fixA_size (D : List UInt8) (m i : Nat) : (fixA D m i).size = 200 := by simp [fixA]
theorem fixA_at (D : List UInt8) (m i p : Nat) (h : p < 200) : (fixA D m i)[p]? = some (.int .i64 (fixD D m i p)) := by simp [fixA, h]
theorem fixA_zero (D : List UInt8) (m : Nat) : Tryd.zeroCells69 = fixA D m 0 := by
  have e : fixA D m 0 = ((List.range 200).map fun _ => Value.int .i64 0).toArray := by
    unfold fixA
    congr 1
    refine List.map_congr_left fun p _ => ?_
    unfold fixD
    rw [if_neg (by omega)]
  rw [e]
  exact zc_eq
theorem fixA_set (D : List UInt8) (m i : Nat) (hm : m ≤ 100) (hi : 100 - m + i < 200) : (fixA D m i).setIfInBounds (100 - m + i) (.int .i64 (((D.getD i 0).toNat : Int) - 48)) = fixA D m (i + 1) := by
  apply Array.ext_getElem?
  intro p
  by_cases hp : p < 200
  · rw [fixA_at _ _ _ _ hp, Array.getElem?_setIfInBounds]
    by_cases e : 100 - m + i = p
    · subst e
      rw [if_pos rfl, if_pos (by rw [fixA_size]; exact hp)]
      unfold fixD
      rw [if_pos (by omega)]
      rw [show 100 - m + i - (100 - m) = i by omega]
    · rw [if_neg e, fixA_at _ _ _ _ hp]
      unfold fixD
      by_cases c : 100 - m ≤ p ∧ p < 100 - m + i
      · rw [if_pos c, if_pos (by omega)]
      · rw [if_neg c, if_neg (by omega)]
  · rw [Array.getElem?_eq_none (by rw [Array.size_setIfInBounds, fixA_size]; omega), Array.getElem?_eq_none (by rw [fixA_size]; omega)]
theorem heap_set_same {w : World} {b o : Nat} {cs : Array Value} {t : TypeId} {fr : Nat × Nat} {v : Value} (h : w.heap[b]? = some (.cells cs t fr)) : (w.setCell ⟨b, o, none⟩ v).heap[b]? = some (.cells (cs.setIfInBounds o v) t fr) := by
  simp [World.setCell, Array.getElem?_modify, h]

theorem run_loadAt_fix {w : World} {b : Nat} {c : Array Value} (h : w.heap[b]? = some (.cells c 69 (0, 0))) (hc : c.size = 200) :
    (Instr.loadAt 69 (.pointer (some ⟨b, 0, none⟩))).run Tryd.prog w = .ok (.agg c) w := by
  simp only [Instr.loadAt, Instr.sureAddr, Sem.run_bind, Sem.run_pure, Result.andThen]
  exact run_loadVar_row _ _ _ _ c (0, 0) _ h Tryd.underlying69 rfl (by rw [hc]; exact fixInfo)

theorem results_one_cell {fn : Func} {p : Tmp} {ty : TypeId} (h : fn.results = #[.cell p ty]) (tmps : Array Value) (P : Program) (w : World) (a : Addr) (ha : tmps.getD p undef = .pointer (some a)) :
    (results fn tmps).run P w = (loadVar ty a).run P w := by
  have ha' : tmps[p]?.getD undef = .pointer (some a) := by simpa using ha
  simp only [results, h]
  simp [Sem.run_bind, Result.andThen, asAddr]
  rw [ha']
  rfl

set_option maxRecDepth 100000 in
set_option maxHeartbeats 1000000 in
theorem fix_any (n : Bool) (d : ByteArray) (k : Nat) (w : World) (hk : k < d.size) (hs : d.size ≤ 60) (hd : ∀ c ∈ d.data.toList, 48 ≤ c.toNat ∧ c.toNat ≤ 57) :
    Calls Tryd.prog 41 #[decV n d k] w fun e w' => e = .returned (.agg (fixA d.data.toList (d.size - k) d.size)) ∧ Below w.heap.size w w' := by
  unfold decV
  have hl : d.data.toList.length = d.size := (Lib.size_eq d).symm
  have hst := run_storeCells_new (P := Tryd.prog) ((w.alloc (.cells #[.bool n, .string d, .int .i64 k] 23)).alloc (.cells Tryd.zeroCells69 69)) 69 Tryd.zeroCells69 Tryd.zeroCells69 (by rw [zc_size]; exact fixInfo) rfl (by kernel_rfl)
  rw [show ((w.alloc (.cells #[.bool n, .string d, .int .i64 k] 23)).alloc (.cells Tryd.zeroCells69 69)).heap.size = w.heap.size + 1 + 1 by simp] at hst
  have al := fun (X : World) (o : Obj) (j : Nat) (h : j < X.heap.size) => Below.heap_alloc X o j h
  have s1 : (w.alloc (.cells #[.bool n, .string d, .int .i64 k] 23)).heap.size = w.heap.size + 1 := by simp
  have s2 : ((w.alloc (.cells #[.bool n, .string d, .int .i64 k] 23)).alloc (.cells Tryd.zeroCells69 69)).heap.size = w.heap.size + 1 + 1 := by simp
  have hh0 := ((al _ (.cells Tryd.zeroCells69 69) w.heap.size (by rw [s2]; omega)).trans (al _ (.cells Tryd.zeroCells69 69) w.heap.size (by rw [s1]; omega))).trans (heap_alloc_new w (.cells #[.bool n, .string d, .int .i64 k] 23))
  have hh1 : (((w.alloc (.cells #[.bool n, .string d, .int .i64 k] 23)).alloc (.cells Tryd.zeroCells69 69)).alloc (.cells Tryd.zeroCells69 69)).heap[w.heap.size + 1]? = some (.cells Tryd.zeroCells69 69) := (al _ (.cells Tryd.zeroCells69 69) (w.heap.size + 1) (by rw [s2]; omega)).trans (by have := heap_alloc_new (w.alloc (.cells #[.bool n, .string d, .int .i64 k] 23)) (.cells Tryd.zeroCells69 69); rw [s1] at this; exact this)
  have hh2 := heap_alloc_new ((w.alloc (.cells #[.bool n, .string d, .int .i64 k] 23)).alloc (.cells Tryd.zeroCells69 69)) (.cells Tryd.zeroCells69 69)
  rw [s2] at hh2
  conv at hh2 => rhs; rw [fixA_zero d.data.toList (d.size - k)]
  have bA := (((Below.refl w.heap.size w).alloc (Nat.le_refl _) (.cells #[.bool n, .string d, .int .i64 k] 23)).alloc (by simp) (.cells Tryd.zeroCells69 69)).alloc (by rw [s2]; omega) (.cells Tryd.zeroCells69 69)
  have HH := Lib.hid (And.intro hh0 (And.intro hh1 (And.intro hh2 bA)))
  clear s1 s2 al hh0 hh1 hh2 bA
  go_enter Tryd.func41, Tryd.ntmps41
  go_wp2
  go_loopg [4] d.size (fun gk si wx => ∃ i : Nat, si = .int .i64 i ∧ i ≤ d.size ∧ Below w.heap.size w wx ∧ wx.heap[w.heap.size]? = some (.cells #[.bool n, .string d, .int .i64 k] 23 (0, 0)) ∧ wx.heap[w.heap.size + 1]? = some (.cells Tryd.zeroCells69 69 (0, 0)) ∧ wx.heap[w.heap.size + 1 + 1]? = some (.cells (fixA d.data.toList (d.size - k) i) 69 (0, 0)) ∧ d.size ≤ i + gk)
  case atStart => exact ⟨0, rfl, by omega, HH.out.2.2.2, HH.out.1, HH.out.2.1, HH.out.2.2.1, by omega⟩
  case round =>
    obtain ⟨i, rfl, hi, hbw, hB0, hB1, hB2, hfu⟩ := hrel
    have d1 := (Lib.cell_of_heap hB0 1).trans (by rfl : _ = some (.string d))
    have d2 := (Lib.cell_of_heap hB0 2).trans (by rfl : _ = some (.int .i64 (k : Int)))
    clear HH
    by_cases hp : i < d.size
    · obtain ⟨f, rfl⟩ : ∃ f, gk = f + 1 := ⟨gk - 1, by omega⟩
      have hidx : ((100 : Int) - ((d.size : Int) - k) + i).toNat = 100 - (d.size - k) + i := by omega
      have hi0 : (0 : Int) ≤ (100 : Int) - ((d.size : Int) - k) + i := by omega
      have hi2 : (100 : Int) - ((d.size : Int) - k) + i < 200 := by omega
      have f0 := (Lib.cell_of_heap hB2 (100 - (d.size - k) + i)).trans (fixA_at _ _ _ _ (by omega))
      have f1 := Lib.frozen_of_heap hB2 (100 - (d.size - k) + i)
      go_wp2
      go_still_tail 15, (by kernel_rfl)
      change wpList _ _ _ _ _ wr.drew
      have hdi := hd (d[i]'hp) (List.getElem_mem (by rw [← Lib.size_eq]; exact hp) : _ ∈ d.data.toList)
      have hDi : d.data.toList.getD i 0 = d[i]'hp := by rw [List.getD_eq_getElem?_getD, List.getElem?_eq_getElem (by omega)]; rfl
      have hv : (((d[i]'hp).toNat : Int) - 48) = ((d.data.toList.getD i 0).toNat : Int) - 48 := by rw [hDi]
      have HV := Lib.hid hv; clear hv hDi
      go_wp2
      go_roundg f
      case measure => omega
      case rel =>
        refine ⟨i + 1, by go_num, by omega, (hbw.setCell (by show w.heap.size ≤ w.heap.size + 1 + 1; omega) _).drew, ?_, ?_, ?_, by omega⟩
        · exact (Below.heap_setCell wr _ _ _ (by show w.heap.size ≠ w.heap.size + 1 + 1; omega)).trans hB0
        · exact (Below.heap_setCell wr _ _ _ (by simp)).trans hB1
        · rw [HV.out, ← fixA_set _ _ _ (by omega) (by omega)]
          exact heap_set_same hB2
    · obtain rfl : i = d.size := by omega
      have hsc := run_storeCells_from (P := Tryd.prog) (w.heap.size + 1) 69 (fixA d.data.toList (d.size - k) d.size).toList 0 Tryd.zeroCells69 wr hB1 (by rw [Array.length_toList, fixA_size, zc_size]) (fun v hv => by
        simp [fixA] at hv
        obtain ⟨p, _, rfl⟩ := hv
        rfl)
      rw [show ((Tryd.zeroCells69.toList.take 0 ++ (fixA d.data.toList (d.size - k) d.size).toList).toArray) = fixA d.data.toList (d.size - k) d.size by simp] at hsc
      go_wp2
      refine wp_load_mid (P := Tryd.prog) 69 _ rfl (w.heap.size + 1 + 1) 0 rfl (fixA d.data.toList (d.size - k) d.size).toList _ (fun j v hv => by rw [Nat.zero_add, Lib.cell_of_heap hB2]; simpa using hv) Tryd.underlying69 rfl (by rw [Array.length_toList, fixA_size]; exact fixInfo) ?_
      go_wp2
      have hrow : (wr.setRow (w.heap.size + 1) (fixA d.data.toList (d.size - k) d.size)).heap[w.heap.size + 1]? = some (.cells (fixA d.data.toList (d.size - k) d.size) 69 (0, 0)) := by simp [World.setRow, Array.getElem?_modify, hB1]
      have hld := run_loadVar_row (P := Tryd.prog) _ _ 69 69 _ (0, 0) _ hrow Tryd.underlying69 rfl (by rw [fixA_size]; exact fixInfo)
      refine bodyPost_ret (v := .agg (fixA d.data.toList (d.size - k) d.size)) ((results_one_cell Tryd.results41 _ _ _ _ rfl).trans hld) rfl ⟨rfl, ?_⟩
      exact ⟨hbw.os, hbw.tape, hbw.output, by simpa [World.setRow] using hbw.size, fun j hj => by
        have := hbw.block j hj
        simp [World.setRow, Array.getElem?_modify]
        rw [if_neg (by omega)]
        exact this⟩
end Go.Proofs.YtonjkoeacedaiaaDoor
