/- Walks of plural's rules. -/
import Derived.Test.YtonjkoeacedaiaaDoorDplural
import Derived.Lib.OthersKept
import Derived.Lib.Index
import Derived.Lib.ValidLaws
namespace Go.Proofs.YtonjkoeacedaiaaDoor
open Go.RowKit
set_option linter.unusedVariables false
set_option linter.unusedSimpArgs false

theorem held1 {w W W1 : World} {B : Nat} {a0 : Addr} {v0 : Value} (b : Below B W W1) (hB : W.heap.size ≤ B) (h : W.cell? a0 = some v0 ∧ Below w.heap.size w W) : W1.cell? a0 = some v0 ∧ Below w.heap.size w W1 :=
  ⟨below_cellOf b hB h.1, below_step h.2 b (Nat.le_trans h.2.size hB)⟩

theorem ret_int {k : IntKind} {a b : Int} (h : a = b) : Ending.returned (.int k a) = .returned (.int k b) := by rw [h]
theorem in_any (x a b : Int) (w : World) : Calls Tryd.prog 58 #[.int .i64 x, .int .i64 a, .int .i64 b] w fun e w' => e = .returned (.bool (decide (a ≤ x) && decide (x ≤ b))) ∧ w' = w := by
  by_cases h1 : a ≤ x
  · by_cases h2 : x ≤ b
    · go_enter Tryd.func58, Tryd.ntmps58
      go_wp2
      go_ret
      exact ⟨by simp [h1, h2], rfl⟩
    · go_enter Tryd.func58, Tryd.ntmps58
      go_wp2
      go_ret
      exact ⟨by simp [h1, h2], rfl⟩
  · go_enter Tryd.func58, Tryd.ntmps58
    go_wp2
    go_ret
    exact ⟨by simp; omega, rfl⟩
theorem one_any (b : Bool) (w : World) : Calls Tryd.prog 56 #[.bool b] w fun e w' => e = .returned (.int .i64 (if b then 2 else 0)) ∧ w' = w := by
  cases b with
  | true =>
    go_enter Tryd.func56, Tryd.ntmps56
    go_wp2
    go_ret
    exact ⟨rfl, rfl⟩
  | false =>
    go_enter Tryd.func56, Tryd.ntmps56
    go_wp2
    go_ret
    exact ⟨rfl, rfl⟩
theorem is_any (L c : List UInt8) (v : Int) (b : Bool) (w : World) : Calls Tryd.prog 57 #[numV L v b, .string ⟨c.toArray⟩] w fun e w' => e = .returned (.bool (L == Lib.trimLeftB c 48)) ∧ Below w.heap.size w w' := by
  unfold numV
  have bA := (Below.refl w.heap.size w).alloc (Nat.le_refl _) (.cells #[.string ⟨L.toArray⟩, .int .i64 v, .bool b] 90)
  have cL := fun w => trimL0 ⟨c.toArray⟩ w
  rw [show (⟨c.toArray⟩ : ByteArray).data.toList = c from rfl] at cL
  generalize Lib.trimLeftB c 48 = x3 at *
  go_enter Tryd.func57, Tryd.ntmps57
  go_wp2
  have bAd := bA.drew
  go_region_held3 (fun w' => w'.cell? ⟨w.heap.size, 0, none⟩ = some (.string ⟨L.toArray⟩) ∧ Below w.heap.size w w') (first | exact ⟨by go_keep, bAd⟩ | exact h10)
    (first | (go_at_call 88; refine (cL _).mono ?_; rintro e W1 ⟨rfl, b1⟩; have h10 := held1 b1 (Nat.le_refl _) (by assumption)))
  go_wp2
  go_ret
  exact ⟨rfl, h10.2⟩

def lastV (k : Nat) (L : List UInt8) : Int := (L.drop (L.length - k)).foldl (fun x c => x * 10 + ((c.toNat : Int) - 48)) 0
theorem last_any (L : List UInt8) (v : Int) (b : Bool) (k : Nat) (w : World) (hk : k ≤ 2) (hL : L.length ≤ 1000000) (hd : ∀ c ∈ L, 48 ≤ c.toNat ∧ c.toNat ≤ 57) :
    Calls Tryd.prog 59 #[numV L v b, .int .i64 k] w fun e w' => e = .returned (.int .i64 (lastV k L)) ∧ Below w.heap.size w w' := by
  unfold numV
  have bA := (Below.refl w.heap.size w).alloc (Nat.le_refl _) (.cells #[.string ⟨L.toArray⟩, .int .i64 v, .bool b] 90)
  have hsz : (⟨L.toArray⟩ : ByteArray).size = L.length := rfl
  obtain ⟨S, hS⟩ : ∃ S : ByteArray, (⟨L.toArray⟩ : ByteArray) = S := ⟨_, rfl⟩
  rw [hS] at bA hsz ⊢
  obtain ⟨R, hR⟩ : ∃ R, lastV k L = R := ⟨_, rfl⟩
  rw [hR]
  obtain ⟨T, hT⟩ : ∃ T : ByteArray, S.extract (max 0 ((L.length : Int) - k)).toNat L.length = T := ⟨_, rfl⟩
  have hTl : T.data.toList = L.drop (L.length - k) := by
    rw [← hT, ← hS]
    have e : (max 0 ((L.length : Int) - k)).toNat = L.length - k := by omega
    rw [e]
    simp
    exact List.take_of_length_le (by rw [List.length_drop]; omega)
  have hTs : T.size = min L.length k := by rw [Lib.size_eq, hTl, List.length_drop]; omega
  have hTd : ∀ j (h : j < T.size), 48 ≤ (T[j]'h).toNat ∧ (T[j]'h).toNat ≤ 57 := fun j h => hd _ (by
    have h2 : j < (L.drop (L.length - k)).length := by rw [← hTl, ← Lib.size_eq]; exact h
    have : T[j]'h = (L.drop (L.length - k))[j]'h2 := by
      have : T[j]'h = T.data.toList[j]'(by rw [← Lib.size_eq]; exact h) := rfl
      rw [this]; simp only [hTl]
    rw [this]
    exact List.mem_of_mem_drop (List.getElem_mem _))
  have hR0 : T.data.toList.foldl (fun x c => x * 10 + ((c.toNat : Int) - 48)) 0 = R := by rw [hTl]; exact hR
  have hit1 : ((w.alloc (.cells #[.string S, .int .i64 v, .bool b] 90)).iter T 0).heap[w.heap.size + 1]? = some (.stringIter T 0) := by
    have := World.iter_heap (w.alloc (.cells #[.string S, .int .i64 v, .bool b] 90)) T 0
    rw [show (w.alloc (.cells #[.string S, .int .i64 v, .bool b] 90)).heap.size = w.heap.size + 1 by simp] at this
    exact this
  have bI := bA.alloc (by simp) (.stringIter T 0)
  have HT := Lib.hid hTl; clear hTl hS hR hd
  go_enter Tryd.func59, Tryd.ntmps59
  go_wp2
  go_loopg [5] T.size (fun gk sx wx => ∃ (pos : Nat) (x : Int), sx = .int .i64 x ∧ wx.heap[w.heap.size + 1]? = some (.stringIter T pos) ∧ Below w.heap.size w wx ∧ (T.data.toList.drop pos).foldl (fun x c => x * 10 + ((c.toNat : Int) - 48)) x = R ∧ T.size ≤ pos + gk ∧ 0 ≤ x ∧ (pos = 0 → x = 0) ∧ (pos = 1 → x ≤ 9) ∧ x ≤ 99 ∧ pos ≤ T.size)
  case atStart => exact ⟨0, 0, rfl, hit1, bI, hR0, by omega, by omega, fun _ => rfl, by omega, by omega, by omega⟩
  case round =>
    obtain ⟨pos, x, rfl, hit, hbw, hacc, hfu, hx0, hp0, hp1, hx9, hpos⟩ := hrel
    clear hit1 bI bA hT
    have hsz' : w.heap.size + 1 < wr.heap.size := (Array.getElem?_eq_some_iff.1 hit).1
    by_cases hp : pos < T.size
    · obtain ⟨d1, d2⟩ := hTd pos hp
      have hnx : ∀ ty, (Instr.next (.pointer (some ⟨w.heap.size + 1, 0, none⟩)) true ty).run Tryd.prog wr = _ := fun ty => Lib.run_next_ascii_at wr (w.heap.size + 1) T pos ty hit hp (by omega)
      have hit2 := Lib.iterAt_heap wr (w.heap.size + 1) T pos (pos + 1) hit
      have hbw2 := Lib.below_iterAt hbw (k := w.heap.size + 1) (by omega) T (pos + 1)
      obtain ⟨f, rfl⟩ : ∃ f, gk = f + 1 := ⟨gk - 1, by omega⟩
      have hdr : T.data.toList.drop pos = (T[pos]'hp) :: T.data.toList.drop (pos + 1) := List.drop_eq_getElem_cons (by rw [← Lib.size_eq]; exact hp)
      rw [hdr, List.foldl_cons] at hacc
      obtain ⟨Q, hQ⟩ : ∃ Q, (T[pos]'hp).toNat = Q := ⟨_, rfl⟩
      rw [hQ] at hnx hacc d1 d2
      have hpp : pos = 0 ∨ pos = 1 := by omega
      have HA := Lib.hid hacc; clear hacc hdr
      have hxb : 0 ≤ x * 10 + ((Q : Int) - 48) ∧ (pos = 0 → x * 10 + ((Q : Int) - 48) ≤ 9) ∧ x * 10 + ((Q : Int) - 48) ≤ 99 := by omega
      go_wp2
      go_roundg f
      case measure => omega
      case rel =>
        exact ⟨pos + 1, x * 10 + ((Q : Int) - 48), rfl, hit2, hbw2, HA.out, by omega, by omega, by omega, by omega, by omega, by omega⟩
    · have hnx : ∀ ty, (Instr.next (.pointer (some ⟨w.heap.size + 1, 0, none⟩)) true ty).run Tryd.prog wr = _ := fun ty => Lib.run_next_end_at wr (w.heap.size + 1) T pos ty hit hp
      have hfin : x = R := by
        rw [List.drop_eq_nil_of_le (by rw [← Lib.size_eq]; omega)] at hacc
        exact hacc
      have HF := Lib.hid hfin; clear hfin hacc
      go_wp2
      go_ret
      exact ⟨ret_int HF.out, hbw⟩
end Go.Proofs.YtonjkoeacedaiaaDoor
