/- Whatever number: braces within braces may be as deep as is said, and no deeper: AstDeep answers true. (Text 1 of 5: what the law's proof rests on, joined; walks printed by the kit's print over given contracts, walks and plain laws by hand.) -/
import Derived.Test.YtipmphgkdomebaaDoorProg
import Derived.WalkKit
import Derived.Below
import Derived.Deep.Draws
import Derived.Deep.AppendLies
import Derived.Maps.AppendAt
import Derived.OwnWalk
import Derived.Laws.BytesArg
import Derived.Laws.MakeOwn
import Derived.Laws.OwnMore
import Derived.Deep.OwnRows
import Derived.Tactics
import Derived.Lib.ConvBytes
import Derived.Laws.Slices
import Derived.KernelRfl
import Derived.RowKit3
import Derived.Deep.QuietTactic
import Derived.BigQuiet
import Derived.WideLaws
import Derived.Deep.DeepCutAuto
import Derived.Deep.CutBlock
import Derived.Laws.Rows
import Derived.ArgAppend
import Derived.Laws.IdiomCopy
import Derived.OrdersHeld
import Derived.Laws.BitsLemmas
import Derived.RowKit
import Derived.Laws.Cover1
import Derived.Lib.OthersKept
import Derived.Lib.Index
import Derived.Shelf.Lays
import Derived.BigCall
import Derived.BigGuard
import Derived.IntWalk
import Derived.Lib.Hide
import Derived.Outline
import Derived.Deep.LoopGhost
import Derived.Lib.AppendStr
import Derived.Lib.Builder
import Derived.Lib.Strings
import Derived.Laws.EntriesVeiled
import Derived.Lib.ValidLaws
import Derived.Deep.RegionHeld3
import Derived.Deep.DrawnRows
import Derived.Handy
namespace Go.Proofs.YtipmphgkdomebaaDoor
open Go.RowKit
set_option linter.unusedVariables false
set_option linter.unusedSimpArgs false
theorem below_on {w W W1 : World} {B : Nat} (h : Below w.heap.size w W) (b : Below B W W1) (hB : w.heap.size ≤ B) : Below w.heap.size w W1 := h.trans (b.mono hB)
theorem below_blockOf {W W1 : World} {B k : Nat} {o : Obj} (b : Below B W W1) (hB : W.heap.size ≤ B) (h : W.heap[k]? = some o) : W1.heap[k]? = some o :=
  (b.block k (Nat.lt_of_lt_of_le (Array.getElem?_eq_some_iff.1 h).1 hB)).trans h
end Go.Proofs.YtipmphgkdomebaaDoor
namespace Go.Proofs.YtipmphgkdomebaaDoor
open Go.RowKit
set_option linter.unusedVariables false
set_option linter.unusedSimpArgs false
inductive EX where
  | no
  | mk (kind : Int) (text name attr : ByteArray) (na : Nat) (an : Nat → ByteArray) (av : Nat → EX) (inner : EX) (nv : Nat) (vk : Nat → ByteArray) (vd : Nat → Bool) (ne : Nat → Nat) (et : Nat → Nat → ByteArray) (ep : Nat → Nat → EX)
namespace EX
def isNo : EX → Bool
  | no => true
  | mk .. => false
def kind : EX → Int
  | no => 0
  | mk k .. => k
def text : EX → ByteArray
  | no => ⟨#[]⟩
  | mk _ t .. => t
def name : EX → ByteArray
  | no => ⟨#[]⟩
  | mk _ _ n .. => n
def attr : EX → ByteArray
  | no => ⟨#[]⟩
  | mk _ _ _ a .. => a
def na : EX → Nat
  | no => 0
  | mk _ _ _ _ n .. => n
def an : EX → Nat → ByteArray
  | no => fun _ => ⟨#[]⟩
  | mk _ _ _ _ _ f .. => f
def av : EX → Nat → EX
  | no => fun _ => no
  | mk _ _ _ _ _ _ f .. => f
def inner : EX → EX
  | no => no
  | mk _ _ _ _ _ _ _ i .. => i
def nv : EX → Nat
  | no => 0
  | mk _ _ _ _ _ _ _ _ n .. => n
def vk : EX → Nat → ByteArray
  | no => fun _ => ⟨#[]⟩
  | mk _ _ _ _ _ _ _ _ _ f .. => f
def vd : EX → Nat → Bool
  | no => fun _ => false
  | mk _ _ _ _ _ _ _ _ _ _ f .. => f
def ne : EX → Nat → Nat
  | no => fun _ => 0
  | mk _ _ _ _ _ _ _ _ _ _ _ f .. => f
def et : EX → Nat → Nat → ByteArray
  | no => fun _ _ => ⟨#[]⟩
  | mk _ _ _ _ _ _ _ _ _ _ _ _ f _ => f
def ep : EX → Nat → Nat → EX
  | no => fun _ _ => no
  | mk _ _ _ _ _ _ _ _ _ _ _ _ _ f => f
end EX
structure Tri where
  A : Option Addr
  ca : Nat
  P : Option Addr
  V : Option Addr
  cv : Nat
structure ExAt (w : World) (a : Addr) (T : EX) (q : Tri) : Prop where
  c0 : w.cell? ⟨a.block, a.off, none⟩ = some (.int .i64 T.kind)
  c1 : w.cell? ⟨a.block, a.off + 1, none⟩ = some (.string T.text)
  c2 : w.cell? ⟨a.block, a.off + 2, none⟩ = some (.string T.name)
  c3 : w.cell? ⟨a.block, a.off + 3, none⟩ = some (.string T.attr)
  c4 : w.cell? ⟨a.block, a.off + 4, none⟩ = some (.slice q.A T.na q.ca)
  c5 : w.cell? ⟨a.block, a.off + 5, none⟩ = some (.pointer q.P)
  c6 : w.cell? ⟨a.block, a.off + 6, none⟩ = some (.slice q.V T.nv q.cv)
def EX.R (w : World) : EX → Tri → Prop
  | .no, _ => False
  | .mk _ _ _ _ na an av inner nv vk vd ne et ep, q =>
    na ≤ q.ca ∧ nv ≤ q.cv ∧
    (∀ i, i < na → ∃ b o r, q.A = some ⟨b, o, none⟩ ∧ w.cell? ⟨b, o + i * 8, none⟩ = some (.string (an i)) ∧ ExAt w ⟨b, o + i * 8 + 1, none⟩ (av i) r ∧ EX.R w (av i) r) ∧
    (inner = .no ∧ q.P = none ∨ ∃ b o r, q.P = some ⟨b, o, none⟩ ∧ ExAt w ⟨b, o, none⟩ inner r ∧ EX.R w inner r) ∧
    (∀ v, v < nv → ∃ b o A c, q.V = some ⟨b, o, none⟩ ∧ w.cell? ⟨b, o + v * 3, none⟩ = some (.string (vk v)) ∧ w.cell? ⟨b, o + v * 3 + 1, none⟩ = some (.bool (vd v)) ∧ w.cell? ⟨b, o + v * 3 + 2, none⟩ = some (.slice A (ne v) c) ∧ ne v ≤ c ∧
      ∀ e, e < ne v → ∃ b2 o2 p, A = some ⟨b2, o2, none⟩ ∧ w.cell? ⟨b2, o2 + e * 2, none⟩ = some (.string (et v e)) ∧ w.cell? ⟨b2, o2 + e * 2 + 1, none⟩ = some (.pointer p) ∧
        (ep v e = .no ∧ p = none ∨ ∃ b3 o3 r, p = some ⟨b3, o3, none⟩ ∧ ExAt w ⟨b3, o3, none⟩ (ep v e) r ∧ EX.R w (ep v e) r))
def EX.Ptr (w : World) (T : EX) (p : Option Addr) : Prop := T = .no ∧ p = none ∨ ∃ b o r, p = some ⟨b, o, none⟩ ∧ ExAt w ⟨b, o, none⟩ T r ∧ T.R w r
def Elems (w : World) (A : Option Addr) (n : Nat) (et : Nat → ByteArray) (ep : Nat → EX) : Prop :=
  ∀ e, e < n → ∃ b o p, A = some ⟨b, o, none⟩ ∧ w.cell? ⟨b, o + e * 2, none⟩ = some (.string (et e)) ∧ w.cell? ⟨b, o + e * 2 + 1, none⟩ = some (.pointer p) ∧ (ep e).Ptr w p
def Args (w : World) (A : Option Addr) (n : Nat) (an : Nat → ByteArray) (av : Nat → EX) : Prop :=
  ∀ i, i < n → ∃ b o r, A = some ⟨b, o, none⟩ ∧ w.cell? ⟨b, o + i * 8, none⟩ = some (.string (an i)) ∧ ExAt w ⟨b, o + i * 8 + 1, none⟩ (av i) r ∧ (av i).R w r
def Vars (w : World) (A : Option Addr) (n : Nat) (vk : Nat → ByteArray) (vd : Nat → Bool) (ne : Nat → Nat) (et : Nat → Nat → ByteArray) (ep : Nat → Nat → EX) : Prop :=
  ∀ v, v < n → ∃ b o A2 c, A = some ⟨b, o, none⟩ ∧ w.cell? ⟨b, o + v * 3, none⟩ = some (.string (vk v)) ∧ w.cell? ⟨b, o + v * 3 + 1, none⟩ = some (.bool (vd v)) ∧ w.cell? ⟨b, o + v * 3 + 2, none⟩ = some (.slice A2 (ne v) c) ∧ ne v ≤ c ∧ Elems w A2 (ne v) (et v) (ep v)
theorem EX.R_mk {w : World} {T : EX} {q : Tri} (h : T.R w q) : T ≠ .no ∧ T.na ≤ q.ca ∧ T.nv ≤ q.cv ∧ Args w q.A T.na T.an T.av ∧ T.inner.Ptr w q.P ∧ Vars w q.V T.nv T.vk T.vd T.ne T.et T.ep := by
  cases T with
  | no => exact h.elim
  | mk => exact ⟨(fun e => by cases e), h.1, h.2.1, h.2.2.1, h.2.2.2.1, h.2.2.2.2⟩
theorem EX.R_of {w : World} {T : EX} {q : Tri} (hn : T ≠ .no) (h1 : T.na ≤ q.ca) (h2 : T.nv ≤ q.cv) (h3 : Args w q.A T.na T.an T.av) (h4 : T.inner.Ptr w q.P) (h5 : Vars w q.V T.nv T.vk T.vd T.ne T.et T.ep) : T.R w q := by
  cases T with
  | no => exact (hn rfl).elim
  | mk => exact ⟨h1, h2, h3, h4, h5⟩
def Kept (w W : World) : Prop := ∀ (b o : Nat) (v : Value), w.cell? ⟨b, o, none⟩ = some v → W.cell? ⟨b, o, none⟩ = some v
theorem Kept.of {w W : World} (h : Below w.heap.size w W) : Kept w W := fun b o v hv => (h.cell (World.block_lt_of_cell? w _ hv)).trans hv
theorem Kept.refl (w : World) : Kept w w := fun _ _ _ h => h
theorem Kept.trans {a b c : World} (h : Kept a b) (k : Kept b c) : Kept a c := fun x o v hv => k x o v (h x o v hv)
theorem ExAt.keep {w W : World} {a : Addr} {T : EX} {q : Tri} (h : ExAt w a T q) (k : Kept w W) : ExAt W a T q :=
  ⟨k _ _ _ h.c0, k _ _ _ h.c1, k _ _ _ h.c2, k _ _ _ h.c3, k _ _ _ h.c4, k _ _ _ h.c5, k _ _ _ h.c6⟩
theorem EX.keep {w W : World} (k : Kept w W) : ∀ {T : EX} {q : Tri}, T.R w q → T.R W q := by
  intro T
  induction T with
  | no => intro q h; exact h.elim
  | mk kd tx nm at_ na an av inner nv vk vd ne et ep iha ihi ihp =>
    intro q h
    obtain ⟨h1, h2, h3, h4, h5⟩ := h
    refine ⟨h1, h2, ?_, ?_, ?_⟩
    · intro i hi
      obtain ⟨b, o, r, e, c, x, y⟩ := h3 i hi
      exact ⟨b, o, r, e, k _ _ _ c, x.keep k, iha i y⟩
    · rcases h4 with h | ⟨b, o, r, e, x, y⟩
      · exact .inl h
      · exact .inr ⟨b, o, r, e, x.keep k, ihi y⟩
    · intro v hv
      obtain ⟨b, o, A, c, e, c0, c1, c2, hc, hE⟩ := h5 v hv
      refine ⟨b, o, A, c, e, k _ _ _ c0, k _ _ _ c1, k _ _ _ c2, hc, ?_⟩
      intro x hx
      obtain ⟨b2, o2, p, e2, d0, d1, hp⟩ := hE x hx
      refine ⟨b2, o2, p, e2, k _ _ _ d0, k _ _ _ d1, ?_⟩
      rcases hp with h | ⟨b3, o3, r, e3, y, z⟩
      · exact .inl h
      · exact .inr ⟨b3, o3, r, e3, y.keep k, ihp v x z⟩
theorem EX.Ptr.keep {w W : World} (k : Kept w W) {T : EX} {p : Option Addr} (h : T.Ptr w p) : T.Ptr W p := by
  rcases h with h | ⟨b, o, r, e, x, y⟩
  · exact .inl h
  · exact .inr ⟨b, o, r, e, x.keep k, EX.keep k y⟩
theorem Elems.keep {w W : World} (k : Kept w W) {A : Option Addr} {n : Nat} {et : Nat → ByteArray} {ep : Nat → EX} (h : Elems w A n et ep) : Elems W A n et ep := fun e he => by
  obtain ⟨b, o, p, h1, h2, h3, h4⟩ := h e he
  exact ⟨b, o, p, h1, k _ _ _ h2, k _ _ _ h3, h4.keep k⟩
theorem Args.keep {w W : World} (k : Kept w W) {A : Option Addr} {n : Nat} {an : Nat → ByteArray} {av : Nat → EX} (h : Args w A n an av) : Args W A n an av := fun i hi => by
  obtain ⟨b, o, r, h1, h2, h3, h4⟩ := h i hi
  exact ⟨b, o, r, h1, k _ _ _ h2, h3.keep k, EX.keep k h4⟩
theorem Vars.keep {w W : World} (k : Kept w W) {A : Option Addr} {n : Nat} {vk : Nat → ByteArray} {vd : Nat → Bool} {ne : Nat → Nat} {et : Nat → Nat → ByteArray} {ep : Nat → Nat → EX} (h : Vars w A n vk vd ne et ep) : Vars W A n vk vd ne et ep := fun v hv => by
  obtain ⟨b, o, A2, c, h1, h2, h3, h4, h5, h6⟩ := h v hv
  exact ⟨b, o, A2, c, h1, k _ _ _ h2, k _ _ _ h3, k _ _ _ h4, h5, h6.keep k⟩
end Go.Proofs.YtipmphgkdomebaaDoor
namespace Go.Proofs.YtipmphgkdomebaaDoor
open Go.RowKit
set_option linter.unusedVariables false
set_option linter.unusedSimpArgs false
theorem heap_set {W : World} {b i : Nat} {v : Value} {cs : Array Value} {T : TypeId} {fr : Nat × Nat} (h : W.heap[b]? = some (.cells cs T fr)) : (W.setCell ⟨b, i, none⟩ v).heap[b]? = some (.cells (cs.setIfInBounds i v) T fr) := by
  simp [World.setCell, Array.getElem?_modify, h]
theorem heap_far {W : World} {b i k : Nat} {v : Value} (h : k ≠ b) : (W.setCell ⟨b, i, none⟩ v).heap[k]? = W.heap[k]? := by
  simp [World.setCell, Array.getElem?_modify, Ne.symm h]
structure Own (w : World) (L : List (Nat × Obj)) (W : World) : Prop where
  all : ∀ p ∈ L, W.heap[p.1]? = some p.2
  nd : (L.map Prod.fst).Nodup
  own : ∀ p ∈ L, w.heap.size ≤ p.1
  bel : Below w.heap.size w W
section
variable {w W : World} {L : List (Nat × Obj)}
theorem Own.nil (w : World) : Own w [] w := ⟨by simp, by simp, by simp, Below.refl _ _⟩
theorem Own.at (h : Own w L W) {i b : Nat} {o : Obj} (hi : L[i]? = some (b, o)) : W.heap[b]? = some o := h.all (b, o) (List.mem_of_getElem? hi)
theorem Own.c (h : Own w L W) (i j : Nat) {b : Nat} {cs : Array Value} {T : TypeId} {fr : Nat × Nat} {v : Value} (hi : L[i]? = some (b, .cells cs T fr)) (hj : cs[j]? = some v) : W.cell? ⟨b, j, none⟩ = some v :=
  (Lib.cell_of_heap (h.at hi) j).trans hj
theorem Own.fz (h : Own w L W) (i j : Nat) {b : Nat} {cs : Array Value} {T : TypeId} (hi : L[i]? = some (b, .cells cs T (0, 0))) : W.frozen? ⟨b, j, none⟩ = false := Lib.frozen_of_heap (h.at hi) j
theorem Own.lt (h : Own w L W) (i : Nat) {b : Nat} {o : Obj} (hi : L[i]? = some (b, o)) : b < W.heap.size := (Array.getElem?_eq_some_iff.1 (h.at hi)).1
theorem Own.step {W1 : World} (h : Own w L W) (c : Below W.heap.size W W1) : Own w L W1 :=
  ⟨fun p hp => below_blockOf c (Nat.le_refl _) (h.all p hp), h.nd, h.own, below_on h.bel c h.bel.size⟩
theorem Own.drew (h : Own w L W) : Own w L W.drew := h.step ((Below.refl _ _).drew)
theorem Own.alloc (h : Own w L W) (o : Obj) : Own w ((W.heap.size, o) :: L) (W.alloc o) := by
  have s := h.step ((Below.refl _ W).alloc (Nat.le_refl _) o)
  refine ⟨?_, ?_, ?_, s.bel⟩
  · intro p hp
    rcases List.mem_cons.1 hp with rfl | hp
    · exact heap_alloc_new W o
    · exact s.all p hp
  · rw [List.map_cons, List.nodup_cons]
    refine ⟨?_, h.nd⟩
    intro hm
    obtain ⟨p, hp, he⟩ := List.mem_map.1 hm
    have := (Array.getElem?_eq_some_iff.1 (h.all p hp)).1
    omega
  · intro p hp
    rcases List.mem_cons.1 hp with rfl | hp
    · exact h.bel.size
    · exact h.own p hp
theorem nodup_set {L : List (Nat × Obj)} {i b : Nat} {o o2 : Obj} (hi : L[i]? = some (b, o)) : (L.set i (b, o2)).map Prod.fst = L.map Prod.fst := by
  rw [List.map_set]
  apply List.ext_getElem?
  intro j
  rw [List.getElem?_set]
  by_cases h : i = j
  · subst h
    have hl : i < (L.map Prod.fst).length := by rw [List.length_map]; exact (List.getElem?_eq_some_iff.1 hi).1
    rw [if_pos rfl, if_pos hl, List.getElem?_map, hi]
    rfl
  · rw [if_neg h]
theorem Own.put {W1 : World} (h : Own w L W) (i : Nat) {b : Nat} {o o2 : Obj} (hi : L[i]? = some (b, o)) (ho : W1.heap[b]? = some o2) (hk : ∀ k, k ≠ b → W1.heap[k]? = W.heap[k]?) (hb : Below b W W1) : Own w (L.set i (b, o2)) W1 := by
  refine ⟨?_, by rw [nodup_set hi]; exact h.nd, ?_, h.bel.trans (hb.mono (h.own _ (List.mem_of_getElem? hi)))⟩
  · intro p hp
    obtain ⟨j, hj⟩ := List.mem_iff_getElem?.1 hp
    rw [List.getElem?_set] at hj
    by_cases e : i = j
    · subst e
      rw [if_pos rfl, if_pos (List.getElem?_eq_some_iff.1 hi).1] at hj
      obtain rfl := Option.some.inj hj
      exact ho
    · rw [if_neg e] at hj
      have hne : p.1 ≠ b := by
        intro he
        have h1 : (L.map Prod.fst)[i]? = some b := by rw [List.getElem?_map, hi]; rfl
        have h2 : (L.map Prod.fst)[j]? = some b := by rw [List.getElem?_map, hj]; exact congrArg some he
        exact e ((List.getElem?_inj (List.getElem?_eq_some_iff.1 h1).1 h.nd).1 (h1.trans h2.symm))
      rw [hk _ hne]
      exact h.all p (List.mem_of_getElem? hj)
  · intro p hp
    rcases List.mem_or_eq_of_mem_set hp with hp | rfl
    · exact h.own p hp
    · exact h.own (b, o) (List.mem_of_getElem? hi)
theorem Own.set (h : Own w L W) (i j : Nat) {b : Nat} {cs : Array Value} {T : TypeId} {fr : Nat × Nat} (v : Value) (hi : L[i]? = some (b, .cells cs T fr)) : Own w (L.set i (b, .cells (cs.setIfInBounds j v) T fr)) (W.setCell ⟨b, j, none⟩ v) :=
  h.put i hi (heap_set (h.at hi)) (fun k hk => heap_far hk) ((Below.refl b W).setCell (p := ⟨b, j, none⟩) (Nat.le_refl b) v)
theorem size_alloc (w : World) (o : Obj) : (w.alloc o).heap.size = w.heap.size + 1 := by simp
theorem Own.one (w : World) (a : Obj) : Own w [(w.heap.size, a)] (w.alloc a) := (Own.nil w).alloc a
theorem Own.two (w : World) (a b : Obj) : Own w [(w.heap.size + 1, b), (w.heap.size, a)] ((w.alloc a).alloc b) := by
  have h := ((Own.nil w).alloc a).alloc b
  rwa [size_alloc] at h
end
end Go.Proofs.YtipmphgkdomebaaDoor
namespace Go.Proofs.YtipmphgkdomebaaDoor
open Go.RowKit
set_option linter.unusedVariables false
set_option linter.unusedSimpArgs false
def allTo (q : Nat → Bool) : Nat → Bool
  | 0 => true
  | n + 1 => allTo q n && q n
theorem allTo_false {q : Nat → Bool} {i : Nat} (h : q i = false) : ∀ {n : Nat}, i < n → allTo q n = false
  | 0, hn => absurd hn (Nat.not_lt_zero _)
  | n + 1, hn => by
    unfold allTo
    by_cases e : i = n
    · subst e; rw [h, Bool.and_false]
    · rw [allTo_false h (by omega), Bool.false_and]
theorem allTo_succ (q : Nat → Bool) (i : Nat) : allTo q (i + 1) = (allTo q i && q i) := rfl
theorem Own.of {w W : World} (h : Below w.heap.size w W) : Own w [] W := ⟨by simp, by simp, by simp, h⟩
def Attrs (w : World) (A : Option Addr) (n : Nat) (nm : Nat → ByteArray) (ne : Nat → Nat) (et : Nat → Nat → ByteArray) (ep : Nat → Nat → EX) : Prop :=
  ∀ v, v < n → ∃ b o A2 c, A = some ⟨b, o, none⟩ ∧ w.cell? ⟨b, o + v * 2, none⟩ = some (.string (nm v)) ∧ w.cell? ⟨b, o + v * 2 + 1, none⟩ = some (.slice A2 (ne v) c) ∧ ne v ≤ c ∧ Elems w A2 (ne v) (et v) (ep v)
theorem Attrs.keep {w W : World} (k : Kept w W) {A : Option Addr} {n : Nat} {nm : Nat → ByteArray} {ne : Nat → Nat} {et : Nat → Nat → ByteArray} {ep : Nat → Nat → EX} (h : Attrs w A n nm ne et ep) : Attrs W A n nm ne et ep := fun v hv => by
  obtain ⟨b, o, A2, c, h1, h2, h3, h5, h6⟩ := h v hv
  exact ⟨b, o, A2, c, h1, k _ _ _ h2, k _ _ _ h3, h5, h6.keep k⟩
set_option maxRecDepth 100000 in
set_option maxHeartbeats 4000000 in
theorem eqf_elem (q : Nat → Bool) (A1 A2 : Option Addr) (n m ca cb : Nat) (t1 : Nat → ByteArray) (x1 : Nat → EX) (t2 : Nat → ByteArray) (x2 : Nat → EX) (w : World) (hn : n ≤ 281474976710656) (hm : m ≤ 281474976710656) (hA : Elems w A1 n t1 x1) (hB : Elems w A2 m t2 x2)
    (hq : ∀ i, i < n → i < m → ∀ p1 p2, (x1 i).Ptr w p1 → (x2 i).Ptr w p2 → ∀ W, Below w.heap.size w W → Calls Tryd.prog 80 #[.agg #[.string (t1 i), .pointer p1], .agg #[.string (t2 i), .pointer p2]] W fun e w' => e = .returned (.bool (q i)) ∧ Below W.heap.size W w') :
    Calls Tryd.prog 79 #[.slice A1 n ca, .slice A2 m cb, .func (.func 80) #[] #[]] w fun e w' => e = .returned (.bool (decide (n = m) && allTo q n)) ∧ Below w.heap.size w w' := by
  by_cases e : n = m
  · subst e
    have e1 : ((n : Int) == (n : Int)) = true := by simp
    rw [decide_eq_true (rfl : n = n), Bool.true_and]
    have HA := Lib.hid hA; clear hA
    have HB := Lib.hid hB; clear hB
    have HQ := Lib.hid hq; clear hq
    go_enter Tryd.func79, Tryd.ntmps79
    go_wp2
    go_loopg [17] n (fun gk v17 wx => ∃ i : Nat, v17 = .int .i64 i ∧ i + gk = n ∧ allTo q i = true ∧ Below w.heap.size w wx)
    case atStart => exact ⟨0, rfl, by omega, rfl, Below.refl _ _⟩
    case round =>
      obtain ⟨i, rfl, hi, hall, hb⟩ := hrel
      by_cases hp : i < n
      · obtain ⟨f, rfl⟩ : ∃ f, gk = f + 1 := ⟨gk - 1, by omega⟩
        have hk := Kept.of hb
        have hs := allTo_succ q i
        rw [hall, Bool.true_and] at hs
        obtain ⟨b1, o1, p1, rfl, c10, c11, k1⟩ := HA.out i hp
        obtain ⟨b2, o2, p2, rfl, c20, c21, k2⟩ := HB.out i hp
        replace c10 := hk _ _ _ c10
        replace c20 := hk _ _ _ c20
        replace c11 := hk _ _ _ c11
        replace c21 := hk _ _ _ c21
        have cQ := HQ.out i hp hp p1 p2 k1 k2
        have HQX := HQ; clear HQ HA HB
        have HK := Lib.hid hk; clear hk
        have HS := Lib.hid hs; clear hs
        have HI := Lib.hid hi; clear hi
        have q0 : decide ((i : Int) < (n : Int)) = true := decide_eq_true (by omega)
        have q1 : (0 : Int) ≤ (i : Int) := by omega
        have q2 : (i : Int) < (n : Int) := by omega
        have h0 := Own.of hb
        clear hb hall e1
        go_upto_region 6 with (fail)
        have h1 := h0.alloc (.cells #[.string (t1 i), .pointer p1] 42)
        have k00 := (Kept.of ((Below.refl _ _).alloc (Nat.le_refl _) _) : Kept wr (wr.alloc (.cells #[.string (t1 i), .pointer p1] 42))) _ _ _ c20
        have k01 := (Kept.of ((Below.refl _ _).alloc (Nat.le_refl _) _) : Kept wr (wr.alloc (.cells #[.string (t1 i), .pointer p1] 42))) _ _ _ c21
        generalize wr.alloc _ = W1 at *
        generalize wr.heap.size = g1 at *
        clear h0
        go_upto_region 7 with (fail)
        have h2 := h1.alloc (.cells #[.string (t2 i), .pointer p2] 42)
        generalize W1.alloc _ = W2 at *
        generalize W1.heap.size = g2 at *
        clear h1
        have u0 := h2.c 1 0 rfl rfl
        have y0 := h2.c 0 0 rfl rfl
        have u1 := h2.c 1 1 rfl rfl
        have y1 := h2.c 0 1 rfl rfl
        cases hz : q i with
        | true =>
          rw [hz] at cQ
          go_wp2_with (go_at_call 80; refine (cQ _ h2.bel).mono ?_; rintro e W3 ⟨rfl, b3⟩; have h3 := h2.step b3)
          go_roundg f
          case measure => omega
          case rel => exact ⟨i + 1, by go_num, by have := HI.out; omega, by rw [HS.out, hz], h3.bel⟩
        | false =>
          rw [hz] at cQ
          have HF := Lib.hid (allTo_false hz hp)
          go_wp2_with (go_at_call 80; refine (cQ _ h2.bel).mono ?_; rintro e W3 ⟨rfl, b3⟩; have h3 := h2.step b3)
          go_ret
          exact ⟨by rw [HF.out]; rfl, h3.bel⟩
      · obtain rfl : i = n := by omega
        have HL := Lib.hid hall; clear hall
        have q0 : decide ((i : Int) < (i : Int)) = false := decide_eq_false (by omega)
        go_wp2
        go_ret
        exact ⟨by rw [HL.out]; rfl, hb⟩
  · have e1 : ((n : Int) == (m : Int)) = false := beq_eq_false_iff_ne.2 (by omega)
    rw [decide_eq_false e, Bool.false_and]
    clear hA hB hq
    go_enter Tryd.func79, Tryd.ntmps79
    go_wp2
    go_ret
    exact ⟨rfl, Below.refl _ _⟩
set_option maxRecDepth 100000 in
set_option maxHeartbeats 4000000 in
theorem eqf_attr (q : Nat → Bool) (A1 A2 : Option Addr) (n m ca cb : Nat) (nm1 : Nat → ByteArray) (ne1 : Nat → Nat) (t1 : Nat → Nat → ByteArray) (x1 : Nat → Nat → EX) (nm2 : Nat → ByteArray) (ne2 : Nat → Nat) (t2 : Nat → Nat → ByteArray) (x2 : Nat → Nat → EX) (w : World) (hn : n ≤ 281474976710656) (hm : m ≤ 281474976710656) (hA : Attrs w A1 n nm1 ne1 t1 x1) (hB : Attrs w A2 m nm2 ne2 t2 x2)
    (hq : ∀ i, i < n → i < m → ∀ B1 d1 B2 d2, ne1 i ≤ d1 → Elems w B1 (ne1 i) (t1 i) (x1 i) → ne2 i ≤ d2 → Elems w B2 (ne2 i) (t2 i) (x2 i) → ∀ W, Below w.heap.size w W → Calls Tryd.prog 46 #[.agg #[.string (nm1 i), .slice B1 (ne1 i) d1], .agg #[.string (nm2 i), .slice B2 (ne2 i) d2]] W fun e w' => e = .returned (.bool (q i)) ∧ Below W.heap.size W w') :
    Calls Tryd.prog 45 #[.slice A1 n ca, .slice A2 m cb, .func (.func 46) #[] #[]] w fun e w' => e = .returned (.bool (decide (n = m) && allTo q n)) ∧ Below w.heap.size w w' := by
  by_cases e : n = m
  · subst e
    have e1 : ((n : Int) == (n : Int)) = true := by simp
    rw [decide_eq_true (rfl : n = n), Bool.true_and]
    have HA := Lib.hid hA; clear hA
    have HB := Lib.hid hB; clear hB
    have HQ := Lib.hid hq; clear hq
    go_enter Tryd.func45, Tryd.ntmps45
    go_wp2
    go_loopg [17] n (fun gk v17 wx => ∃ i : Nat, v17 = .int .i64 i ∧ i + gk = n ∧ allTo q i = true ∧ Below w.heap.size w wx)
    case atStart => exact ⟨0, rfl, by omega, rfl, Below.refl _ _⟩
    case round =>
      obtain ⟨i, rfl, hi, hall, hb⟩ := hrel
      by_cases hp : i < n
      · obtain ⟨f, rfl⟩ : ∃ f, gk = f + 1 := ⟨gk - 1, by omega⟩
        have hk := Kept.of hb
        have hs := allTo_succ q i
        rw [hall, Bool.true_and] at hs
        obtain ⟨b1, o1, B1, d1, rfl, c10, c11, l1, k1⟩ := HA.out i hp
        obtain ⟨b2, o2, B2, d2, rfl, c20, c21, l2, k2⟩ := HB.out i hp
        replace c10 := hk _ _ _ c10
        replace c20 := hk _ _ _ c20
        replace c11 := hk _ _ _ c11
        replace c21 := hk _ _ _ c21
        have cQ := HQ.out i hp hp B1 d1 B2 d2 l1 k1 l2 k2
        have HQX := HQ; clear HQ HA HB
        have HK := Lib.hid hk; clear hk
        have HS := Lib.hid hs; clear hs
        have HI := Lib.hid hi; clear hi
        have q0 : decide ((i : Int) < (n : Int)) = true := decide_eq_true (by omega)
        have q1 : (0 : Int) ≤ (i : Int) := by omega
        have q2 : (i : Int) < (n : Int) := by omega
        have h0 := Own.of hb
        clear hb hall e1
        go_upto_region 6 with (fail)
        have h1 := h0.alloc (.cells #[.string (nm1 i), .slice B1 (ne1 i) d1] 44)
        have k00 := (Kept.of ((Below.refl _ _).alloc (Nat.le_refl _) _) : Kept wr (wr.alloc (.cells #[.string (nm1 i), .slice B1 (ne1 i) d1] 44))) _ _ _ c20
        have k01 := (Kept.of ((Below.refl _ _).alloc (Nat.le_refl _) _) : Kept wr (wr.alloc (.cells #[.string (nm1 i), .slice B1 (ne1 i) d1] 44))) _ _ _ c21
        generalize wr.alloc _ = W1 at *
        generalize wr.heap.size = g1 at *
        clear h0
        go_upto_region 7 with (fail)
        have h2 := h1.alloc (.cells #[.string (nm2 i), .slice B2 (ne2 i) d2] 44)
        generalize W1.alloc _ = W2 at *
        generalize W1.heap.size = g2 at *
        clear h1
        have u0 := h2.c 1 0 rfl rfl
        have y0 := h2.c 0 0 rfl rfl
        have u1 := h2.c 1 1 rfl rfl
        have y1 := h2.c 0 1 rfl rfl
        cases hz : q i with
        | true =>
          rw [hz] at cQ
          go_wp2_with (go_at_call 46; refine (cQ _ h2.bel).mono ?_; rintro e W3 ⟨rfl, b3⟩; have h3 := h2.step b3)
          go_roundg f
          case measure => omega
          case rel => exact ⟨i + 1, by go_num, by have := HI.out; omega, by rw [HS.out, hz], h3.bel⟩
        | false =>
          rw [hz] at cQ
          have HF := Lib.hid (allTo_false hz hp)
          go_wp2_with (go_at_call 46; refine (cQ _ h2.bel).mono ?_; rintro e W3 ⟨rfl, b3⟩; have h3 := h2.step b3)
          go_ret
          exact ⟨by rw [HF.out]; rfl, h3.bel⟩
      · obtain rfl : i = n := by omega
        have HL := Lib.hid hall; clear hall
        have q0 : decide ((i : Int) < (i : Int)) = false := decide_eq_false (by omega)
        go_wp2
        go_ret
        exact ⟨by rw [HL.out]; rfl, hb⟩
  · have e1 : ((n : Int) == (m : Int)) = false := beq_eq_false_iff_ne.2 (by omega)
    rw [decide_eq_false e, Bool.false_and]
    clear hA hB hq
    go_enter Tryd.func45, Tryd.ntmps45
    go_wp2
    go_ret
    exact ⟨rfl, Below.refl _ _⟩
set_option maxRecDepth 100000 in
set_option maxHeartbeats 4000000 in
theorem eqf_arg (q : Nat → Bool) (A1 A2 : Option Addr) (n m ca cb : Nat) (an1 : Nat → ByteArray) (x1 : Nat → EX) (an2 : Nat → ByteArray) (x2 : Nat → EX) (w : World) (hn : n ≤ 281474976710656) (hm : m ≤ 281474976710656) (hA : Args w A1 n an1 x1) (hB : Args w A2 m an2 x2)
    (hq : ∀ i, i < n → i < m → ∀ r1 r2, (x1 i).R w r1 → (x2 i).R w r2 → ∀ W, Below w.heap.size w W → Calls Tryd.prog 120 #[.agg #[.string (an1 i), .int .i64 (x1 i).kind, .string (x1 i).text, .string (x1 i).name, .string (x1 i).attr, .slice r1.A (x1 i).na r1.ca, .pointer r1.P, .slice r1.V (x1 i).nv r1.cv], .agg #[.string (an2 i), .int .i64 (x2 i).kind, .string (x2 i).text, .string (x2 i).name, .string (x2 i).attr, .slice r2.A (x2 i).na r2.ca, .pointer r2.P, .slice r2.V (x2 i).nv r2.cv]] W fun e w' => e = .returned (.bool (q i)) ∧ Below W.heap.size W w') :
    Calls Tryd.prog 119 #[.slice A1 n ca, .slice A2 m cb, .func (.func 120) #[] #[]] w fun e w' => e = .returned (.bool (decide (n = m) && allTo q n)) ∧ Below w.heap.size w w' := by
  by_cases e : n = m
  · subst e
    have e1 : ((n : Int) == (n : Int)) = true := by simp
    rw [decide_eq_true (rfl : n = n), Bool.true_and]
    have HA := Lib.hid hA; clear hA
    have HB := Lib.hid hB; clear hB
    have HQ := Lib.hid hq; clear hq
    go_enter Tryd.func119, Tryd.ntmps119
    go_wp2
    go_loopg [17] n (fun gk v17 wx => ∃ i : Nat, v17 = .int .i64 i ∧ i + gk = n ∧ allTo q i = true ∧ Below w.heap.size w wx)
    case atStart => exact ⟨0, rfl, by omega, rfl, Below.refl _ _⟩
    case round =>
      obtain ⟨i, rfl, hi, hall, hb⟩ := hrel
      by_cases hp : i < n
      · obtain ⟨f, rfl⟩ : ∃ f, gk = f + 1 := ⟨gk - 1, by omega⟩
        have hk := Kept.of hb
        have hs := allTo_succ q i
        rw [hall, Bool.true_and] at hs
        obtain ⟨b1, o1, r1, rfl, c10, E1, k1⟩ := HA.out i hp
        obtain ⟨b2, o2, r2, rfl, c20, E2, k2⟩ := HB.out i hp
        obtain ⟨c11, c12, c13, c14, c15, c16, c17⟩ := E1
        obtain ⟨c21, c22, c23, c24, c25, c26, c27⟩ := E2
        replace c10 := hk _ _ _ c10
        replace c20 := hk _ _ _ c20
        replace c11 := hk _ _ _ c11
        replace c21 := hk _ _ _ c21
        replace c12 := hk _ _ _ c12
        replace c22 := hk _ _ _ c22
        replace c13 := hk _ _ _ c13
        replace c23 := hk _ _ _ c23
        replace c14 := hk _ _ _ c14
        replace c24 := hk _ _ _ c24
        replace c15 := hk _ _ _ c15
        replace c25 := hk _ _ _ c25
        replace c16 := hk _ _ _ c16
        replace c26 := hk _ _ _ c26
        replace c17 := hk _ _ _ c17
        replace c27 := hk _ _ _ c27
        have cQ := HQ.out i hp hp r1 r2 k1 k2
        have HQX := HQ; clear HQ HA HB
        have HK := Lib.hid hk; clear hk
        have HS := Lib.hid hs; clear hs
        have HI := Lib.hid hi; clear hi
        have q0 : decide ((i : Int) < (n : Int)) = true := decide_eq_true (by omega)
        have q1 : (0 : Int) ≤ (i : Int) := by omega
        have q2 : (i : Int) < (n : Int) := by omega
        have h0 := Own.of hb
        clear hb hall e1
        go_upto_region 6 with (fail)
        have h1 := h0.alloc (.cells #[.string (an1 i), .int .i64 (x1 i).kind, .string (x1 i).text, .string (x1 i).name, .string (x1 i).attr, .slice r1.A (x1 i).na r1.ca, .pointer r1.P, .slice r1.V (x1 i).nv r1.cv] 77)
        have k00 := (Kept.of ((Below.refl _ _).alloc (Nat.le_refl _) _) : Kept wr (wr.alloc (.cells #[.string (an1 i), .int .i64 (x1 i).kind, .string (x1 i).text, .string (x1 i).name, .string (x1 i).attr, .slice r1.A (x1 i).na r1.ca, .pointer r1.P, .slice r1.V (x1 i).nv r1.cv] 77))) _ _ _ c20
        have k01 := (Kept.of ((Below.refl _ _).alloc (Nat.le_refl _) _) : Kept wr (wr.alloc (.cells #[.string (an1 i), .int .i64 (x1 i).kind, .string (x1 i).text, .string (x1 i).name, .string (x1 i).attr, .slice r1.A (x1 i).na r1.ca, .pointer r1.P, .slice r1.V (x1 i).nv r1.cv] 77))) _ _ _ c21
        have k02 := (Kept.of ((Below.refl _ _).alloc (Nat.le_refl _) _) : Kept wr (wr.alloc (.cells #[.string (an1 i), .int .i64 (x1 i).kind, .string (x1 i).text, .string (x1 i).name, .string (x1 i).attr, .slice r1.A (x1 i).na r1.ca, .pointer r1.P, .slice r1.V (x1 i).nv r1.cv] 77))) _ _ _ c22
        have k03 := (Kept.of ((Below.refl _ _).alloc (Nat.le_refl _) _) : Kept wr (wr.alloc (.cells #[.string (an1 i), .int .i64 (x1 i).kind, .string (x1 i).text, .string (x1 i).name, .string (x1 i).attr, .slice r1.A (x1 i).na r1.ca, .pointer r1.P, .slice r1.V (x1 i).nv r1.cv] 77))) _ _ _ c23
        have k04 := (Kept.of ((Below.refl _ _).alloc (Nat.le_refl _) _) : Kept wr (wr.alloc (.cells #[.string (an1 i), .int .i64 (x1 i).kind, .string (x1 i).text, .string (x1 i).name, .string (x1 i).attr, .slice r1.A (x1 i).na r1.ca, .pointer r1.P, .slice r1.V (x1 i).nv r1.cv] 77))) _ _ _ c24
        have k05 := (Kept.of ((Below.refl _ _).alloc (Nat.le_refl _) _) : Kept wr (wr.alloc (.cells #[.string (an1 i), .int .i64 (x1 i).kind, .string (x1 i).text, .string (x1 i).name, .string (x1 i).attr, .slice r1.A (x1 i).na r1.ca, .pointer r1.P, .slice r1.V (x1 i).nv r1.cv] 77))) _ _ _ c25
        have k06 := (Kept.of ((Below.refl _ _).alloc (Nat.le_refl _) _) : Kept wr (wr.alloc (.cells #[.string (an1 i), .int .i64 (x1 i).kind, .string (x1 i).text, .string (x1 i).name, .string (x1 i).attr, .slice r1.A (x1 i).na r1.ca, .pointer r1.P, .slice r1.V (x1 i).nv r1.cv] 77))) _ _ _ c26
        have k07 := (Kept.of ((Below.refl _ _).alloc (Nat.le_refl _) _) : Kept wr (wr.alloc (.cells #[.string (an1 i), .int .i64 (x1 i).kind, .string (x1 i).text, .string (x1 i).name, .string (x1 i).attr, .slice r1.A (x1 i).na r1.ca, .pointer r1.P, .slice r1.V (x1 i).nv r1.cv] 77))) _ _ _ c27
        generalize wr.alloc _ = W1 at *
        generalize wr.heap.size = g1 at *
        clear h0
        go_upto_region 7 with (fail)
        have h2 := h1.alloc (.cells #[.string (an2 i), .int .i64 (x2 i).kind, .string (x2 i).text, .string (x2 i).name, .string (x2 i).attr, .slice r2.A (x2 i).na r2.ca, .pointer r2.P, .slice r2.V (x2 i).nv r2.cv] 77)
        generalize W1.alloc _ = W2 at *
        generalize W1.heap.size = g2 at *
        clear h1
        have u0 := h2.c 1 0 rfl rfl
        have y0 := h2.c 0 0 rfl rfl
        have u1 := h2.c 1 1 rfl rfl
        have y1 := h2.c 0 1 rfl rfl
        have u2 := h2.c 1 2 rfl rfl
        have y2 := h2.c 0 2 rfl rfl
        have u3 := h2.c 1 3 rfl rfl
        have y3 := h2.c 0 3 rfl rfl
        have u4 := h2.c 1 4 rfl rfl
        have y4 := h2.c 0 4 rfl rfl
        have u5 := h2.c 1 5 rfl rfl
        have y5 := h2.c 0 5 rfl rfl
        have u6 := h2.c 1 6 rfl rfl
        have y6 := h2.c 0 6 rfl rfl
        have u7 := h2.c 1 7 rfl rfl
        have y7 := h2.c 0 7 rfl rfl
        cases hz : q i with
        | true =>
          rw [hz] at cQ
          go_wp2_with (go_at_call 120; refine (cQ _ h2.bel).mono ?_; rintro e W3 ⟨rfl, b3⟩; have h3 := h2.step b3)
          go_roundg f
          case measure => omega
          case rel => exact ⟨i + 1, by go_num, by have := HI.out; omega, by rw [HS.out, hz], h3.bel⟩
        | false =>
          rw [hz] at cQ
          have HF := Lib.hid (allTo_false hz hp)
          go_wp2_with (go_at_call 120; refine (cQ _ h2.bel).mono ?_; rintro e W3 ⟨rfl, b3⟩; have h3 := h2.step b3)
          go_ret
          exact ⟨by rw [HF.out]; rfl, h3.bel⟩
      · obtain rfl : i = n := by omega
        have HL := Lib.hid hall; clear hall
        have q0 : decide ((i : Int) < (i : Int)) = false := decide_eq_false (by omega)
        go_wp2
        go_ret
        exact ⟨by rw [HL.out]; rfl, hb⟩
  · have e1 : ((n : Int) == (m : Int)) = false := beq_eq_false_iff_ne.2 (by omega)
    rw [decide_eq_false e, Bool.false_and]
    clear hA hB hq
    go_enter Tryd.func119, Tryd.ntmps119
    go_wp2
    go_ret
    exact ⟨rfl, Below.refl _ _⟩
set_option maxRecDepth 100000 in
set_option maxHeartbeats 4000000 in
theorem eqf_var (q : Nat → Bool) (A1 A2 : Option Addr) (n m ca cb : Nat) (vk1 : Nat → ByteArray) (vd1 : Nat → Bool) (ne1 : Nat → Nat) (t1 : Nat → Nat → ByteArray) (x1 : Nat → Nat → EX) (vk2 : Nat → ByteArray) (vd2 : Nat → Bool) (ne2 : Nat → Nat) (t2 : Nat → Nat → ByteArray) (x2 : Nat → Nat → EX) (w : World) (hn : n ≤ 281474976710656) (hm : m ≤ 281474976710656) (hA : Vars w A1 n vk1 vd1 ne1 t1 x1) (hB : Vars w A2 m vk2 vd2 ne2 t2 x2)
    (hq : ∀ i, i < n → i < m → ∀ B1 d1 B2 d2, ne1 i ≤ d1 → Elems w B1 (ne1 i) (t1 i) (x1 i) → ne2 i ≤ d2 → Elems w B2 (ne2 i) (t2 i) (x2 i) → ∀ W, Below w.heap.size w W → Calls Tryd.prog 122 #[.agg #[.string (vk1 i), .bool (vd1 i), .slice B1 (ne1 i) d1], .agg #[.string (vk2 i), .bool (vd2 i), .slice B2 (ne2 i) d2]] W fun e w' => e = .returned (.bool (q i)) ∧ Below W.heap.size W w') :
    Calls Tryd.prog 121 #[.slice A1 n ca, .slice A2 m cb, .func (.func 122) #[] #[]] w fun e w' => e = .returned (.bool (decide (n = m) && allTo q n)) ∧ Below w.heap.size w w' := by
  by_cases e : n = m
  · subst e
    have e1 : ((n : Int) == (n : Int)) = true := by simp
    rw [decide_eq_true (rfl : n = n), Bool.true_and]
    have HA := Lib.hid hA; clear hA
    have HB := Lib.hid hB; clear hB
    have HQ := Lib.hid hq; clear hq
    go_enter Tryd.func121, Tryd.ntmps121
    go_wp2
    go_loopg [17] n (fun gk v17 wx => ∃ i : Nat, v17 = .int .i64 i ∧ i + gk = n ∧ allTo q i = true ∧ Below w.heap.size w wx)
    case atStart => exact ⟨0, rfl, by omega, rfl, Below.refl _ _⟩
    case round =>
      obtain ⟨i, rfl, hi, hall, hb⟩ := hrel
      by_cases hp : i < n
      · obtain ⟨f, rfl⟩ : ∃ f, gk = f + 1 := ⟨gk - 1, by omega⟩
        have hk := Kept.of hb
        have hs := allTo_succ q i
        rw [hall, Bool.true_and] at hs
        obtain ⟨b1, o1, B1, d1, rfl, c10, c11, c12, l1, k1⟩ := HA.out i hp
        obtain ⟨b2, o2, B2, d2, rfl, c20, c21, c22, l2, k2⟩ := HB.out i hp
        replace c10 := hk _ _ _ c10
        replace c20 := hk _ _ _ c20
        replace c11 := hk _ _ _ c11
        replace c21 := hk _ _ _ c21
        replace c12 := hk _ _ _ c12
        replace c22 := hk _ _ _ c22
        have cQ := HQ.out i hp hp B1 d1 B2 d2 l1 k1 l2 k2
        have HQX := HQ; clear HQ HA HB
        have HK := Lib.hid hk; clear hk
        have HS := Lib.hid hs; clear hs
        have HI := Lib.hid hi; clear hi
        have q0 : decide ((i : Int) < (n : Int)) = true := decide_eq_true (by omega)
        have q1 : (0 : Int) ≤ (i : Int) := by omega
        have q2 : (i : Int) < (n : Int) := by omega
        have h0 := Own.of hb
        clear hb hall e1
        go_upto_region 6 with (fail)
        have h1 := h0.alloc (.cells #[.string (vk1 i), .bool (vd1 i), .slice B1 (ne1 i) d1] 136)
        have k00 := (Kept.of ((Below.refl _ _).alloc (Nat.le_refl _) _) : Kept wr (wr.alloc (.cells #[.string (vk1 i), .bool (vd1 i), .slice B1 (ne1 i) d1] 136))) _ _ _ c20
        have k01 := (Kept.of ((Below.refl _ _).alloc (Nat.le_refl _) _) : Kept wr (wr.alloc (.cells #[.string (vk1 i), .bool (vd1 i), .slice B1 (ne1 i) d1] 136))) _ _ _ c21
        have k02 := (Kept.of ((Below.refl _ _).alloc (Nat.le_refl _) _) : Kept wr (wr.alloc (.cells #[.string (vk1 i), .bool (vd1 i), .slice B1 (ne1 i) d1] 136))) _ _ _ c22
        generalize wr.alloc _ = W1 at *
        generalize wr.heap.size = g1 at *
        clear h0
        go_upto_region 7 with (fail)
        have h2 := h1.alloc (.cells #[.string (vk2 i), .bool (vd2 i), .slice B2 (ne2 i) d2] 136)
        generalize W1.alloc _ = W2 at *
        generalize W1.heap.size = g2 at *
        clear h1
        have u0 := h2.c 1 0 rfl rfl
        have y0 := h2.c 0 0 rfl rfl
        have u1 := h2.c 1 1 rfl rfl
        have y1 := h2.c 0 1 rfl rfl
        have u2 := h2.c 1 2 rfl rfl
        have y2 := h2.c 0 2 rfl rfl
        cases hz : q i with
        | true =>
          rw [hz] at cQ
          go_wp2_with (go_at_call 122; refine (cQ _ h2.bel).mono ?_; rintro e W3 ⟨rfl, b3⟩; have h3 := h2.step b3)
          go_roundg f
          case measure => omega
          case rel => exact ⟨i + 1, by go_num, by have := HI.out; omega, by rw [HS.out, hz], h3.bel⟩
        | false =>
          rw [hz] at cQ
          have HF := Lib.hid (allTo_false hz hp)
          go_wp2_with (go_at_call 122; refine (cQ _ h2.bel).mono ?_; rintro e W3 ⟨rfl, b3⟩; have h3 := h2.step b3)
          go_ret
          exact ⟨by rw [HF.out]; rfl, h3.bel⟩
      · obtain rfl : i = n := by omega
        have HL := Lib.hid hall; clear hall
        have q0 : decide ((i : Int) < (i : Int)) = false := decide_eq_false (by omega)
        go_wp2
        go_ret
        exact ⟨by rw [HL.out]; rfl, hb⟩
  · have e1 : ((n : Int) == (m : Int)) = false := beq_eq_false_iff_ne.2 (by omega)
    rw [decide_eq_false e, Bool.false_and]
    clear hA hB hq
    go_enter Tryd.func121, Tryd.ntmps121
    go_wp2
    go_ret
    exact ⟨rfl, Below.refl _ _⟩
end Go.Proofs.YtipmphgkdomebaaDoor
namespace Go.Proofs.YtipmphgkdomebaaDoorW.PrintLast
section
variable {P : Program} {ops : Array Oper} {Q : Exit → Act → World → Prop} {md : Region.Mode} {S : World → Prop} {ds : List Nat}
def ListedClosed (md : Region.Mode) (ops : Array Oper) (listed : Array Bool) : Prop :=
  ∀ j oj, ops[j]? = some oj → listed.getD j false = true → ∀ e ∈ oj.after, Region.binds md e = true → listed.getD e.on false = true
theorem ListedClosed.set {listed : Array Bool} {i : Nat} (h : ListedClosed md ops listed) (hi : i ∈ Region.ready md ops listed) : ListedClosed md ops (listed.setIfInBounds i true) := by
  obtain ⟨_, oi, hoi, hall⟩ := mem_ready.1 hi
  intro j oj hj hl e he hb
  by_cases hij : i = j
  · subst hij
    have : oj = oi := Option.some.inj (hj.symm.trans hoi)
    subst this
    exact getD_set_true (hall e he hb)
  · rw [getD_set_ne false hij] at hl
    exact getD_set_true (h j oj hj hl e he hb)
def wpAnyLast (P : Program) (md : Region.Mode) (ops : Array Oper) (Q : Exit → Act → World → Prop) (S : World → Prop) (ds : List Nat) : Nat → Array Bool → Act → World → Prop
  | 0, listed, a, w => Region.ready md ops listed = [] ∧ Q .normal a w
  | fuel + 1, listed, a, w =>
    (Region.ready md ops listed = [] → Q .normal a w) ∧
    ∀ i ∈ Region.ready md ops listed, wpOp P ops Q i (fun a' w' => (i ∉ ds → S w → S w') ∧ wpAnyLast P md ops Q S ds fuel (listed.setIfInBounds i true) a' w') a w
theorem wpAny_of_last : ∀ (fuel : Nat) (listed : Array Bool) (a : Act) (w : World), wpAnyLast P md ops Q S ds fuel listed a w → wpAny P md ops Q fuel listed a w
  | 0, _, _, _, h => h
  | fuel + 1, _, _, _, h => ⟨h.1, fun i hi => wpOp_mono (fun a' w' h' => wpAny_of_last fuel _ a' w' h'.2) (h.2 i hi)⟩
theorem wp_region_last {id : Nat} {a : Act} {w : World} (hm : P.follows .mixedOrders = true)
    (h : wpAnyLast P .any ops Q S ds ops.size (Array.replicate ops.size false) a { w with drawn := w.drawn + 1 }) : (Code.region id ops true).wp P Q a w :=
  wp_region_any hm (wpAny_of_last _ _ _ _ h)
end
section
variable {P : Program} {ops : Array Oper} {Q : Exit → Act → World → Prop} {md : Region.Mode} {S : World → Prop} {ds : List Nat}
def AllReadyL (P : Program) (md : Region.Mode) (ops : Array Oper) (Q : Exit → Act → World → Prop) (S : World → Prop) (ds : List Nat) (fuel : Nat) (listed : Array Bool) (a : Act) (w : World) (rs : List Nat) : Prop :=
  ∀ i ∈ rs, wpOp P ops Q i (fun a' w' => (i ∉ ds → S w → S w') ∧ wpAnyLast P md ops Q S ds fuel (listed.setIfInBounds i true) a' w') a w
theorem AllReadyL.nil {fuel : Nat} {listed : Array Bool} {a : Act} {w : World} : AllReadyL P md ops Q S ds fuel listed a w [] := fun _ h => by cases h
theorem AllReadyL.cons {fuel : Nat} {listed : Array Bool} {a : Act} {w : World} {i : Nat} {o : Oper} {rs : List Nat} (ho : ops[i]? = some o) (hd : i ∉ ds)
    (h : ∀ K' : Act → World → Prop, Shut (∀ a w, S w → (S w → wpAnyLast P md ops Q S ds fuel (listed.setIfInBounds i true) a w) → K' a w) → if Region.wanted o (yielded ops a.tmps) = true then Oper.wp P o a w K' Q else K' (a.put o.dst undef) w)
    (hs : AllReadyL P md ops Q S ds fuel listed a w rs) : AllReadyL P md ops Q S ds fuel listed a w (i :: rs) := fun j hj => by
  rcases List.mem_cons.1 hj with rfl | hj
  · exact wpOp_step ho (fun K' hK => h K' (fun a w hS hW => hK a w ⟨fun _ _ => hS, hW hS⟩))
  · exact hs j hj
theorem start_ {id n : Nat} {a : Act} {w : World} (l : Array Bool) (hm : P.follows .mixedOrders = true) (hn : ops.size = n) (hl : Array.replicate n false = l) (hS : S w.drew)
    (h : S w.drew → wpAnyLast P .any ops Q S ds n l a w.drew) : (Code.region id ops true).wp P Q a w := by
  subst hn
  subst hl
  exact wp_region_last hm (h hS)
theorem call_ {oi : Oper} {N : Option Tmp} {a : Act} {w : World} {K : Act → World → Prop} (f : FuncId) (args : Array Value) (hw : Region.wanted oi (yielded ops a.tmps) = true) (hN : oi.dst = N) (hrun : (execOp a.eval oi).run P w = .ok (.enter f args) w)
    (h : Calls P f args w fun e w' => ∃ v, e = .returned v ∧ K (a.put N v) w') : if Region.wanted oi (yielded ops a.tmps) = true then Oper.wp P oi a w K Q else K (a.put N undef) w := by
  rw [if_pos hw]
  subst hN
  unfold Oper.wp
  rw [hrun, Oper.upon_enter]
  refine h.mono fun e w'' hh => ?_
  obtain ⟨v, rfl, hk⟩ := hh
  exact hk
theorem enters_ {f : FuncId} {fn : Func} (hf : P.funcs[f]? = some fn) (hname : (fn.name == "runtime.NumGoroutine") = false) (hb : fn.body.isSome = true) (args : Array Value) (w : World) : (callFunc f args).run P w = .ok (.enter f args) w := by
  have h1 : fn.name ≠ "runtime.NumGoroutine" := by simpa using hname
  obtain ⟨c, hc⟩ := Option.isSome_iff_exists.1 hb
  simp [callFunc, hf, h1, hc]
theorem goes_ {oi : Oper} {N : Option Tmp} {a : Act} {w : World} {K : Act → World → Prop} {f : FuncId} {fn : Func} {ags : Array Operand} {ts : Array TypeId} (hf : P.funcs[f]? = some fn) (hname : (fn.name == "runtime.NumGoroutine") = false) (hb : fn.body.isSome = true) (args : Array Value)
    (hw : Region.wanted oi (yielded ops a.tmps) = true) (hN : oi.dst = N) (hop : oi.op = .call { callee := .value (.func f), args := ags, argTypes := ts }) (hargs : ags.map a.eval = args)
    (h : Calls P f args w fun e w' => ∃ v, e = .returned v ∧ K (a.put N v) w') : if Region.wanted oi (yielded ops a.tmps) = true then Oper.wp P oi a w K Q else K (a.put N undef) w := by
  refine call_ f args hw hN ?_ h
  have he := enters_ hf hname hb args w
  unfold execOp
  simp [hop, resolve, Deferred.ofValue, invoke, Act.eval, hargs, he]
theorem goesL_ {rest : List Oper} {oi : Oper} {a : Act} {w : World} (N : Option Tmp) (hd : oi.dst = N) (hg : oi.guard = none) {f : FuncId} {fn : Func} {ags : Array Operand} {ts : Array TypeId} (hf : P.funcs[f]? = some fn) (hname : (fn.name == "runtime.NumGoroutine") = false) (hb : fn.body.isSome = true) (args : Array Value)
    (hop : oi.op = .call { callee := .value (.func f), args := ags, argTypes := ts }) (hargs : ags.map a.eval = args)
    (h : Calls P f args w fun e w' => ∃ v, e = .returned v ∧ wpList P ops Q rest (a.put N v) w') : wpList P ops Q (oi :: rest) a w := by
  refine wpList_plain hg fun K hK => ?_
  have he := enters_ hf hname hb args w
  have hrun : (execOp a.eval oi).run P w = .ok (.enter f args) w := by
    unfold execOp
    simp [hop, resolve, Deferred.ofValue, invoke, Act.eval, hargs, he]
  unfold Oper.wp
  rw [hrun, Oper.upon_enter]
  refine h.mono fun e w'' hh => ?_
  obtain ⟨v, rfl, hk⟩ := hh
  subst hd
  exact hK _ _ hk
theorem value_ {oi : Oper} {N : Option Tmp} {a : Act} {w w1 : World} {v : Value} {K : Act → World → Prop} (hw : Region.wanted oi (yielded ops a.tmps) = true) (hN : oi.dst = N) (hrun : (execOp a.eval oi).run P w = .ok (.value v) w1)
    (h : K (a.put N v) w1) : if Region.wanted oi (yielded ops a.tmps) = true then Oper.wp P oi a w K Q else K (a.put N undef) w := by
  rw [if_pos hw]
  subst hN
  unfold Oper.wp
  rw [hrun]
  exact h
theorem off_ {oi : Oper} {N : Option Tmp} {a : Act} {w : World} {K : Act → World → Prop} (hw : Region.wanted oi (yielded ops a.tmps) = false) (h : K (a.put N undef) w) : if Region.wanted oi (yielded ops a.tmps) = true then Oper.wp P oi a w K Q else K (a.put N undef) w := by
  rw [hw, if_neg (by simp)]
  exact h
theorem i64_w (n : Int) : IntKind.i64.wrap n = Go.RowKit.wrap64 n := by unfold Go.RowKit.wrap64; exact IntKind.wrap_i64 n
theorem i32_w (n : Int) : IntKind.i32.wrap n = Go.RowKit.wrap32 n := by unfold Go.RowKit.wrap32; exact IntKind.wrap_i32 n
end
end Go.Proofs.YtipmphgkdomebaaDoorW.PrintLast
set_option linter.unusedVariables false
set_option linter.unusedSimpArgs false
namespace Go.Proofs.YtipmphgkdomebaaDoorW.PrintWords
open Go.RowKit
structure Aside0 (p : Prop) : Prop where mk :: (out : p)
structure Drawn0 (w w' : World) : Prop where mk :: (out : ∃ n, w' = w.drewN n)
theorem Drawn0.refl (w : World) : Drawn0 w w := ⟨⟨0, rfl⟩⟩
theorem Drawn0.step {w w' : World} (h : Drawn0 w w') (n : Nat) : Drawn0 w (w'.drewN n) := by
  obtain ⟨m, rfl⟩ := h
  exact ⟨⟨m + n, World.drewN_drewN ..⟩⟩
theorem Drawn0.grown {w w' : World} (h : Drawn0 w w') : Grown w w' := by
  obtain ⟨n, rfl⟩ := h
  induction n with
  | zero => exact Grown.refl _
  | succ n ih => rw [← World.drew_drewN]; exact Grown.drew ih
theorem Drawn0.below {w w' : World} (h : Drawn0 w w') : Below w.heap.size w w' := by
  obtain ⟨n, rfl⟩ := h
  induction n with
  | zero => exact Below.refl _ _
  | succ n ih => rw [← World.drew_drewN]; exact ih.drew
def rd (xs : List Int) (i : Int) : Int := xs.getD i.toNat 0
def bt (s : ByteArray) (i : Int) : Int := if h : i.toNat < s.size then ((s[i.toNat]'h).toNat : Int) else 0
theorem bt_at (s : ByteArray) (i : Int) : ∀ h : i.toNat < s.size, ((s[i.toNat]'h).toNat : Int) = bt s i := fun h => by simp [bt, h]
theorem below_alloc {w W : World} (h : Below w.heap.size w W) (o : Obj) : Below w.heap.size w (W.alloc o) := h.alloc h.size o
theorem below_drew {B : Nat} {w W : World} (h : Below B w W) : Below B w W.drew := ⟨h.os, h.tape, h.output, h.size, h.block⟩
theorem pw_below_drewN {B : Nat} {w W : World} (h : Below B w W) (n : Nat) : Below B w (W.drewN n) := ⟨h.os, h.tape, h.output, h.size, h.block⟩
theorem below_then {B : Nat} {w w1 w2 : World} (h : Below B w w1) (hB : B ≤ w1.heap.size) (k : Below w1.heap.size w1 w2) : Below B w w2 :=
  h.trans ⟨k.os, k.tape, k.output, k.size, fun i hi => k.block i (Nat.lt_of_lt_of_le hi hB)⟩
theorem grown_of_below {w w1 : World} (h : Below w.heap.size w w1) (row : Option Nat) : w.grownBy w1 row := ⟨h.os, h.tape, h.output, h.size, fun i hi _ => h.block i hi⟩
theorem pw_cell_below {w w1 : World} (h : Below w.heap.size w w1) {a : Addr} {v : Value} (hc : w.cell? a = some v) : w1.cell? a = some v := (h.cell (World.block_lt_of_cell? w a hc)).trans hc
def ReadsInt (w : World) (k : IntKind) (A : Option Addr) (n : Nat) (xs : List Int) : Prop :=
  xs.length = n ∧ n ≤ 9223372036854775807 ∧ (0 < n → ∃ ad, A = some ad ∧ ∀ j, j < n → w.cell? (ad.add j) = some (.int k (xs.getD j 0)))
theorem ReadsInt.at_ {w : World} {k : IntKind} {A : Option Addr} {n : Nat} {xs : List Int} (h : ReadsInt w k A n xs) (i : Int) (h0 : 0 ≤ i) (h1 : i < n) : ∃ ad, A = some ad ∧ w.cell? (ad.add i.toNat) = some (.int k (rd xs i)) := by
  obtain ⟨ad, e, hc⟩ := h.2.2 (by omega)
  exact ⟨ad, e, hc _ (by omega)⟩
theorem ReadsInt.below {w w1 : World} {k : IntKind} {A : Option Addr} {n : Nat} {xs : List Int} (h : ReadsInt w k A n xs) (hb : Below w.heap.size w w1) : ReadsInt w1 k A n xs :=
  ⟨h.1, h.2.1, fun hn => by
    obtain ⟨ad, e, hc⟩ := h.2.2 hn
    exact ⟨ad, e, fun j hj => pw_cell_below hb (hc j hj)⟩⟩
theorem own_base {w : World} {base : Nat} {e : TypeId} {size n : Nat} {v : Value} {xs : List Value} (h : w.ownsRow base e size v n xs) (k : Nat) (hk : v.ownBlock = some k) : base ≤ k := by
  rcases h.2 with ⟨rfl, _⟩ | ⟨g, cap, cur, rfl, hb, _⟩
  · simp [Value.ownBlock] at hk
  · have : g = k := by simpa [Value.ownBlock] using hk
    omega
theorem own_lt {w : World} {base : Nat} {e : TypeId} {size n : Nat} {v : Value} {xs : List Value} (h : w.ownsRow base e size v n xs) (k : Nat) (hk : v.ownBlock = some k) : k < w.heap.size := by
  rcases h.2 with ⟨rfl, _⟩ | ⟨g, cap, cur, rfl, hb, hh, _⟩
  · simp [Value.ownBlock] at hk
  · have : g = k := by simpa [Value.ownBlock] using hk
    subst this
    exact (Array.getElem?_eq_some_iff.1 hh).1
theorem pw_own_below {w w1 : World} {base : Nat} {e : TypeId} {size n : Nat} {v : Value} {xs : List Value} (h : w.ownsRow base e size v n xs) (hb : Below w.heap.size w w1) : w1.ownsRow base e size v n xs :=
  h.kept (grown_of_below hb none) (by cases v.ownBlock <;> simp)
section
variable {P : Program} {ops : Array Oper} {rest : List Oper} {o : Oper} {a : Act} {Q : Exit → Act → World → Prop}
end
section
variable {P : Program}
end
section
variable {P : Program} {ops : Array Oper} {rest : List Oper} {o : Oper} {a : Act} {Q : Exit → Act → World → Prop}
end
def LeO {α : Type} (a b : Option α) : Prop := ∀ r, a = some r → b = some r
theorem LeO.refl {α : Type} (a : Option α) : LeO a a := fun _ h => h
theorem LeO.none {α : Type} (b : Option α) : LeO Option.none b := fun _ h => by cases h
theorem LeO.trans {α : Type} {a b c : Option α} (h : LeO a b) (k : LeO b c) : LeO a c := fun r hr => k r (h r hr)
theorem LeO.bind {α β : Type} {a a' : Option α} {f f' : α → Option β} (h : LeO a a') (k : ∀ x, LeO (f x) (f' x)) : LeO (a.bind f) (a'.bind f') := by
  intro r hr
  obtain ⟨x, hx, hf⟩ := Option.bind_eq_some_iff.1 hr
  exact Option.bind_eq_some_iff.2 ⟨x, h x hx, k x r hf⟩
theorem LeO.map {α β : Type} {a a' : Option α} (f : α → β) (h : LeO a a') : LeO (a.map f) (a'.map f) := by
  intro r hr
  obtain ⟨x, hx, hf⟩ := Option.map_eq_some_iff.1 hr
  exact Option.map_eq_some_iff.2 ⟨x, h x hx, hf⟩
theorem more_rounds {α : Type} {g : Nat → Option α} (h : ∀ k, LeO (g k) (g (k + 1))) (k : Nat) : ∀ j, LeO (g k) (g (k + j))
  | 0 => LeO.refl _
  | j + 1 => (more_rounds h k j).trans (h (k + j))
theorem at_rounds {α : Type} {g : Nat → Option α} (h : ∀ k, LeO (g k) (g (k + 1))) {k k' : Nat} (hk : k ≤ k') {r : α} (hr : g k = some r) : g k' = some r := by
  have := more_rounds h k (k' - k) r hr
  rwa [Nat.add_sub_cancel' hk] at this
theorem together {α β : Type} {g : Nat → Option α} {f : Nat → Option β} (hg : ∀ k, LeO (g k) (g (k + 1))) (hf : ∀ k, LeO (f k) (f (k + 1))) {r : α} {q : β} (h : ∃ k, g k = some r) (h' : ∃ k, f k = some q) : ∃ k, g k = some r ∧ f k = some q := by
  obtain ⟨k, hk⟩ := h
  obtain ⟨k', hk'⟩ := h'
  exact ⟨max k k', at_rounds hg (Nat.le_max_left _ _) hk, at_rounds hf (Nat.le_max_right _ _) hk'⟩
def Reps {α : Type} (R : α → List Value → Prop) (size : Nat) (ps : List α) (cs : List Value) : Prop :=
  cs.length = ps.length * size ∧ ∀ j p, ps[j]? = some p → R p ((cs.drop (j * size)).take size)
theorem Reps.none {α : Type} (R : α → List Value → Prop) (size : Nat) : Reps R size [] [] := ⟨by simp, fun j p h => by simp at h⟩
theorem Reps.imp_ {α : Type} {R R' : α → List Value → Prop} {size : Nat} {ps : List α} {cs : List Value} (h : Reps R size ps cs) (hR : ∀ p c, R p c → R' p c) : Reps R' size ps cs := ⟨h.1, fun j p hj => hR _ _ (h.2 j p hj)⟩
def ReadsRow {α : Type} (R : α → List Value → Prop) (size : Nat) (w : World) (A : Option Addr) (n : Nat) (ps : List α) : Prop :=
  ps.length = n ∧ n ≤ 9223372036854775807 ∧ (0 < n → ∃ ad, A = some ad ∧ ∀ j p, ps[j]? = some p → ∃ c, c.length = size ∧ R p c ∧ ∀ i u, c[i]? = some u → w.cell? (ad.add (j * size + i)) = some u)
theorem ReadsRow.imp_ {α : Type} {R R' : α → List Value → Prop} {size : Nat} {w w1 : World} {A : Option Addr} {n : Nat} {ps : List α} (h : ReadsRow R size w A n ps) (hb : Below w.heap.size w w1) (hR : ∀ p c, R p c → R' p c) : ReadsRow R' size w1 A n ps :=
  ⟨h.1, h.2.1, fun hn => by
    obtain ⟨ad, e, hc⟩ := h.2.2 hn
    refine ⟨ad, e, fun j p hj => ?_⟩
    obtain ⟨c, hs, hr, hcell⟩ := hc j p hj
    exact ⟨c, hs, hR _ _ hr, fun i u hu => pw_cell_below hb (hcell i u hu)⟩⟩
theorem own_reads_row {α : Type} {R : α → List Value → Prop} {w : World} {base n size : Nat} {e : TypeId} {v : Value} {ps : List α} {cs : List Value} (h : w.ownsRow base e size v n cs) (hR : Reps R size ps cs) (hn : ps.length = n) :
    ∃ A c, v = .slice A n c ∧ ReadsRow R size w A n ps := by
  rcases Nat.eq_zero_or_pos n with h0 | h0
  · rcases h.2 with ⟨rfl, rfl⟩ | ⟨g, cap, cur, rfl, _⟩
    · exact ⟨none, 0, rfl, hn, by omega, fun hp => absurd hp (by omega)⟩
    · exact ⟨_, cap, rfl, hn, by omega, fun hp => absurd hp (by omega)⟩
  · obtain ⟨g, cap, rfl, _, _⟩ := h.form h0
    have hm : n ≤ 9223372036854775807 := by
      rcases h.2 with ⟨_, h1⟩ | ⟨g', cap', cur, he, _, _, h1, h2, _⟩
      · omega
      · simp only [maxLen] at h2
        omega
    refine ⟨_, cap, rfl, hn, hm, fun _ => ⟨_, rfl, fun j p hj => ⟨(cs.drop (j * size)).take size, ?_, hR.2 j p hj, fun i u hu => ?_⟩⟩⟩
    · have hjl := (List.getElem?_eq_some_iff.1 hj).1
      have h1 : j * size + size ≤ cs.length := by rw [hR.1, ← Nat.succ_mul]; exact Nat.mul_le_mul_right _ hjl
      rw [List.length_take, List.length_drop]
      omega
    · refine h.cells (g := g) rfl _ u ?_
      rw [List.getElem?_take] at hu
      split at hu
      · rw [List.getElem?_drop] at hu
        exact hu
      · cases hu
section
variable {P : Program} {ops : Array Oper} {rest : List Oper} {o : Oper} {a : Act} {Q : Exit → Act → World → Prop}
end
theorem own_ne {w : World} {base : Nat} {e t : TypeId} {size n g : Nat} {v : Value} {xs : List Value} {cs : Array Value} (h : w.ownsRow base e size v n xs) (hg : w.heap[g]? = some (.cells cs t (0, 0))) (hne : e ≠ t) : some g ≠ v.ownBlock := by
  rcases h.2 with ⟨rfl, _⟩ | ⟨g', cap, cur, rfl, _, hh, _⟩
  · simp [Value.ownBlock]
  · intro he
    have : g = g' := by simpa [Value.ownBlock] using he
    subst this
    rw [hg] at hh
    injection hh with hh
    injection hh with _ ht
    exact hne ht.symm
theorem blk_lt {w : World} {g : Nat} {o : Obj} (h : w.heap[g]? = some o) : g < w.heap.size := (Array.getElem?_eq_some_iff.1 h).1
def KeepBut (w w' : World) (g : Nat) (row : Option Nat) : Prop := w.heap.size ≤ w'.heap.size ∧ ∀ i, i < w.heap.size → i ≠ g → some i ≠ row → w'.heap[i]? = w.heap[i]?
theorem KeepBut.refl (w : World) (g : Nat) (row : Option Nat) : KeepBut w w g row := ⟨Nat.le_refl _, fun _ _ _ _ => rfl⟩
theorem KeepBut.of_below {w w1 : World} (h : Below w.heap.size w w1) (g : Nat) (row : Option Nat) : KeepBut w w1 g row := ⟨h.size, fun i hi _ _ => h.block i hi⟩
theorem KeepBut.trans {w w1 w2 : World} {g : Nat} {row row1 : Option Nat} (h : KeepBut w w1 g row) (k : KeepBut w1 w2 g row1) (hr : row1 = row ∨ ∃ b, row1 = some b ∧ w.heap.size ≤ b) : KeepBut w w2 g row :=
  ⟨Nat.le_trans h.1 k.1, fun i hi hg hn => by
    refine (k.2 i (Nat.lt_of_lt_of_le hi h.1) hg ?_).trans (h.2 i hi hg hn)
    rcases hr with rfl | ⟨b, rfl, hb⟩
    · exact hn
    · intro e
      injection e with e
      omega⟩
theorem KeepBut.blk {w w1 : World} {g g' : Nat} {row : Option Nat} {o : Obj} (h : KeepBut w w1 g row) (hb : w.heap[g']? = some o) (hg : g' ≠ g) (hr : some g' ≠ row) : w1.heap[g']? = some o := (h.2 g' (blk_lt hb) hg hr).trans hb
theorem KeepBut.own {w w1 : World} {g : Nat} {row : Option Nat} {base : Nat} {e : TypeId} {size n : Nat} {v : Value} {xs : List Value} (h : KeepBut w w1 g row) (ho : w.ownsRow base e size v n xs) (hg : v.ownBlock ≠ some g) (hr : v.ownBlock = none ∨ v.ownBlock ≠ row) : w1.ownsRow base e size v n xs := by
  obtain ⟨h1, h2⟩ := ho
  refine ⟨h1, ?_⟩
  rcases h2 with h2 | ⟨b, cap, cur, rfl, hb, hh, r⟩
  · exact .inl h2
  · refine .inr ⟨b, cap, cur, rfl, hb, h.blk hh ?_ ?_, r⟩
    · intro e
      exact hg (by rw [← e]; rfl)
    · rcases hr with hr | hr
      · simp [Value.ownBlock] at hr
      · exact hr
def Ev {α : Type} (g : Nat → Option α) (r : α) : Prop := ∃ K, ∀ k, K ≤ k → g k = some r
theorem Ev.of {α : Type} {g : Nat → Option α} {r : α} (hg : ∀ k, LeO (g k) (g (k + 1))) {k : Nat} (h : g k = some r) : Ev g r := ⟨k, fun _ hk => at_rounds hg hk h⟩
theorem Ev.bind {α β : Type} {g : Nat → Option α} {f : Nat → α → Option β} {a : α} {r : β} (h : Ev g a) (k : Ev (fun n => f n a) r) : Ev (fun n => (g n).bind (f n)) r := by
  obtain ⟨K, h⟩ := h
  obtain ⟨K', k⟩ := k
  refine ⟨max K K', fun n hn => ?_⟩
  have h1 := h n (by omega)
  have h2 := k n (by omega)
  simp only [h1, Option.bind_some]
  exact h2
theorem Ev.step {α : Type} {g f : Nat → Option α} {r : α} (h : ∀ k, g (k + 1) = f k) (k : Ev f r) : Ev g r := by
  obtain ⟨K, k⟩ := k
  refine ⟨K + 1, fun n hn => ?_⟩
  obtain ⟨m, rfl⟩ : ∃ m, n = m + 1 := ⟨n - 1, by omega⟩
  rw [h]
  exact k m (by omega)
section
variable {P : Program} {ops : Array Oper} {o : Oper} {a : Act} {Q : Exit → Act → World → Prop} {K : Act → World → Prop}
end
theorem own_weaken {w : World} {base base' : Nat} {e : TypeId} {size n : Nat} {v : Value} {xs : List Value} (h : w.ownsRow base e size v n xs) (hb : base' ≤ base) : w.ownsRow base' e size v n xs := by
  obtain ⟨h1, h2⟩ := h
  refine ⟨h1, ?_⟩
  rcases h2 with h2 | ⟨g, cap, cur, rfl, hg, r⟩
  · exact .inl h2
  · exact .inr ⟨g, cap, cur, rfl, Nat.le_trans hb hg, r⟩
section
variable {α : Type} {enc : α → Value} {d : α}
def encs (enc : α → Value) (xs : List α) : List Value := xs.map enc
def rdOf (d : α) (xs : List α) (i : Int) : α := xs.getD i.toNat d
theorem encs_length (xs : List α) : (encs enc xs).length = xs.length := by simp [encs]
def ReadsOf (enc : α → Value) (d : α) (w : World) (A : Option Addr) (n : Nat) (xs : List α) : Prop :=
  xs.length = n ∧ n ≤ 9223372036854775807 ∧ (0 < n → ∃ ad, A = some ad ∧ ∀ j, j < n → w.cell? (ad.add j) = some (enc (xs.getD j d)))
theorem ReadsOf.at_ {w : World} {A : Option Addr} {n : Nat} {xs : List α} (h : ReadsOf enc d w A n xs) (i : Int) (h0 : 0 ≤ i) (h1 : i < n) : ∃ ad, A = some ad ∧ w.cell? (ad.add i.toNat) = some (enc (rdOf d xs i)) := by
  obtain ⟨ad, e, hc⟩ := h.2.2 (by omega)
  exact ⟨ad, e, hc _ (by omega)⟩
theorem ReadsOf.below {w w1 : World} {A : Option Addr} {n : Nat} {xs : List α} (h : ReadsOf enc d w A n xs) (hb : Below w.heap.size w w1) : ReadsOf enc d w1 A n xs :=
  ⟨h.1, h.2.1, fun hn => by
    obtain ⟨ad, e, hc⟩ := h.2.2 hn
    exact ⟨ad, e, fun j hj => pw_cell_below hb (hc j hj)⟩⟩
end
section
variable {α : Type} {P : Program} {ops : Array Oper} {rest : List Oper} {o : Oper} {a : Act} {Q : Exit → Act → World → Prop}
end
theorem blk_new (w : World) (o : Obj) : (w.alloc o).heap[w.heap.size]? = some o := heap_alloc_new w o
section
variable {P : Program}
end
theorem own_le {w : World} {base n m c size : Nat} {e : TypeId} {A : Option Addr} {xs : List Value} (h : w.ownsRow base e size (.slice A m c) n xs) : m ≤ c := by
  rcases h.2 with ⟨he, _⟩ | ⟨g, cap, cur, he, _, _, hnc, _⟩
  · injection he with _ h2 h3
    omega
  · injection he with _ h2 h3
    omega
def OwnRow {α : Type} (R : α → List Value → Prop) (e : TypeId) (size : Nat) (w : World) (base : Nat) (v : Value) (ps : List α) : Prop :=
  ∃ inner, w.ownsRow base e size v ps.length inner ∧ Reps R size ps inner
section
variable {α : Type} {R R' : α → List Value → Prop} {e : TypeId} {size : Nat} {w w1 : World} {base : Nat} {v : Value} {ps : List α}
theorem OwnRow.imp_ (h : OwnRow R e size w base v ps) (hR : ∀ p c, R p c → R' p c) : OwnRow R' e size w base v ps := by
  obtain ⟨inner, ho, hr⟩ := h
  exact ⟨inner, ho, hr.imp_ hR⟩
theorem OwnRow.below (h : OwnRow R e size w base v ps) (hb : Below w.heap.size w w1) : OwnRow R e size w1 base v ps := by
  obtain ⟨inner, ho, hr⟩ := h
  exact ⟨inner, pw_own_below ho hb, hr⟩
theorem OwnRow.keep (h : OwnRow R e size w base v ps) {g : Nat} {t : TypeId} {cells : Array Value} (hb : w.heap[g]? = some (.cells cells t (0, 0))) (ht : e ≠ t) (hk : KeepBut w w1 g none) : OwnRow R e size w1 base v ps := by
  obtain ⟨inner, ho, hr⟩ := h
  exact ⟨inner, hk.own ho (Ne.symm (own_ne ho hb ht)) (by cases v.ownBlock <;> simp), hr⟩
theorem OwnRow.reads (h : OwnRow R e size w base v ps) : ∃ A c, v = .slice A ps.length c ∧ ps.length ≤ c ∧ ReadsRow R size w A ps.length ps := by
  obtain ⟨inner, ho, hr⟩ := h
  obtain ⟨A, c, rfl, hrow⟩ := own_reads_row ho hr rfl
  exact ⟨A, c, rfl, own_le ho, hrow⟩
theorem OwnRow.lit (W : World) (base : Nat) {inner : List Value} (hr : Reps R size ps inner) (hb : base ≤ W.heap.size) (hm : ps.length ≤ 9223372036854775807) :
    OwnRow R e size (W.alloc (.cells inner.toArray e)) base (.slice (some ⟨W.heap.size, 0, none⟩) ps.length ps.length) ps := by
  have h := World.ownsRow_lit (base := base) (e := e) (size := size) W inner.toArray ps.length hb (by simpa [maxLen] using hm) (by simpa using hr.1)
  exact ⟨inner, by simpa using h, hr⟩
end
section
variable {P : Program} {ops : Array Oper} {rest : List Oper} {o : Oper} {a : Act} {Q : Exit → Act → World → Prop} {α : Type} {R : α → List Value → Prop}
end
section
variable {P : Program} {ops : Array Oper} {o : Oper} {a : Act} {Q : Exit → Act → World → Prop} {K : Act → World → Prop} {α : Type} {R : α → List Value → Prop}
end
section
variable {α : Type} {P : Program}
end
section
variable {P : Program} {ops : Array Oper} {rest : List Oper} {o : Oper} {a : Act} {Q : Exit → Act → World → Prop}
end
structure Kd (α : Type) where
  sz : Nat
  E : List Nat
  K : World → α → List Value → Prop
  M : World → Nat → (Nat → Prop) → α → List Value → Prop
  K_len : ∀ {w x cs}, K w x cs → cs.length = sz
  K_one : ∀ {w x cs}, K w x cs → ∀ u ∈ cs, u.oneCell' = true
  K_below : ∀ {w w1 : World} {x cs}, Below w.heap.size w w1 → K w x cs → K w1 x cs
  K_of_M : ∀ {w base ok x cs}, M w base ok x cs → K w x cs
  M_mono : ∀ {w base ok ok' x cs}, (∀ k, ok k → ok' k) → M w base ok x cs → M w base ok' x cs
  M_bound : ∀ {w : World} {base ok x cs}, M w base ok x cs → M w base (fun k => ok k ∧ base ≤ k ∧ k < w.heap.size ∧ ∃ q, q ∈ E ∧ ∃ cells, w.heap[k]? = some (.cells cells q (0, 0))) x cs
  M_move : ∀ {w w1 : World} {base ok x cs}, (∀ k, ok k → w1.heap[k]? = w.heap[k]?) → M w base ok x cs → M w1 base ok x cs
  M_lower : ∀ {w base base' ok x cs}, base' ≤ base → M w base ok x cs → M w base' ok x cs
theorem own_move {w w1 : World} {base : Nat} {e : TypeId} {size n : Nat} {v : Value} {xs : List Value} (h : w.ownsRow base e size v n xs) (hm : ∀ k, v.ownBlock = some k → w1.heap[k]? = w.heap[k]?) : w1.ownsRow base e size v n xs := by
  obtain ⟨h1, h2⟩ := h
  refine ⟨h1, ?_⟩
  rcases h2 with h2 | ⟨g, cap, cur, rfl, hg, hh, r⟩
  · exact .inl h2
  · exact .inr ⟨g, cap, cur, rfl, hg, (hm g (by simp [Value.ownBlock])).trans hh, r⟩
theorem own_typed {w : World} {base : Nat} {e : TypeId} {size n : Nat} {v : Value} {xs : List Value} (h : w.ownsRow base e size v n xs) (k : Nat) (hk : v.ownBlock = some k) : ∃ cells, w.heap[k]? = some (.cells cells e (0, 0)) := by
  rcases h.2 with ⟨rfl, _⟩ | ⟨g, cap, cur, rfl, hg, hh, r⟩
  · simp [Value.ownBlock] at hk
  · have : g = k := by simpa [Value.ownBlock] using hk
    subst this
    exact ⟨cur, hh⟩
namespace Kd
def C {α : Type} (d : Kd α) (w : World) (A : Option Addr) (n : Nat) (xs : List α) : Prop := ReadsRow (d.K w) d.sz w A n xs
def R {α : Type} (d : Kd α) (e : Nat) (w : World) (base : Nat) (ok : Nat → Prop) (v : Value) (xs : List α) : Prop :=
  (∀ k, v.ownBlock = some k → ok k) ∧ OwnRow (d.M w base (fun k => ok k ∧ some k ≠ v.ownBlock)) e d.sz w base v xs
section
variable {α : Type} {d : Kd α} {e : Nat} {w w1 : World} {base : Nat} {ok ok' : Nat → Prop} {v : Value} {xs : List α}
theorem C_below {A : Option Addr} {n : Nat} (h : d.C w A n xs) (hb : Below w.heap.size w w1) : d.C w1 A n xs := ReadsRow.imp_ h hb (fun _ _ hp => d.K_below hb hp)
theorem R_mono (h : d.R e w base ok v xs) (hok : ∀ k, ok k → ok' k) : d.R e w base ok' v xs := ⟨fun k hk => hok k (h.1 k hk), h.2.imp_ (fun _ _ hp => d.M_mono (fun k hk => ⟨hok k hk.1, hk.2⟩) hp)⟩
theorem R_bound (h : d.R e w base ok v xs) : d.R e w base (fun k => ok k ∧ base ≤ k ∧ k < w.heap.size ∧ ∃ q, q ∈ e :: d.E ∧ ∃ cells, w.heap[k]? = some (.cells cells q (0, 0))) v xs := by
  obtain ⟨h0, inner, ho, hr⟩ := h
  refine ⟨fun k hk => ?_, inner, ho, hr.imp_ (fun _ _ hp => d.M_mono (fun k hk => ?_) (d.M_bound hp))⟩
  · obtain ⟨cells, hc⟩ := own_typed ho k hk
    exact ⟨h0 k hk, own_base ho k hk, own_lt ho k hk, e, List.mem_cons_self, cells, hc⟩
  · obtain ⟨⟨h1, h2⟩, h3, h4, q, hq, hc⟩ := hk
    exact ⟨⟨h1, h3, h4, q, List.mem_cons_of_mem _ hq, hc⟩, h2⟩
theorem R_move (h : d.R e w base ok v xs) (hm : ∀ k, ok k → w1.heap[k]? = w.heap[k]?) : d.R e w1 base ok v xs := by
  obtain ⟨h0, inner, ho, hr⟩ := h
  exact ⟨h0, inner, own_move ho (fun k hk => hm k (h0 k hk)), hr.imp_ (fun _ _ hp => d.M_move (fun k hk => hm k hk.1) hp)⟩
theorem R_lower {base' : Nat} (h : d.R e w base ok v xs) (hb : base' ≤ base) : d.R e w base' ok v xs := by
  obtain ⟨h0, inner, ho, hr⟩ := h
  exact ⟨h0, inner, own_weaken ho hb, hr.imp_ (fun _ _ hp => d.M_lower hb hp)⟩
theorem R_step (h : d.R e w base ok v xs) (hm : ∀ k, ok k → k < w.heap.size → w1.heap[k]? = w.heap[k]?) : d.R e w1 base ok v xs :=
  R_mono (R_move (R_bound h) (fun k hk => hm k hk.1 hk.2.2.1)) (fun _ hk => hk.1)
theorem R_below (h : d.R e w base ok v xs) (hb : Below w.heap.size w w1) : d.R e w1 base ok v xs := R_step h (fun k _ hk => hb.block k hk)
theorem R_reads (h : d.R e w base ok v xs) : ∃ A c, v = .slice A xs.length c ∧ xs.length ≤ c ∧ d.C w A xs.length xs := by
  obtain ⟨A, c, he, hl, hr⟩ := OwnRow.reads h.2
  exact ⟨A, c, he, hl, hr.imp_ (Below.refl _ _) (fun _ _ hp => d.K_of_M hp)⟩
theorem R_slice (h : d.R e w base ok v xs) : ∃ A c, v = .slice A xs.length c := by
  obtain ⟨A, c, he, _⟩ := R_reads h
  exact ⟨A, c, he⟩
end
def scalar {α : Type} (enc : α → Value) (h1 : ∀ x, (enc x).oneCell' = true) : Kd α where
  sz := 1
  E := []
  K := fun _ x cs => cs = [enc x]
  M := fun _ _ _ x cs => cs = [enc x]
  K_len := fun h => by rw [h]; rfl
  K_one := fun h u hu => by
    rw [h] at hu
    rw [List.mem_singleton.1 hu]
    exact h1 _
  K_below := fun _ h => h
  K_of_M := fun h => h
  M_mono := fun _ h => h
  M_bound := fun h => h
  M_move := fun _ h => h
  M_lower := fun _ h => h
def int (k : IntKind) : Kd Int := scalar (Value.int k) (fun _ => rfl)
def bool : Kd Bool := scalar Value.bool (fun _ => rfl)
def string : Kd ByteArray := scalar Value.string (fun _ => rfl)
def slice {α : Type} (e : Nat) (d : Kd α) : Kd (List α) where
  sz := 1
  E := e :: d.E
  K := fun w xs cs => ∃ A c, cs = [.slice A xs.length c] ∧ xs.length ≤ c ∧ d.C w A xs.length xs
  M := fun w base ok xs cs => ∃ v, cs = [v] ∧ d.R e w base ok v xs
  K_len := by
    rintro w x cs ⟨A, c, rfl, _⟩
    rfl
  K_one := by
    rintro w x cs ⟨A, c, rfl, _⟩ u hu
    rw [List.mem_singleton.1 hu]
    rfl
  K_below := by
    rintro w w1 x cs hb ⟨A, c, rfl, hl, hr⟩
    exact ⟨A, c, rfl, hl, C_below hr hb⟩
  K_of_M := by
    rintro w base ok x cs ⟨v, rfl, h⟩
    obtain ⟨A, c, rfl, hl, hr⟩ := R_reads h
    exact ⟨A, c, rfl, hl, hr⟩
  M_mono := by
    rintro w base ok ok' x cs hok ⟨v, rfl, h⟩
    exact ⟨v, rfl, R_mono h hok⟩
  M_bound := by
    rintro w base ok x cs ⟨v, rfl, h⟩
    exact ⟨v, rfl, R_bound h⟩
  M_move := by
    rintro w w1 base ok x cs hm ⟨v, rfl, h⟩
    exact ⟨v, rfl, R_move h hm⟩
  M_lower := by
    rintro w base base' ok x cs hb ⟨v, rfl, h⟩
    exact ⟨v, rfl, R_lower h hb⟩
def bot {α : Type} (sz : Nat) (E : List Nat) : Kd α where
  sz := sz
  E := E
  K := fun _ _ _ => False
  M := fun _ _ _ _ _ => False
  K_len := fun h => h.elim
  K_one := fun h => h.elim
  K_below := fun _ h => h
  K_of_M := fun h => h
  M_mono := fun _ h => h
  M_bound := fun h => h
  M_move := fun _ h => h
  M_lower := fun _ h => h
def upto {α : Type} (F : Kd α → Kd α) (sz : Nat) (E : List Nat) : Nat → Kd α
  | 0 => bot sz E
  | n + 1 => F (upto F sz E n)
section
variable {P : Program} {ops : Array Oper} {rest : List Oper} {o : Oper} {a : Act} {Q : Exit → Act → World → Prop} {α : Type}
end
section
variable {P : Program} {ops : Array Oper} {o : Oper} {a : Act} {Q : Exit → Act → World → Prop} {Kc : Act → World → Prop} {α : Type}
end
theorem reps_scalar {α : Type} {enc : α → Value} (xs : List α) : Reps (fun (x : α) (cs : List Value) => cs = [enc x]) 1 xs (encs enc xs) := by
  refine ⟨by simp [encs], fun j p hj => ?_⟩
  obtain ⟨hl, hp⟩ := List.getElem?_eq_some_iff.1 hj
  have hl' : j < (encs enc xs).length := by rw [encs_length]; exact hl
  rw [Nat.mul_one, List.drop_eq_getElem_cons hl']
  simp [encs, hp]
theorem R_of_own {α : Type} {enc : α → Value} {h1 : ∀ x, (enc x).oneCell' = true} {e : Nat} {w : World} {base : Nat} {ok : Nat → Prop} {v : Value} {xs : List α} (ho : w.ownsRow base e 1 v xs.length (encs enc xs)) (hok : ∀ k, v.ownBlock = some k → ok k) : (scalar enc h1).R e w base ok v xs := ⟨hok, encs enc xs, ho, reps_scalar xs⟩
theorem reads_of_C {α : Type} {enc : α → Value} {d : α} {h1 : ∀ x, (enc x).oneCell' = true} {w : World} {A : Option Addr} {n : Nat} {xs : List α} (h : (scalar enc h1).C w A n xs) : ReadsOf enc d w A n xs := by
  refine ⟨h.1, h.2.1, fun hn => ?_⟩
  obtain ⟨ad, e, hc⟩ := h.2.2 hn
  refine ⟨ad, e, fun j hj => ?_⟩
  have hl : j < xs.length := by have := h.1; omega
  obtain ⟨c, _, hK, hcell⟩ := hc j _ (List.getElem?_eq_getElem hl)
  have hK' : c = [enc xs[j]] := hK
  subst hK'
  have := hcell 0 _ rfl
  simpa [scalar, List.getD_eq_getElem?_getD, List.getElem?_eq_getElem hl] using this
end Kd
namespace Kd
structure Mono {α β : Type} (F : Kd α → Kd β) : Prop where
  sz : ∀ d d' : Kd α, d.sz = d'.sz → (F d).sz = (F d').sz
  K : ∀ d d' : Kd α, d.sz = d'.sz → (∀ w x cs, d.K w x cs → d'.K w x cs) → ∀ w x cs, (F d).K w x cs → (F d').K w x cs
  M : ∀ d d' : Kd α, d.sz = d'.sz → (∀ w base ok x cs, d.M w base ok x cs → d'.M w base ok x cs) → ∀ w base ok x cs, (F d).M w base ok x cs → (F d').M w base ok x cs
section
variable {α : Type} {F : Kd α → Kd α} {sz : Nat} {E : List Nat} {hs : ∀ n, (upto F sz E n).sz = sz} {hE : ∀ n q, q ∈ (upto F sz E n).E → q ∈ E}
end
end Kd
namespace Kd
end Kd
namespace Kd
section
variable {α β : Type} {d : Kd α} {d' : Kd β} {e e' : Nat} {w w1 W : World} {base b b' : Nat} {ok ok' okv oku : Nat → Prop} {v u : Value} {xs : List α} {ys : List β}
theorem R_alloc (h : d.R e w base ok v xs) (o : Obj) : d.R e (w.alloc o) base ok v xs := R_below h (below_alloc (Below.refl _ _) o)
theorem R_drew (h : d.R e w base ok v xs) : d.R e w.drew base ok v xs := R_below h (below_drew (Below.refl _ _))
theorem R_drewN (h : d.R e w base ok v xs) (m : Nat) : d.R e (w.drewN m) base ok v xs := R_below h (pw_below_drewN (Below.refl _ _) m)
theorem R_reads' {A : Option Addr} {n c : Nat} (h : d.R e w base ok (.slice A n c) xs) : n = xs.length ∧ n ≤ c ∧ d.C w A xs.length xs := by
  obtain ⟨A', c', he, hl, hr⟩ := R_reads h
  injection he with h1 h2 h3
  subst h1
  exact ⟨h2, by omega, hr⟩
end
section
variable {w W : World} {A : Option Addr} {n : Nat}
theorem at_string {xs : List ByteArray} (h : Kd.string.C w A n xs) (i : Int) (h0 : 0 ≤ i) (h1 : i < n) : ∃ ad, A = some ad ∧ w.cell? (ad.add i.toNat) = some (.string (rdOf ByteArray.empty xs i)) :=
  ReadsOf.at_ (reads_of_C (enc := Value.string) (d := ByteArray.empty) (h1 := fun _ => rfl) h) i h0 h1
variable {α : Type} {enc : α → Value} {h1 : ∀ x, (enc x).oneCell' = true} {e base g cap : Nat} {ok : Nat → Prop} {xs : List α}
end
section
variable {P : Program} {ops : Array Oper} {rest : List Oper} {o : Oper} {a : Act} {Q : Exit → Act → World → Prop}
variable {α : Type}
end
end Kd
section
variable {P : Program}
end
def QRow (w : World) (base : Nat) (e : TypeId) (size : Nat) (v : Value) (n : Nat) (xs : List Value) : Prop :=
  xs.length = n * size ∧
  ((n = 0 ∧ ∃ A, v = .slice A 0 0 ∧ ∀ a, A = some a → base ≤ a.block ∧ ∃ cur, w.heap[a.block]? = some (.cells cur e (0, 0))) ∨
   ∃ g off cap cur, v = .slice (some ⟨g, off * size, none⟩) n cap ∧ base ≤ g ∧ w.heap[g]? = some (.cells cur e (0, 0)) ∧ n ≤ cap ∧ off + cap ≤ maxLen ∧ cur.size = (off + cap) * size ∧ (cur.toList.drop (off * size)).take (n * size) = xs)
section
variable {w w1 : World} {base n size : Nat} {e : TypeId} {v : Value} {xs : List Value}
end
section
variable {P : Program}
end
namespace Kd
def Q {α : Type} (d : Kd α) (e : Nat) (w : World) (base : Nat) (ok : Nat → Prop) (v : Value) (xs : List α) : Prop :=
  (∀ k, v.ownBlock = some k → ok k) ∧ ∃ inner, QRow w base e d.sz v xs.length inner ∧ Reps (d.M w base (fun k => ok k ∧ some k ≠ v.ownBlock)) d.sz xs inner
section
variable {α : Type} {d : Kd α} {e : Nat} {w w1 W : World} {base : Nat} {ok ok' : Nat → Prop} {v : Value} {xs : List α}
end
section
variable {P : Program} {ops : Array Oper} {rest : List Oper} {o : Oper} {a : Act} {Q' : Exit → Act → World → Prop} {Kc : Act → World → Prop} {α : Type}
end
end Kd
namespace Kd
section
variable {α : Type} {d : Kd α} {e e' : Nat} {w w1 W : World} {base : Nat} {ok : Nat → Prop} {u v : Value} {xs : List α}
end
end Kd
namespace Kd
section
variable {α : Type} {d : Kd α} {e base g n cap : Nat} {ok okp : Nat → Prop} {W : World} {xs : List α}
end
end Kd
namespace Kd
section
variable {α : Type} {F : Kd α → Kd α} {sz : Nat} {E : List Nat} {hs : ∀ n, (upto F sz E n).sz = sz} {hE : ∀ n q, q ∈ (upto F sz E n).E → q ∈ E}
end
end Kd
namespace Kd
section
variable {P : Program} {ops : Array Oper} {rest : List Oper} {o : Oper} {a : Act} {Q : Exit → Act → World → Prop} {α : Type}
end
end Kd
namespace Kd
section
variable {P : Program} {ops : Array Oper} {rest : List Oper} {o : Oper} {a : Act} {Q : Exit → Act → World → Prop} {α : Type}
end
end Kd
namespace Kd
section
variable {α : Type} {k : Kd α} {w : World} {A : Option Addr} {xs : List α} {m c : Nat}
end
end Kd
section
variable {P : Program}
end
theorem below_size {w W : World} (h : Below w.heap.size w W) : w.heap.size ≤ W.heap.size := h.size
theorem below_step {w W w2 : World} (h : Below w.heap.size w W) (k : Below W.heap.size W w2) : Below w.heap.size w w2 := below_then h h.size k
theorem ReadsInt.nil (W : World) (k : IntKind) : ReadsInt W k none ([] : List Int).length [] := ⟨rfl, by simp, fun h => absurd h (Nat.lt_irrefl 0)⟩
theorem ReadsInt.drewN {W : World} {k : IntKind} {A : Option Addr} {n : Nat} {xs : List Int} (h : ReadsInt W k A n xs) (m : Nat) : ReadsInt (W.drewN m) k A n xs := h
theorem below_set {w W : World} {g j : Nat} {v : Value} (h : Below w.heap.size w W) (hg : w.heap.size ≤ g) : Below w.heap.size w (W.setCell ⟨g, j, none⟩ v) := h.setCell hg _
theorem keep_cell {w W : World} {g : Nat} (h : KeepBut w W g none) {a : Addr} {v : Value} (hc : w.cell? a = some v) (hne : a.block ≠ g) : W.cell? a = some v := by
  have := h.2 a.block (World.block_lt_of_cell? w a hc) hne (by simp)
  simpa [World.cell?, this] using hc
theorem add_block (a : Addr) (i : Nat) : (a.add i).block = a.block := by unfold Addr.add; split <;> rfl
theorem ReadsOf.nil {α : Type} (enc : α → Value) (d : α) (W : World) : ReadsOf enc d W none ([] : List α).length [] := ⟨rfl, by simp, fun h => absurd h (Nat.lt_irrefl 0)⟩
theorem ReadsOf.drewN {α : Type} {enc : α → Value} {d : α} {W : World} {A : Option Addr} {n : Nat} {xs : List α} (h : ReadsOf enc d W A n xs) (m : Nat) : ReadsOf enc d (W.drewN m) A n xs := h
theorem ReadsInt.keep {w W : World} {k : IntKind} {A : Option Addr} {n g : Nat} {xs : List Int} (h : ReadsInt w k A n xs) (hk : KeepBut w W g none) (hf : ∀ ad, A = some ad → 0 < n → ad.block ≠ g) : ReadsInt W k A n xs :=
  ⟨h.1, h.2.1, fun hn => by
    obtain ⟨ad, e, hc⟩ := h.2.2 hn
    exact ⟨ad, e, fun j hj => keep_cell hk (hc j hj) (by rw [add_block]; exact hf ad e hn)⟩⟩
theorem ReadsOf.keep {α : Type} {enc : α → Value} {d : α} {w W : World} {A : Option Addr} {n g : Nat} {xs : List α} (h : ReadsOf enc d w A n xs) (hk : KeepBut w W g none) (hf : ∀ ad, A = some ad → 0 < n → ad.block ≠ g) : ReadsOf enc d W A n xs :=
  ⟨h.1, h.2.1, fun hn => by
    obtain ⟨ad, e, hc⟩ := h.2.2 hn
    exact ⟨ad, e, fun j hj => keep_cell hk (hc j hj) (by rw [add_block]; exact hf ad e hn)⟩⟩
theorem below_drew1 {base : Nat} {w W : World} (h : Below base w W) : Below base w W.drew := h.drew
namespace Kd
section
variable {α β : Type} {d : Kd α} {d' : Kd β} {e e' base base' n : Nat} {ok ok' : Nat → Prop} {w W w1 W1 : World} {v u : Value} {xs : List α} {ys : List β} {A : Option Addr} {c : Nat}
end
section
variable {α : Type} {enc : α → Value} {h1 : ∀ x, (enc x).oneCell' = true} {w W : World} {A : Option Addr} {n g : Nat} {xs : List α}
end
end Kd
namespace Kd
section
variable {α : Type} {d : Kd α} {e base g : Nat} {ok : Nat → Prop} {w w1 : World} {v : Value} {xs : List α} {o : Obj}
end
end Kd
section
variable {P : Program} {ops : Array Oper} {rest : List Oper} {o : Oper} {a : Act} {Q : Exit → Act → World → Prop}
end
namespace Kd
section
variable {α : Type} {enc : α → Value} {h1 : ∀ x, (enc x).oneCell' = true} {e base g n cap : Nat} {ok : Nat → Prop} {W : World} {xs : List α}
end
end Kd
section
variable {P : Program} {ops : Array Oper} {rest : List Oper} {o : Oper} {a : Act} {Q : Exit → Act → World → Prop}
end
namespace Kd
section
variable {α : Type} {enc : α → Value} {h1 : ∀ x, (enc x).oneCell' = true} {e base g n cap : Nat} {ok : Nat → Prop} {W : World} {xs : List α}
end
end Kd
section
variable {P : Program} {ops : Array Oper} {rest : List Oper} {o : Oper} {a : Act} {Q : Exit → Act → World → Prop} {W : World}
end
section
variable {P : Program} {ops : Array Oper} {o : Oper} {a : Act} {Q : Exit → Act → World → Prop} {Kc : Act → World → Prop}
namespace Kd
variable {α : Type}
end Kd
end
section
variable {P : Program} {tmps : Array Value} {w : World}
end
namespace Kd
section
variable {P : Program} {α : Type}
end
section
variable {P : Program} {ops : Array Oper} {rest : List Oper} {o : Oper} {a : Act} {Q : Exit → Act → World → Prop} {Kc : Act → World → Prop} {α : Type}
end
end Kd
end Go.Proofs.YtipmphgkdomebaaDoorW.PrintWords
namespace Go.Proofs.YtipmphgkdomebaaDoorW.PrintLast
open Go.Proofs.YtipmphgkdomebaaDoorW.PrintWords (Aside0)
def needsOf (md : Region.Mode) (o : Oper) : List Nat := (o.after.toList.filter (fun e => Region.binds md e)).map (fun e => e.on)
def clashOf (md : Region.Mode) (ops : Array Oper) (i : Nat) (oi : Oper) : List Nat := (List.range ops.size).filter fun j => !(j == i) && match ops[j]? with
  | some oj => !(oj.after.any (fun e => Region.binds md e && e.on == i) || oi.apart ops oj)
  | none => false
def rtab (md : Region.Mode) (ops : Array Oper) : Bool × List (List Nat × List Nat) := (Region.noSelect ops, (List.range ops.size).map fun i => match ops[i]? with
  | some o => (needsOf md o, clashOf md ops i o)
  | none => ([], []))
def readyAt (T : List (List Nat × List Nat)) (l : List Bool) (i : Nat) : Bool := !l.getD i true && match T[i]? with
  | some r => r.1.all (fun j => l.getD j false)
  | none => false
def readyT (T : List (List Nat × List Nat)) (l : List Bool) : List Nat := (List.range T.length).filter (readyAt T l)
section
variable {md : Region.Mode} {ops : Array Oper} {T : Bool × List (List Nat × List Nat)} {l l' li lj lk : Array Bool} {ds : List Nat} {i j k : Nat}
theorem gd (l : Array Bool) (j : Nat) (b : Bool) : l.getD j b = l.toList.getD j b := by simp [Array.getD_eq_getD_getElem?, List.getD_eq_getElem?_getD]
theorem needs_all (o : Oper) (p : Nat → Bool) : o.after.all (fun e => !Region.binds md e || p e.on) = (needsOf md o).all p := by
  unfold needsOf
  rw [← Array.all_toList]
  induction o.after.toList with
  | nil => rfl
  | cons e r ih =>
    rw [List.all_cons, ih, List.filter_cons]
    cases h : Region.binds md e <;> simp
theorem rtab_length : (rtab md ops).2.length = ops.size := by simp [rtab]
theorem rtab_some {o : Oper} (h : ops[i]? = some o) : (rtab md ops).2[i]? = some (needsOf md o, clashOf md ops i o) := by
  have hi := (Array.getElem?_eq_some_iff.1 h).1
  unfold rtab
  rw [List.getElem?_map, List.getElem?_range hi, Option.map_some, h]
theorem rtab_none (h : ops[i]? = none) : (rtab md ops).2[i]? = none := by
  have hi : ops.size ≤ i := Array.getElem?_eq_none_iff.1 h
  exact List.getElem?_eq_none (by rw [rtab_length]; exact hi)
theorem readyAt_eq : readyAt (rtab md ops).2 l.toList i = (!l.getD i true && ((ops[i]?).map (·.after.all fun e => !Region.binds md e || l.getD e.on false)).getD false) := by
  unfold readyAt
  rw [gd]
  cases h : ops[i]? with
  | none => rw [rtab_none h]; rfl
  | some o =>
    rw [rtab_some h]
    simp only [Option.map_some, Option.getD_some]
    rw [← needs_all]
    simp only [gd]
theorem ready_eq : Region.ready md ops l = readyT (rtab md ops).2 l.toList := by
  unfold Region.ready readyT
  rw [rtab_length]
  refine List.filter_congr (fun i _ => ?_)
  rw [readyAt_eq]
def upM (B : List Nat) (d : Nat) : List Nat → Nat
  | [] => 0
  | n :: r => (2 ^ n ||| (if n < d then B.getD n 0 else 0)) ||| upM B d r
def waitsOk (T : List (List Nat × List Nat)) (B : List Nat) : Bool := (List.range T.length).all fun d => match T[d]? with
  | some r => (B.getD d 0 ||| upM B d r.1) == upM B d r.1
  | none => false
theorem upM_bit {B : List Nat} {d i : Nat} : ∀ {ns : List Nat}, (upM B d ns).testBit i = true → ∃ n ∈ ns, n = i ∨ (n < d ∧ (B.getD n 0).testBit i = true)
  | [], h => by simp [upM] at h
  | n :: r, h => by
    unfold upM at h
    rw [Nat.testBit_or, Nat.testBit_or, Bool.or_eq_true, Bool.or_eq_true] at h
    rcases h with (h | h) | h
    · rw [Nat.testBit_two_pow] at h
      exact ⟨n, List.mem_cons_self, .inl (by simpa using h)⟩
    · by_cases hn : n < d
      · rw [if_pos hn] at h
        exact ⟨n, List.mem_cons_self, .inr ⟨hn, h⟩⟩
      · rw [if_neg hn] at h
        simp at h
    · obtain ⟨m, hm, h2⟩ := upM_bit h
      exact ⟨m, List.mem_cons_of_mem _ hm, h2⟩
theorem with_tabW {P : Program} {Q : Exit → Act → World → Prop} {S : World → Prop} {n : Nat} {a : Act} {w : World} {B : List Nat} (hT : rtab md ops = T) (hB : waitsOk T.2 B = true) (h : Aside0 (rtab md ops = T) → Aside0 (waitsOk T.2 B = true) → wpAnyLast P md ops Q S ds n l a w) : wpAnyLast P md ops Q S ds n l a w := h ⟨hT⟩ ⟨hB⟩
end
def opsIn : Code → Nat → Option (Array Oper)
  | .region id ops _, k => if id == k then some ops else none
  | .seq a b, k => match opsIn a k with
    | some o => some o
    | none => opsIn b k
  | .cond _ a b, k => match opsIn a k with
    | some o => some o
    | none => opsIn b k
  | .block _ c, k => opsIn c k
  | .loop c, k => opsIn c k
  | .scope c, k => opsIn c k
  | .rangeFunc _ _ a b, k => match opsIn a k with
    | some o => some o
    | none => opsIn b k
  | _, _ => none
def opsOf (f : Func) (k : Nat) : Array Oper := ((f.body.bind fun c => opsIn c k)).getD #[]
end Go.Proofs.YtipmphgkdomebaaDoorW.PrintLast
namespace Go.Proofs.YtipmphgkdomebaaDoorW.PrintLast
def up (b : Nat → Bool) (i : Nat) : Nat → Bool := fun j => if j = i then true else b j
theorem up_self (b : Nat → Bool) (i : Nat) : up b i i = true := by simp [up]
theorem up_ne {b : Nat → Bool} {i j : Nat} (h : j ≠ i) : up b i j = b j := by simp [up, h]
def lof (n : Nat) (O : List Nat) (b : Nat → Bool) : List Bool := (List.range n).map fun j => if O.contains j then b j else true
def putSel (a : Act) (b : Nat → Bool) : List (Nat × Tmp × Value) → Act
  | [] => a
  | e :: r => putSel (if b e.1 = true then a.put (some e.2.1) e.2.2 else a) b r
section
variable {P : Program} {ops : Array Oper} {Q : Exit → Act → World → Prop} {md : Region.Mode} {T : Bool × List (List Nat × List Nat)} {B : List Nat} {O : List Nat} {b : Nat → Bool} {i j n : Nat}
theorem lof_length : (lof n O b).length = n := by simp [lof]
theorem lof_get {d : Bool} (hj : j < n) : (lof n O b).getD j d = if O.contains j then b j else true := by
  simp [lof, List.getD_eq_getElem?_getD, hj]
theorem lof_up (hi : O.contains i = true) : (lof n O b).set i true = lof n O (up b i) := by
  apply List.ext_getElem?
  intro j
  by_cases hj : j < n
  · by_cases hij : i = j
    · subst hij
      have hl : i < (lof n O b).length := by rw [lof_length]; exact hj
      rw [List.getElem?_set_self hl]
      simp only [lof, List.getElem?_map, List.getElem?_range hj, Option.map_some, hi, if_true, up_self]
    · rw [List.getElem?_set_ne hij]
      simp only [lof, List.getElem?_map, List.getElem?_range hj, Option.map_some]
      rw [up_ne (Ne.symm hij)]
  · rw [List.getElem?_eq_none (by simp [lof]; omega), List.getElem?_eq_none (by simp [lof]; omega)]
def StepAt (P : Program) (ops : Array Oper) (Q : Exit → Act → World → Prop) (B : List Nat) (O : List Nat) (I : (Nat → Bool) → Act → World → Prop) (i : Nat) : Prop :=
  ∀ b a w, I b a w → b i = false → (∀ j, (O.contains j && (B.getD i 0).testBit j) = true → b j = true) → (∀ d, (O.contains d && (B.getD d 0).testBit i) = true → b d = false) →
    ∃ oi, ops[i]? = some oi ∧ ∀ K : Act → World → Prop, Shut (∀ a' w', I (up b i) a' w' → K a' w') → if Region.wanted oi (yielded ops a.tmps) = true then Oper.wp P oi a w K Q else K (a.put oi.dst undef) w
theorem steps_nil {I : (Nat → Bool) → Act → World → Prop} : ∀ i ∈ ([] : List Nat), StepAt P ops Q B O I i := fun _ h => by cases h
theorem steps_cons {I : (Nat → Bool) → Act → World → Prop} {rs : List Nat} (h : StepAt P ops Q B O I i) (hs : ∀ j ∈ rs, StepAt P ops Q B O I j) : ∀ j ∈ i :: rs, StepAt P ops Q B O I j := fun j hj => by
  rcases List.mem_cons.1 hj with rfl | hj
  · exact h
  · exact hs j hj
def baseOk (T : List (List Nat × List Nat)) (O : List Nat) : Bool :=
  (List.range T.length).all (fun d => match T[d]? with
    | some r => (O.contains d || r.1.all fun n => !O.contains n) && r.1.all fun n => decide (n < d)
    | none => false) && O.all (fun i => decide (i < T.length)) && decide O.Nodup
theorem baseOk_row {T : List (List Nat × List Nat)} (h : baseOk T O = true) {d : Nat} {r : List Nat × List Nat} (hr : T[d]? = some r) : (O.contains d = false → ∀ n ∈ r.1, O.contains n = false) ∧ ∀ n ∈ r.1, n < d := by
  simp only [baseOk, Bool.and_eq_true] at h
  have h1 := List.all_eq_true.1 h.1.1 d (List.mem_range.2 (List.getElem?_eq_some_iff.1 hr).1)
  rw [hr] at h1
  simp only [Bool.and_eq_true, Bool.or_eq_true, List.all_eq_true, decide_eq_true_eq] at h1
  refine ⟨fun hd n hn => ?_, h1.2⟩
  rcases h1.1 with h2 | h2
  · rw [hd] at h2; cases h2
  · simpa using h2 n hn
theorem baseOk_lt {T : List (List Nat × List Nat)} (h : baseOk T O = true) {i : Nat} (hi : i ∈ O) : i < T.length := by
  simp only [baseOk, Bool.and_eq_true] at h
  simpa using List.all_eq_true.1 h.1.2 i hi
theorem baseOk_nodup {T : List (List Nat × List Nat)} (h : baseOk T O = true) : O.Nodup := by
  simp only [baseOk, Bool.and_eq_true] at h
  exact of_decide_eq_true h.2
def Closed (T : List (List Nat × List Nat)) (O : List Nat) (b : Nat → Bool) : Prop := ∀ d r, T[d]? = some r → O.contains d = true → b d = true → ∀ n ∈ r.1, O.contains n = true → b n = true
theorem bits_out {T : List (List Nat × List Nat)} (hw : waitsOk T B = true) (hk : baseOk T O = true) : ∀ (m d : Nat), d ≤ m → d < T.length → O.contains d = false → ∀ j, (B.getD d 0).testBit j = true → O.contains j = false := by
  intro m
  induction m with
  | zero =>
    intro d hd hl hO j hj
    have hd0 : d = 0 := by omega
    subst hd0
    have hr : T[0]? = some T[0] := List.getElem?_eq_getElem hl
    have h1 := List.all_eq_true.1 hw 0 (List.mem_range.2 hl)
    rw [hr] at h1
    simp only [beq_iff_eq] at h1
    have h2 : (upM B 0 T[0].1).testBit j = true := by rw [← h1, Nat.testBit_or, hj, Bool.true_or]
    obtain ⟨n, hn, h3⟩ := upM_bit h2
    have := (baseOk_row hk hr).2 n hn
    omega
  | succ m ih =>
    intro d hd hl hO j hj
    have hr : T[d]? = some T[d] := List.getElem?_eq_getElem hl
    have h1 := List.all_eq_true.1 hw d (List.mem_range.2 hl)
    rw [hr] at h1
    simp only [beq_iff_eq] at h1
    have h2 : (upM B d T[d].1).testBit j = true := by rw [← h1, Nat.testBit_or, hj, Bool.true_or]
    obtain ⟨n, hn, h3⟩ := upM_bit h2
    have hO2 := (baseOk_row hk hr).1 hO n hn
    rcases h3 with rfl | ⟨h4, h5⟩
    · exact hO2
    · exact ih n (by omega) (by omega) hO2 j h5
theorem closed_bits {T : List (List Nat × List Nat)} (hw : waitsOk T B = true) (hk : baseOk T O = true) (hc : Closed T O b) : ∀ (m d : Nat), d ≤ m → d < T.length → O.contains d = true → b d = true → ∀ j, O.contains j = true → (B.getD d 0).testBit j = true → b j = true := by
  intro m
  induction m with
  | zero =>
    intro d hd hl hO hb j hjO hj
    have hd0 : d = 0 := by omega
    subst hd0
    have hr : T[0]? = some T[0] := List.getElem?_eq_getElem hl
    have h1 := List.all_eq_true.1 hw 0 (List.mem_range.2 hl)
    rw [hr] at h1
    simp only [beq_iff_eq] at h1
    have h2 : (upM B 0 T[0].1).testBit j = true := by rw [← h1, Nat.testBit_or, hj, Bool.true_or]
    obtain ⟨n, hn, h3⟩ := upM_bit h2
    have := (baseOk_row hk hr).2 n hn
    omega
  | succ m ih =>
    intro d hd hl hO hb j hjO hj
    have hr : T[d]? = some T[d] := List.getElem?_eq_getElem hl
    have h1 := List.all_eq_true.1 hw d (List.mem_range.2 hl)
    rw [hr] at h1
    simp only [beq_iff_eq] at h1
    have h2 : (upM B d T[d].1).testBit j = true := by rw [← h1, Nat.testBit_or, hj, Bool.true_or]
    obtain ⟨n, hn, h3⟩ := upM_bit h2
    rcases h3 with rfl | ⟨h4, h5⟩
    · exact hc d _ hr hO hb n hn hjO
    · cases hO2 : O.contains n with
      | true => exact ih n (by omega) (by omega) hO2 (hc d _ hr hO hb n hn hO2) j hjO h5
      | false =>
        have := bits_out hw hk n n (Nat.le_refl _) (by omega) hO2 j h5
        rw [hjO] at this
        cases this
theorem up_count : ∀ {O : List Nat}, O.Nodup → i ∈ O → b i = false → (O.filter fun j => !up b i j).length + 1 = (O.filter fun j => !b j).length
  | [], _, hi, _ => by cases hi
  | x :: r, hn, hi, hb => by
    rw [List.nodup_cons] at hn
    rcases List.mem_cons.1 hi with rfl | hi
    · have h1 : (r.filter fun j => !up b i j) = r.filter fun j => !b j := by
        refine List.filter_congr (fun j hj => ?_)
        rw [up_ne (fun e => hn.1 (by rw [← e]; exact hj))]
      rw [List.filter_cons, List.filter_cons]
      simp [up_self, hb, h1]
    · have hxi : x ≠ i := fun e => hn.1 (e ▸ hi)
      have h1 := up_count hn.2 hi hb
      rw [List.filter_cons, List.filter_cons, up_ne hxi]
      cases hbx : b x
      · simp only [Bool.not_false, if_true, List.length_cons]
        omega
      · simpa using h1
theorem inv_all (hT : rtab md ops = T) (hw : waitsOk T.2 B = true) (hk : baseOk T.2 O = true) (I : (Nat → Bool) → Act → World → Prop) (hs : ∀ i ∈ O, StepAt P ops Q B O I i)
    (hend : ∀ b a w, (∀ j, O.contains j = true → b j = true) → I b a w → Q .normal a w) :
    ∀ (m : Nat) (b : Nat → Bool) (a : Act) (w : World), (O.filter fun j => !b j).length = m → Closed T.2 O b → I b a w → wpAnyLast P md ops Q (fun _ => True) [] m (lof T.2.length O b).toArray a w := by
  subst hT
  have mem_ready' : ∀ {b : Nat → Bool} {i : Nat}, i ∈ Region.ready md ops (lof (rtab md ops).2.length O b).toArray → i < (rtab md ops).2.length ∧ O.contains i = true ∧ b i = false ∧ ∀ r, (rtab md ops).2[i]? = some r → ∀ n ∈ r.1, n < (rtab md ops).2.length → O.contains n = true → b n = true := by
    intro b i hi
    rw [ready_eq] at hi
    unfold readyT at hi
    rw [List.mem_filter, List.mem_range] at hi
    obtain ⟨hl, h1⟩ := hi
    unfold readyAt at h1
    rw [Bool.and_eq_true, lof_get hl] at h1
    obtain ⟨h2, h3⟩ := h1
    have h4 : O.contains i = true := by
      cases h : O.contains i with
      | true => rfl
      | false => rw [h] at h2; simp at h2
    rw [h4] at h2
    refine ⟨hl, h4, by simpa using h2, fun r hr n hn hnl hO => ?_⟩
    rw [hr] at h3
    simp only [List.all_eq_true] at h3
    have h5 := h3 n hn
    rw [lof_get hnl, hO] at h5
    simpa using h5
  intro m
  induction m with
  | zero =>
    intro b a w hm hc hI
    have hall : ∀ j, O.contains j = true → b j = true := by
      intro j hj
      cases hb : b j with
      | true => rfl
      | false =>
        have : j ∈ O.filter fun j => !b j := List.mem_filter.2 ⟨List.contains_iff_mem.1 hj, by simp [hb]⟩
        rw [List.eq_nil_of_length_eq_zero hm] at this
        cases this
    refine ⟨?_, hend b a w hall hI⟩
    refine List.eq_nil_iff_forall_not_mem.2 (fun i hi => ?_)
    obtain ⟨_, h1, h2, _⟩ := mem_ready' hi
    rw [hall i h1] at h2
    cases h2
  | succ m ih =>
    intro b a w hm hc hI
    refine ⟨fun hr => ?_, fun i hi => ?_⟩
    · exfalso
      have hex : ∃ i, O.contains i = true ∧ b i = false := by
        cases hf : O.filter (fun j => !b j) with
        | nil => rw [hf] at hm; simp at hm
        | cons x r =>
          have hx : x ∈ O.filter (fun j => !b j) := by rw [hf]; exact List.mem_cons_self
          rw [List.mem_filter] at hx
          exact ⟨x, List.contains_iff_mem.2 hx.1, by simpa using hx.2⟩
      have hmin : ∀ k, (∃ i, i ≤ k ∧ O.contains i = true ∧ b i = false) → ∃ i, O.contains i = true ∧ b i = false ∧ ∀ j, j < i → O.contains j = true → b j = true := by
        intro k
        induction k with
        | zero =>
          rintro ⟨i, hi, h1, h2⟩
          exact ⟨i, h1, h2, fun j hj => by omega⟩
        | succ k ihk =>
          rintro ⟨i, hi, h1, h2⟩
          by_cases hlow : ∃ j, j ≤ k ∧ O.contains j = true ∧ b j = false
          · exact ihk hlow
          · refine ⟨i, h1, h2, fun j hj hO => ?_⟩
            cases hb : b j with
            | true => rfl
            | false => exact absurd ⟨j, by omega, hO, hb⟩ hlow
      obtain ⟨i0, h1, h2⟩ := hex
      obtain ⟨i, hO, hb, hlow⟩ := hmin i0 ⟨i0, Nat.le_refl _, h1, h2⟩
      have hl := baseOk_lt hk (List.contains_iff_mem.1 hO)
      have hin : i ∈ Region.ready md ops (lof (rtab md ops).2.length O b).toArray := by
        rw [ready_eq]
        unfold readyT
        rw [List.mem_filter, List.mem_range]
        refine ⟨hl, ?_⟩
        unfold readyAt
        rw [lof_get hl, hO, hb]
        have hr2 : (rtab md ops).2[i]? = some (rtab md ops).2[i] := List.getElem?_eq_getElem hl
        rw [hr2]
        simp only [if_true, Bool.not_false, Bool.true_and, List.all_eq_true]
        intro n hn
        have hni := (baseOk_row hk hr2).2 n hn
        rw [lof_get (by omega)]
        cases hOn : O.contains n with
        | true => simpa using hlow n hni hOn
        | false => simp
      rw [hr] at hin
      cases hin
    · obtain ⟨hl, hO, hb, hneed⟩ := mem_ready' hi
      have hon : ∀ j, (O.contains j && (B.getD i 0).testBit j) = true → b j = true := by
        intro j hj
        rw [Bool.and_eq_true] at hj
        have hr2 : (rtab md ops).2[i]? = some (rtab md ops).2[i] := List.getElem?_eq_getElem hl
        have h1 := List.all_eq_true.1 hw i (List.mem_range.2 hl)
        rw [hr2] at h1
        simp only [beq_iff_eq] at h1
        have h2 : (upM B i (rtab md ops).2[i].1).testBit j = true := by rw [← h1, Nat.testBit_or, hj.2, Bool.true_or]
        obtain ⟨n, hn, h3⟩ := upM_bit h2
        have hni := (baseOk_row hk hr2).2 n hn
        rcases h3 with rfl | ⟨h4, h5⟩
        · exact hneed _ hr2 n hn (by omega) hj.1
        · cases hO2 : O.contains n with
          | true => exact closed_bits hw hk hc n n (Nat.le_refl _) (by omega) hO2 (hneed _ hr2 n hn (by omega) hO2) j hj.1 h5
          | false =>
            have := bits_out hw hk n n (Nat.le_refl _) (by omega) hO2 j h5
            rw [hj.1] at this
            cases this
      have hoff : ∀ d, (O.contains d && (B.getD d 0).testBit i) = true → b d = false := by
        intro d hd
        rw [Bool.and_eq_true] at hd
        cases hbd : b d with
        | false => rfl
        | true =>
          have hdl := baseOk_lt hk (List.contains_iff_mem.1 hd.1)
          have := closed_bits hw hk hc d d (Nat.le_refl _) hdl hd.1 hbd i hO hd.2
          rw [hb] at this
          cases this
      obtain ⟨oi, hoi, hK⟩ := hs i (List.contains_iff_mem.1 hO) b a w hI hb hon hoff
      refine wpOp_step hoi (fun K' hK' => hK K' (fun a' w' hI' => hK' a' w' ⟨fun _ _ => trivial, ?_⟩))
      have hset : (lof (rtab md ops).2.length O b).toArray.setIfInBounds i true = (lof (rtab md ops).2.length O (up b i)).toArray := by
        apply Array.ext'
        rw [Array.toList_setIfInBounds]
        exact lof_up hO
      rw [hset]
      refine ih (up b i) a' w' ?_ ?_ hI'
      · have := up_count (baseOk_nodup hk) (List.contains_iff_mem.1 hO) hb
        omega
      · intro d r hr hOd hbd n hn hOn
        by_cases hni : n = i
        · rw [hni, up_self]
        · rw [up_ne hni]
          by_cases hdi : d = i
          · subst hdi
            exact hneed r hr n hn (by have := (baseOk_row hk hr).2 n hn; omega) hOn
          · rw [up_ne hdi] at hbd
            exact hc d r hr hOd hbd n hn hOn
theorem putSel_size (b : Nat → Bool) : ∀ (L : List (Nat × Tmp × Value)) (a : Act), (putSel a b L).tmps.size = a.tmps.size ∧ (putSel a b L).defers = a.defers
  | [], a => ⟨rfl, rfl⟩
  | e :: r, a => by
    unfold putSel
    by_cases h : b e.1 = true
    · rw [if_pos h]
      have := putSel_size b r (a.put (some e.2.1) e.2.2)
      exact ⟨this.1.trans (by simp [Act.put]), this.2.trans rfl⟩
    · rw [if_neg h]
      exact putSel_size b r a
theorem putSel_off {b : Nat → Bool} {t : Tmp} : ∀ {L : List (Nat × Tmp × Value)} {a : Act}, (L.all fun e => !(e.2.1 == t)) = true → (putSel a b L).tmps[t]? = a.tmps[t]?
  | [], _, _ => rfl
  | e :: r, a, h => by
    rw [List.all_cons, Bool.and_eq_true] at h
    have he : e.2.1 ≠ t := by simpa using h.1
    unfold putSel
    by_cases hb : b e.1 = true
    · rw [if_pos hb, putSel_off h.2]
      simp [Act.put, Array.getElem?_setIfInBounds_ne he]
    · rw [if_neg hb]
      exact putSel_off h.2
theorem putSel_on {b : Nat → Bool} {e : Nat × Tmp × Value} : ∀ {L : List (Nat × Tmp × Value)} {a : Act} (k : Nat), L[k]? = some e → ((L.drop (k + 1)).all fun x => !(x.2.1 == e.2.1)) = true → b e.1 = true → Nat.ble (e.2.1 + 1) a.tmps.size = true → (putSel a b L).tmps[e.2.1]? = some e.2.2
  | [], _, _, h, _, _, _ => by cases h
  | x :: r, a, 0, h, hd, hb, ht => by
    simp only [List.getElem?_cons_zero, Option.some.injEq] at h
    subst h
    unfold putSel
    rw [if_pos hb, putSel_off (by simpa using hd)]
    have ht2 : x.2.1 < a.tmps.size := Nat.le_of_ble_eq_true ht
    simp [Act.put, ht2]
  | x :: r, a, k + 1, h, hd, hb, ht => by
    unfold putSel
    refine putSel_on k (by simpa using h) (by simpa using hd) hb ?_
    by_cases hx : b x.1 = true
    · rw [if_pos hx]
      simpa [Act.put] using ht
    · rw [if_neg hx]
      exact ht
theorem put_comm {a : Act} {s t : Tmp} {u v : Value} (h : s ≠ t) : (a.put (some s) u).put (some t) v = (a.put (some t) v).put (some s) u := by
  simp only [Act.put]
  rw [Array.setIfInBounds_comm _ _ h]
theorem putSel_put {b : Nat → Bool} {t : Tmp} {v : Value} : ∀ {L : List (Nat × Tmp × Value)} {a : Act}, (L.all fun e => !(e.2.1 == t)) = true → (putSel a b L).put (some t) v = putSel (a.put (some t) v) b L
  | [], _, _ => rfl
  | e :: r, a, h => by
    rw [List.all_cons, Bool.and_eq_true] at h
    have he : e.2.1 ≠ t := by simpa using h.1
    unfold putSel
    by_cases hb : b e.1 = true
    · rw [if_pos hb, if_pos hb, putSel_put h.2, put_comm he]
    · rw [if_neg hb, if_neg hb]
      exact putSel_put h.2
theorem putSel_same {b : Nat → Bool} {i : Nat} : ∀ {L : List (Nat × Tmp × Value)} {a : Act}, (L.all fun e => !(e.1 == i)) = true → putSel a (up b i) L = putSel a b L
  | [], _, _ => rfl
  | e :: r, a, h => by
    rw [List.all_cons, Bool.and_eq_true] at h
    have he : e.1 ≠ i := by simpa using h.1
    unfold putSel
    rw [up_ne he]
    exact putSel_same h.2
theorem putSel_up {b : Nat → Bool} {i : Nat} {t : Tmp} {v0 v : Value} : ∀ {L1 L2 : List (Nat × Tmp × Value)} {a : Act}, b i = false → ((L1 ++ L2).all fun e => !(e.1 == i) && !(e.2.1 == t)) = true →
    (putSel a b (L1 ++ (i, t, v0) :: L2)).put (some t) v = putSel a (up b i) (L1 ++ (i, t, v) :: L2)
  | [], L2, a, hb, h => by
    simp only [List.nil_append] at h ⊢
    have h1 : (L2.all fun e => !(e.1 == i)) = true := List.all_eq_true.2 (fun e he => by have := List.all_eq_true.1 h e he; simp only [Bool.and_eq_true] at this; exact this.1)
    have h2 : (L2.all fun e => !(e.2.1 == t)) = true := List.all_eq_true.2 (fun e he => by have := List.all_eq_true.1 h e he; simp only [Bool.and_eq_true] at this; exact this.2)
    unfold putSel
    rw [if_neg (by rw [hb]; decide), if_pos (up_self b i), putSel_put h2, putSel_same h1]
  | e :: r, L2, a, hb, h => by
    simp only [List.cons_append, List.all_cons, Bool.and_eq_true] at h
    have he : e.1 ≠ i := by simpa using h.1.1
    simp only [List.cons_append]
    unfold putSel
    rw [up_ne he]
    exact putSel_up hb h.2
theorem putSel_upk {b : Nat → Bool} {i : Nat} {t : Tmp} {v0 v : Value} {a : Act} {L L' : List (Nat × Tmp × Value)} (k : Nat) (hb : b i = false) (hL : L[k]? = some (i, t, v0)) (hL' : L.set k (i, t, v) = L') (hd : ((L.take k ++ L.drop (k + 1)).all fun e => !(e.1 == i) && !(e.2.1 == t)) = true) :
    (putSel a b L).put (some t) v = putSel a (up b i) L' := by
  have hk := (List.getElem?_eq_some_iff.1 hL).1
  have h1 : L = L.take k ++ (i, t, v0) :: L.drop (k + 1) := by
    have h2 : L[k] = (i, t, v0) := (List.getElem?_eq_some_iff.1 hL).2
    rw [← h2, List.getElem_cons_drop, List.take_append_drop]
  have h3 : L' = L.take k ++ (i, t, v) :: L.drop (k + 1) := by rw [← hL', List.set_eq_take_append_cons_drop, if_pos hk]
  rw [h3]
  conv => lhs; rw [h1]
  exact putSel_up hb hd
theorem inv_ {l : Array Bool} {fuel : Nat} {a : Act} {w : World} (O : List Nat) (I : (Nat → Bool) → Act → World → Prop) (hT : rtab md ops = T) (hw : waitsOk T.2 B = true) (hk : baseOk T.2 O = true)
    (hl : (lof T.2.length O (fun _ => false) == l.toList && O.length == fuel) = true) (h0 : I (fun _ => false) a w) (hs : ∀ i ∈ O, StepAt P ops Q B O I i)
    (hend : ∀ b a w, (∀ j, O.contains j = true → b j = true) → I b a w → Q .normal a w) : wpAnyLast P md ops Q (fun _ => True) [] fuel l a w := by
  rw [Bool.and_eq_true, beq_iff_eq, beq_iff_eq] at hl
  have h1 := inv_all hT hw hk I hs hend fuel (fun _ => false) a w (by rw [← hl.2]; simp) (fun d r _ _ hb => by cases hb) h0
  have h2 : (lof T.2.length O (fun _ => false)).toArray = l := by apply Array.ext'; exact hl.1
  rw [h2] at h1
  exact h1
theorem inv_at {l : Array Bool} {fuel : Nat} {a : Act} {w : World} (O : List Nat) (I : Act → (Nat → Bool) → Act → World → Prop) (hT : rtab md ops = T) (hw : waitsOk T.2 B = true) (hk : baseOk T.2 O = true)
    (hl : (lof T.2.length O (fun _ => false) == l.toList && O.length == fuel) = true) (h0 : I a (fun _ => false) a w) (hs : ∀ i ∈ O, StepAt P ops Q B O (I a) i)
    (hend : ∀ b a' w, (∀ j, O.contains j = true → b j = true) → I a b a' w → Q .normal a' w) : wpAnyLast P md ops Q (fun _ => True) [] fuel l a w := inv_ O (I a) hT hw hk hl h0 hs hend
end
end Go.Proofs.YtipmphgkdomebaaDoorW.PrintLast
namespace Go.Proofs.YtipmphgkdomebaaDoorW.PrintWords
open Go.RowKit
namespace Kd
def tag {α : Type} (f : Nat → Nat) (d : Kd α) : Kd (α × Nat) where
  sz := d.sz
  E := d.E
  K := fun w x cs => d.K w x.1 cs
  M := fun w base ok x cs => d.M w base (fun k => ok k ∧ f k = x.2) x.1 cs
  K_len := fun h => d.K_len h
  K_one := fun h => d.K_one h
  K_below := fun hb h => d.K_below hb h
  K_of_M := fun h => d.K_of_M h
  M_mono := fun hok h => d.M_mono (fun k hk => ⟨hok k hk.1, hk.2⟩) h
  M_bound := fun h => d.M_mono (fun _ hk => ⟨⟨hk.1.1, hk.2⟩, hk.1.2⟩) (d.M_bound h)
  M_move := fun hm h => d.M_move (fun k hk => hm k hk.1) h
  M_lower := fun hb h => d.M_lower hb h
def bare {α : Type} (d : Kd α) : Kd α where
  sz := d.sz
  E := d.E
  K := d.K
  M := fun w base _ x cs => d.M w base (fun _ => False) x cs
  K_len := fun h => d.K_len h
  K_one := fun h => d.K_one h
  K_below := fun hb h => d.K_below hb h
  K_of_M := fun h => d.K_of_M h
  M_mono := fun _ h => h
  M_bound := fun h => h
  M_move := fun _ h => d.M_move (fun _ hk => hk.elim) h
  M_lower := fun hb h => d.M_lower hb h
def raw (sz : Nat) : Kd (List Value) where
  sz := sz
  E := []
  K := fun _ x cs => cs = x ∧ cs.length = sz ∧ ∀ u ∈ cs, u.oneCell' = true
  M := fun _ _ _ x cs => cs = x ∧ cs.length = sz ∧ ∀ u ∈ cs, u.oneCell' = true
  K_len := fun h => h.2.1
  K_one := fun h => h.2.2
  K_below := fun _ h => h
  K_of_M := fun h => h
  M_mono := fun _ h => h
  M_bound := fun h => h
  M_move := fun _ h => h
  M_lower := fun _ h => h
def S {α : Type} (d : Kd α) (e : Nat) (w : World) (base : Nat) (ok : Nat → Prop) (v : Value) (xs : List α) : Prop := ∃ f, (tag f d).R e w base ok v xs.zipIdx
section
variable {α β : Type} {d : Kd α} {d' : Kd β} {e e' : Nat} {w w1 W : World} {base b : Nat} {ok ok' okv oku : Nat → Prop} {u v : Value} {xs : List α} {ys : List β}
end
section
variable {α β : Type} {d : Kd α} {d' : Kd β} {e e' g : Nat} {w w1 W : World} {base b : Nat} {ok ok' okv oku : Nat → Prop} {u v : Value} {xs : List α} {ys : List β}
end
section
variable {P : Program} {ops : Array Oper} {rest : List Oper} {o : Oper} {a : Act} {Q : Exit → Act → World → Prop} {Kc : Act → World → Prop} {α : Type}
end
def gap {α : Type} (f : Nat → Nat) (d : Kd α) (i : Nat) (c : List Value) : Kd (α × Nat) where
  sz := d.sz
  E := d.E
  K := fun w x cs => (x.2 = i → cs = c ∧ cs.length = d.sz ∧ ∀ u ∈ cs, u.oneCell' = true) ∧ (x.2 ≠ i → d.K w x.1 cs)
  M := fun w base ok x cs => (x.2 = i → cs = c ∧ cs.length = d.sz ∧ ∀ u ∈ cs, u.oneCell' = true) ∧ (x.2 ≠ i → d.M w base (fun k => ok k ∧ f k = x.2) x.1 cs)
  K_len := fun {w x cs} h => by
    by_cases hx : x.2 = i
    · exact (h.1 hx).2.1
    · exact d.K_len (h.2 hx)
  K_one := fun {w x cs} h => by
    by_cases hx : x.2 = i
    · exact (h.1 hx).2.2
    · exact d.K_one (h.2 hx)
  K_below := fun hb h => ⟨h.1, fun hx => d.K_below hb (h.2 hx)⟩
  K_of_M := fun h => ⟨h.1, fun hx => d.K_of_M (h.2 hx)⟩
  M_mono := fun hok h => ⟨h.1, fun hx => d.M_mono (fun k hk => ⟨hok k hk.1, hk.2⟩) (h.2 hx)⟩
  M_bound := fun h => ⟨h.1, fun hx => d.M_mono (fun _ hk => ⟨⟨hk.1.1, hk.2⟩, hk.1.2⟩) (d.M_bound (h.2 hx))⟩
  M_move := fun hm h => ⟨h.1, fun hx => d.M_move (fun k hk => hm k hk.1) (h.2 hx)⟩
  M_lower := fun hb h => ⟨h.1, fun hx => d.M_lower hb (h.2 hx)⟩
def H {α : Type} (d : Kd α) (e : Nat) (w : World) (base : Nat) (ok : Nat → Prop) (v : Value) (xs : List α) (i : Int) (oki : Nat → Prop) (c : List Value) : Prop :=
  (∀ k, oki k → ok k) ∧ ∃ f, (gap f d i.toNat c).R e w base (fun k => ok k ∧ ¬ oki k) v xs.zipIdx
section
variable {α β : Type} {d : Kd α} {e e' g n cap : Nat} {w w1 W : World} {base : Nat} {ok ok' oki okp : Nat → Prop} {u v : Value} {xs : List α} {i : Int} {c : List Value}
end
section
variable {P : Program} {ops : Array Oper} {rest : List Oper} {o : Oper} {a : Act} {Q : Exit → Act → World → Prop} {α : Type}
end
end Kd
end Go.Proofs.YtipmphgkdomebaaDoorW.PrintWords
namespace Go.Proofs.YtipmphgkdomebaaDoorW.PrintWords
open Go.RowKit
namespace Kd
section
variable {α : Type} {n : Nat} {d : Kd α} {hs : 0 < d.sz} {w : World} {base : Nat} {ok : Nat → Prop} {xs : List α} {cs : List Value}
end
section
variable {α : Type} {n : Nat} {enc : α → Value} {h1 : ∀ x, (enc x).oneCell' = true} {hs : 0 < (scalar enc h1).sz} {w : World} {base : Nat} {ok : Nat → Prop} {xs : List α} {cs : List Value}
end
end Kd
end Go.Proofs.YtipmphgkdomebaaDoorW.PrintWords
namespace Go.Proofs.YtipmphgkdomebaaDoorW.PrintWords
open Go.RowKit
namespace Kd
structure Heap {α : Type} (d : Kd α) : Prop where
  K : ∀ {w w1 : World} {x : α} {cs : List Value}, (∀ k, k < w.heap.size → w1.heap[k]? = w.heap[k]?) → d.K w x cs → d.K w1 x cs
theorem cell_heap {w w1 : World} (hb : ∀ k, k < w.heap.size → w1.heap[k]? = w.heap[k]?) {a : Addr} {v : Value} (h : w.cell? a = some v) : w1.cell? a = some v := by
  have := hb a.block (World.block_lt_of_cell? w a h)
  simpa [World.cell?, this] using h
theorem Heap.C {α : Type} {d : Kd α} (hd : Heap d) {w w1 : World} {A : Option Addr} {n : Nat} {xs : List α} (hb : ∀ k, k < w.heap.size → w1.heap[k]? = w.heap[k]?) (h : d.C w A n xs) : d.C w1 A n xs :=
  ⟨h.1, h.2.1, fun hn => by
    obtain ⟨ad, e, hc⟩ := h.2.2 hn
    refine ⟨ad, e, fun j p hj => ?_⟩
    obtain ⟨c, hs, hr, hcell⟩ := hc j p hj
    exact ⟨c, hs, hd.K hb hr, fun i u hu => cell_heap hb (hcell i u hu)⟩⟩
section
variable {α : Type} {d : Kd α} {e base g n c : Nat} {ok : Nat → Prop} {w w0 W : World} {A : Option Addr} {xs : List α}
end
end Kd
end Go.Proofs.YtipmphgkdomebaaDoorW.PrintWords
namespace Go.Proofs.YtipmphgkdomebaaDoorW.PrintWords
open Go.RowKit
def Kept (w W : World) (S : Nat → Prop) : Prop := w.heap.size ≤ W.heap.size ∧ ∀ i, i < w.heap.size → ¬ S i → W.heap[i]? = w.heap[i]?
section
variable {w W W2 : World} {S S2 S' : Nat → Prop}
theorem Kept.refl (w : World) (S : Nat → Prop) : Kept w w S := ⟨Nat.le_refl _, fun _ _ _ => rfl⟩
theorem Kept.of_below (h : Below w.heap.size w W) (S : Nat → Prop) : Kept w W S := ⟨h.size, fun i hi _ => h.block i hi⟩
theorem Kept.mono (h : Kept w W S) (hs : ∀ k, S k → S' k) : Kept w W S' := ⟨h.1, fun i hi hn => h.2 i hi (fun hk => hn (hs i hk))⟩
theorem Kept.then_ (h : Kept w W S) (k : Kept W W2 S2) (hs : ∀ k, S2 k → S k ∨ w.heap.size ≤ k) : Kept w W2 S :=
  ⟨Nat.le_trans h.1 k.1, fun i hi hn => (k.2 i (Nat.lt_of_lt_of_le hi h.1) (fun h2 => (hs i h2).elim hn (fun h3 => by omega))).trans (h.2 i hi hn)⟩
theorem Kept.below (h : Kept w W S) (hb : Below W.heap.size W W2) : Kept w W2 S := h.then_ (Kept.of_below hb (fun _ => False)) (fun _ hk => hk.elim)
theorem Kept.alloc (h : Kept w W S) (o : Obj) : Kept w (W.alloc o) S := h.below (below_alloc (Below.refl _ _) o)
theorem Kept.drew (h : Kept w W S) : Kept w W.drew S := h
theorem Kept.drewN (h : Kept w W S) (m : Nat) : Kept w (W.drewN m) S := h
theorem Kept.setCell (h : Kept w W S) {p : Addr} (hp : S p.block ∨ w.heap.size ≤ p.block) (u : Value) : Kept w (W.setCell p u) S :=
  h.then_ (S2 := fun k => k = p.block) ⟨by simp [World.setCell], fun i _ hn => Below.heap_setCell W p u i hn⟩ (fun k hk => by rw [hk]; exact hp)
theorem Kept.keep {g : Nat} (h : KeepBut w W g none) (k : Kept W W2 S2) (hs : ∀ k, S2 k → w.heap.size ≤ k) : KeepBut w W2 g none :=
  ⟨Nat.le_trans h.1 k.1, fun i hi hg hr => (k.2 i (Nat.lt_of_lt_of_le hi h.1) (fun h2 => by have := hs i h2; omega)).trans (h.2 i hi hg hr)⟩
end
namespace Kd
section
variable {α : Type} {d : Kd α} {e base n c : Nat} {ok oki S S2 : Nat → Prop} {w w0 W W1 W2 : World} {v : Value} {A : Option Addr} {xs : List α} {i : Int} {cs : List Value}
end
end Kd
end Go.Proofs.YtipmphgkdomebaaDoorW.PrintWords
namespace Go.Proofs.YtipmphgkdomebaaDoorW.PrintWords
open Go.RowKit
def Foot (P : World → Prop) (W : World) (ok : Nat → Prop) : Prop := ∀ W' : World, (∀ k, ok k → k < W.heap.size → W'.heap[k]? = W.heap[k]?) → P W'
theorem heap_lt {W W1 : World} {k : Nat} (h : W1.heap[k]? = W.heap[k]?) (hlt : k < W.heap.size) : k < W1.heap.size := by
  rw [Array.getElem?_eq_getElem hlt] at h
  exact (Array.getElem?_eq_some_iff.1 h).1
namespace Foot
variable {P Q : World → Prop} {W W1 : World} {ok ok' : Nat → Prop}
theorem mono (h : Foot P W ok) (hok : ∀ k, ok k → ok' k) : Foot P W ok' := fun W' hW => h W' (fun k hk hlt => hW k (hok k hk) hlt)
theorem step (h : Foot P W ok) (hm : ∀ k, ok k → k < W.heap.size → W1.heap[k]? = W.heap[k]?) : Foot P W1 ok := fun W' hW => h W' (fun k hk hlt => (hW k hk (heap_lt (hm k hk hlt) hlt)).trans (hm k hk hlt))
end Foot
namespace Kd
def F {α : Type} (d : Kd α) (W : World) (ok : Nat → Prop) (A : Option Addr) (n : Nat) (xs : List α) : Prop := Foot (fun W => d.C W A n xs) W ok
def FK {α : Type} (d : Kd α) (W : World) (ok : Nat → Prop) (x : α) (c : List Value) : Prop := Foot (fun W => d.K W x c) W ok
section
variable {α β : Type} {d : Kd α} {e base n n' cc g N : Nat} {ok ok' okp S : Nat → Prop} {w w0 w1 W W1 : World} {A A' : Option Addr} {u v v1 : Value} {xs : List α} {xs' : List β} {d' : Kd β} {x : α} {c : List Value}
end
end Kd
end Go.Proofs.YtipmphgkdomebaaDoorW.PrintWords
namespace Go.Proofs.YtipmphgkdomebaaDoorW.PrintWords
open Go.RowKit
section
variable {P : Program}
end
namespace Kd
section
variable {P : Program} {ops : Array Oper} {rest : List Oper} {o : Oper} {a : Act} {Q : Exit → Act → World → Prop} {Kc : Act → World → Prop} {α : Type}
end
section
variable {α : Type} {d : Kd α} {e : Nat} {w : World} {base : Nat} {ok : Nat → Prop} {v : Value} {xs : List α}
end
section
variable {P : Program} {ops : Array Oper} {rest : List Oper} {o : Oper} {a : Act} {Q : Exit → Act → World → Prop} {Kc : Act → World → Prop} {α : Type}
end
end Kd
end Go.Proofs.YtipmphgkdomebaaDoorW.PrintWords
namespace Go.Proofs.YtipmphgkdomebaaDoorW.PrintWords
open Go.RowKit
namespace Kd
section
variable {α : Type} {d : Kd α} {e base n cc g : Nat} {ok ok' okp S : Nat → Prop} {w w1 W W1 : World} {A : Option Addr} {u v v1 : Value} {xs : List α} {x : α} {c : List Value}
def N {α : Type} (d : Kd α) (e : Nat) (w : World) (base : Nat) (ok : Nat → Prop) (v : Value) (xs : List α) : Prop :=
  (∀ k, v.ownBlock = some k → ok k) ∧ ∃ rows : List (List Value), rows.length = xs.length ∧ (raw d.sz).R e w base (fun k => some k = v.ownBlock) v rows ∧ ∀ (j : Nat) (x : α) (c : List Value), xs[j]? = some x → rows[j]? = some c → FK d w (fun k => ok k ∧ some k ≠ v.ownBlock) x c
end
end Kd
end Go.Proofs.YtipmphgkdomebaaDoorW.PrintWords
namespace Go.Proofs.YtipmphgkdomebaaDoorW.PrintWords
open Go.RowKit
namespace Kd
section
variable {α : Type} {d : Kd α} {W : World} {g n : Nat} {S ok : Nat → Prop} {A : Option Addr} {ad : Addr} {xs : List α}
end
end Kd
end Go.Proofs.YtipmphgkdomebaaDoorW.PrintWords
namespace Go.Proofs.YtipmphgkdomebaaDoorW.PrintWords
open Go.RowKit
end Go.Proofs.YtipmphgkdomebaaDoorW.PrintWords
namespace Go.Proofs.YtipmphgkdomebaaDoorW.PrintLast
section
variable {ops : Array Oper} {a : Act} {o og : Oper} {g : Nat} {t : Tmp} {u : Bool}
theorem wanted_on (hg : o.guard = some (g, u)) (ho : ops[g]? = some og) (hd : og.dst = some t) (hv : a.tmps[t]? = some (.bool u)) : Region.wanted o (yielded ops a.tmps) = true := by
  simp [Region.wanted, hg, yielded, ho, hd, hv]
theorem wanted_off (hg : o.guard = some (g, u)) (ho : ops[g]? = some og) (hd : og.dst = some t) (hv : a.tmps[t]? = some (.bool (!u))) : Region.wanted o (yielded ops a.tmps) = false := by
  cases u <;> simp_all [Region.wanted, yielded]
end
end Go.Proofs.YtipmphgkdomebaaDoorW.PrintLast
namespace Go.Proofs.YtipmphgkdomebaaDoor
open Go.RowKit Go.Proofs.YtipmphgkdomebaaDoorW.PrintWords Go.Proofs.YtipmphgkdomebaaDoorW.PrintLast
set_option linter.unusedVariables false
set_option linter.unusedSimpArgs false
theorem wanted_und {ops : Array Oper} {a : Act} {o og : Oper} {g t : Nat} {u : Bool} (hg : o.guard = some (g, u)) (ho : ops[g]? = some og) (hd : og.dst = some t) (hv : a.tmps[t]? = some undef) : Region.wanted o (yielded ops a.tmps) = false := by
  cases u <;> simp_all [Region.wanted, yielded, undef]
def EX.same : EX → EX → Bool
  | .no, o => o.isNo
  | .mk kd tx nm at_ na an av inner nv vk vd ne et ep, o =>
    !o.isNo && ((kd == o.kind) && ((tx.toList == o.text.toList) && ((nm.toList == o.name.toList) && ((at_.toList == o.attr.toList) && ((inner.isNo == o.inner.isNo) && ((inner.isNo || inner.same o.inner) &&
      ((decide (na = o.na) && allTo (fun i => ((an i).toList == (o.an i).toList) && (av i).same (o.av i)) na) &&
       (decide (nv = o.nv) && allTo (fun v => ((vk v).toList == (o.vk v).toList) && ((vd v == o.vd v) && (decide (ne v = o.ne v) && allTo (fun e => ((et v e).toList == (o.et v e).toList) && (((ep v e).isNo == (o.ep v e).isNo) && ((ep v e).isNo || (ep v e).same (o.ep v e)))) (ne v)))) nv))))))))
def elS (t1 t2 : ByteArray) (x1 x2 : EX) : Bool := (t1.toList == t2.toList) && ((x1.isNo == x2.isNo) && (x1.isNo || x1.same x2))
def patS (n m : Nat) (t1 t2 : Nat → ByteArray) (x1 x2 : Nat → EX) : Bool := decide (n = m) && allTo (fun e => elS (t1 e) (t2 e) (x1 e) (x2 e)) n
def EX.Fin : EX → Prop
  | .no => True
  | .mk _ tx nm at_ na an av inner nv vk vd ne et ep => tx.size ≤ 281474976710656 ∧ nm.size ≤ 281474976710656 ∧ at_.size ≤ 281474976710656 ∧ na ≤ 281474976710656 ∧ nv ≤ 281474976710656 ∧
    (∀ i, i < na → (an i).size ≤ 281474976710656 ∧ (av i).Fin) ∧ inner.Fin ∧ ∀ v, v < nv → (vk v).size ≤ 281474976710656 ∧ ne v ≤ 281474976710656 ∧ ∀ e, e < ne v → (et v e).size ≤ 281474976710656 ∧ (ep v e).Fin
theorem EX.Fin.out {T : EX} (h : T.Fin) : T.na ≤ 281474976710656 ∧ T.nv ≤ 281474976710656 ∧ (∀ i, i < T.na → (T.an i).size ≤ 281474976710656 ∧ (T.av i).Fin) ∧ T.inner.Fin ∧ ∀ v, v < T.nv → (T.vk v).size ≤ 281474976710656 ∧ T.ne v ≤ 281474976710656 ∧ ∀ e, e < T.ne v → (T.et v e).size ≤ 281474976710656 ∧ (T.ep v e).Fin := by
  cases T with
  | no => exact ⟨Nat.zero_le _, Nat.zero_le _, (fun i hi => absurd hi (Nat.not_lt_zero _)), trivial, fun i hi => absurd hi (Nat.not_lt_zero _)⟩
  | mk => exact h.2.2.2
def ElI (w0 : World) (t1 : ByteArray) (p1 : Option Addr) (t2 : ByteArray) (p2 : Option Addr) (W : World) : Prop :=
  Own w0 [(w0.heap.size + 1, .cells #[.string t2, .pointer p2] 42 (0, 0)), (w0.heap.size, .cells #[.string t1, .pointer p1] 42 (0, 0))] W
theorem ElI.step {w0 : World} {t1 : ByteArray} {p1 : Option Addr} {t2 : ByteArray} {p2 : Option Addr} {W W1 : World} (h : ElI w0 t1 p1 t2 p2 W) (b : Below W.heap.size W W1) : ElI w0 t1 p1 t2 p2 W1 := Own.step h b
end Go.Proofs.YtipmphgkdomebaaDoor
namespace Go.Proofs.YtipmphgkdomebaaDoor
open Go.RowKit Go.Proofs.YtipmphgkdomebaaDoorW.PrintWords Go.Proofs.YtipmphgkdomebaaDoorW.PrintLast
set_option linter.unusedVariables false
set_option linter.unusedSimpArgs false
def as80a.T : Bool × List (List Nat × List Nat) := (true, [([], []), ([0], [0]), ([], []), ([2], [2]), ([1, 3], [1, 3]), ([4], [4]), ([5], [5]), ([6, 5], [5, 6]), ([7, 5], [5, 7]), ([5], [5]), ([9, 5], [5, 9]), ([10, 5], [5, 10]), ([8, 11, 5], [5, 8, 11]), ([5, 12], [5, 12]), ([13, 5], [13]), ([14], [14]), ([15, 14], [14, 15]), ([16, 14], [14, 16]), ([17, 14, 14], [14, 17]), ([18], [18]), ([19, 18], [18, 19]), ([20, 18], [18, 20]), ([21, 18], [18, 21]), ([18], [18]), ([23, 18], [18, 23]), ([24, 18], [18, 24]), ([25, 18], [18, 25]), ([22, 26, 18, 18], [18, 22, 26]), ([18, 27, 14], [14, 18, 27]), ([14, 28], [14, 28]), ([29, 27, 0, 1, 2, 3, 4, 5, 6, 7, 8, 9, 10, 11, 12, 13, 14, 15, 16, 17, 18, 19, 20, 21, 22, 23, 24, 25, 26, 27, 28, 29], [29])])
def as80a.B : List Nat := [0, 1, 0, 4, 15, 31, 63, 127, 255, 63, 575, 1599, 4095, 8191, 16383, 32767, 65535, 131071, 262143, 524287, 1048575, 2097151, 4194303, 524287, 8912895, 25690111, 59244543, 134217727, 268435455, 536870911, 1073741823]
theorem as80a.tab : rtab .any (opsOf Tryd.f80 1) = as80a.T := by kernel_rfl
theorem as80a.bits : waitsOk as80a.T.2 as80a.B = true := by kernel_rfl
set_option maxRecDepth 100000 in
set_option maxHeartbeats 4000000 in
theorem as80a (w0 : World) (t1 t2 : ByteArray) (hq : (t1.toList == t2.toList) = false) (p1 p2 : Option Addr) (a0 : Act) (s2 : a0.tmps[2]? = some (.pointer (some ⟨w0.heap.size, 0, none⟩))) (s3 : a0.tmps[3]? = some (.pointer (some ⟨w0.heap.size + 1, 0, none⟩))) (hsz : a0.tmps.size = Tryd.f80.ntmps) (W : World) (hI : ElI w0 t1 p1 t2 p2 W.drew) (Q : Exit → Act → World → Prop) (hend : ∀ (a9 : Act) w', ElI w0 t1 p1 t2 p2 w' → a9 = putSel a0 (fun _ => true) [(0, 5, .pointer (some ⟨w0.heap.size, 0, none⟩)), (1, 6, .string t1), (2, 7, .pointer (some ⟨w0.heap.size + 1, 0, none⟩)), (3, 8, .string t2), (4, 9, .bool false), (5, 10, .bool false), (6, 11, undef), (7, 12, undef), (8, 13, undef), (9, 14, undef), (10, 15, undef), (11, 16, undef), (12, 17, undef), (13, 18, .bool false), (14, 19, .bool false), (15, 20, undef), (16, 21, undef), (17, 22, undef), (18, 23, undef), (19, 24, undef), (20, 25, undef), (21, 26, undef), (22, 27, undef), (23, 28, undef), (24, 29, undef), (25, 30, undef), (26, 31, undef), (27, 32, undef), (28, 33, undef), (29, 34, .bool false), (30, 4, .bool false)] → a9.defers = a0.defers → a9.tmps[4]? = some (.bool false) → Q .normal a9 w') :
    (Code.region 1 #[{ dst := some 5, op := Op.fieldAddr 42 (Operand.tmp 2) 0, type := 0, pos := "ast.go:88", after := #[], guard := none }, { dst := some 6, op := Op.load 9 (Operand.tmp 5), type := 9, pos := "ast.go:88", after := #[{ on := 0, ground := Ground.data }], guard := none }, { dst := some 7, op := Op.fieldAddr 42 (Operand.tmp 3) 0, type := 0, pos := "ast.go:88", after := #[], guard := none }, { dst := some 8, op := Op.load 9 (Operand.tmp 7), type := 9, pos := "ast.go:88", after := #[{ on := 2, ground := Ground.data }], guard := none }, { dst := some 9, op := Op.binOp BinOp.eql 9 (Operand.tmp 6) (Operand.tmp 8) 9, type := 4, pos := "ast.go:88", after := #[{ on := 1, ground := Ground.data }, { on := 3, ground := Ground.data }], guard := none }, { dst := some 10, op := Op.move (Operand.tmp 9), type := 4, pos := "ast.go:88", after := #[{ on := 4, ground := Ground.data }], guard := none }, { dst := some 11, op := Op.fieldAddr 42 (Operand.tmp 2) 1, type := 0, pos := "ast.go:88", after := #[{ on := 5, ground := Ground.guard }], guard := some (5, true) }, { dst := some 12, op := Op.load 37 (Operand.tmp 11), type := 37, pos := "ast.go:88", after := #[{ on := 6, ground := Ground.data }, { on := 5, ground := Ground.guard }], guard := some (5, true) }, { dst := some 13, op := Op.binOp BinOp.eql 37 (Operand.tmp 12) (Operand.const (Value.pointer none)) 37, type := 4, pos := "ast.go:88", after := #[{ on := 7, ground := Ground.data }, { on := 5, ground := Ground.guard }], guard := some (5, true) }, { dst := some 14, op := Op.fieldAddr 42 (Operand.tmp 3) 1, type := 0, pos := "ast.go:88", after := #[{ on := 5, ground := Ground.guard }], guard := some (5, true) }, { dst := some 15, op := Op.load 37 (Operand.tmp 14), type := 37, pos := "ast.go:88", after := #[{ on := 9, ground := Ground.data }, { on := 5, ground := Ground.guard }], guard := some (5, true) }, { dst := some 16, op := Op.binOp BinOp.eql 37 (Operand.tmp 15) (Operand.const (Value.pointer none)) 37, type := 4, pos := "ast.go:88", after := #[{ on := 10, ground := Ground.data }, { on := 5, ground := Ground.guard }], guard := some (5, true) }, { dst := some 17, op := Op.binOp BinOp.eql 4 (Operand.tmp 13) (Operand.tmp 16) 4, type := 4, pos := "ast.go:88", after := #[{ on := 8, ground := Ground.data }, { on := 11, ground := Ground.data }, { on := 5, ground := Ground.guard }], guard := some (5, true) }, { dst := some 18, op := Op.pick (Operand.tmp 10) (Operand.tmp 17) (Operand.const (Value.bool false)), type := 4, pos := "ast.go:88", after := #[{ on := 5, ground := Ground.data }, { on := 12, ground := Ground.data }], guard := none }, { dst := some 19, op := Op.move (Operand.tmp 18), type := 4, pos := "ast.go:88", after := #[{ on := 13, ground := Ground.data }, { on := 5, ground := Ground.chain }], guard := none }, { dst := some 20, op := Op.fieldAddr 42 (Operand.tmp 2) 1, type := 0, pos := "ast.go:88", after := #[{ on := 14, ground := Ground.guard }], guard := some (14, true) }, { dst := some 21, op := Op.load 37 (Operand.tmp 20), type := 37, pos := "ast.go:88", after := #[{ on := 15, ground := Ground.data }, { on := 14, ground := Ground.guard }], guard := some (14, true) }, { dst := some 22, op := Op.binOp BinOp.eql 37 (Operand.tmp 21) (Operand.const (Value.pointer none)) 37, type := 4, pos := "ast.go:88", after := #[{ on := 16, ground := Ground.data }, { on := 14, ground := Ground.guard }], guard := some (14, true) }, { dst := some 23, op := Op.move (Operand.tmp 22), type := 4, pos := "ast.go:88", after := #[{ on := 17, ground := Ground.data }, { on := 14, ground := Ground.chain }, { on := 14, ground := Ground.guard }], guard := some (14, true) }, { dst := some 24, op := Op.fieldAddr 42 (Operand.tmp 2) 1, type := 0, pos := "ast.go:88", after := #[{ on := 18, ground := Ground.guard }], guard := some (18, false) }, { dst := some 25, op := Op.load 37 (Operand.tmp 24), type := 37, pos := "ast.go:88", after := #[{ on := 19, ground := Ground.data }, { on := 18, ground := Ground.guard }], guard := some (18, false) }, { dst := some 26, op := Op.nilCheck (Operand.tmp 25), type := 0, pos := "ast.go:88", after := #[{ on := 20, ground := Ground.data }, { on := 18, ground := Ground.guard }], guard := some (18, false) }, { dst := some 27, op := Op.load 40 (Operand.tmp 26), type := 40, pos := "ast.go:88", after := #[{ on := 21, ground := Ground.data }, { on := 18, ground := Ground.guard }], guard := some (18, false) }, { dst := some 28, op := Op.fieldAddr 42 (Operand.tmp 3) 1, type := 0, pos := "ast.go:88", after := #[{ on := 18, ground := Ground.guard }], guard := some (18, false) }, { dst := some 29, op := Op.load 37 (Operand.tmp 28), type := 37, pos := "ast.go:88", after := #[{ on := 23, ground := Ground.data }, { on := 18, ground := Ground.guard }], guard := some (18, false) }, { dst := some 30, op := Op.nilCheck (Operand.tmp 29), type := 0, pos := "ast.go:88", after := #[{ on := 24, ground := Ground.data }, { on := 18, ground := Ground.guard }], guard := some (18, false) }, { dst := some 31, op := Op.load 40 (Operand.tmp 30), type := 40, pos := "ast.go:88", after := #[{ on := 25, ground := Ground.data }, { on := 18, ground := Ground.guard }], guard := some (18, false) }, { dst := some 32, op := Op.call { callee := Callee.value (Operand.func 81), args := #[Operand.tmp 27, Operand.tmp 31], argTypes := #[37, 40] }, type := 4, pos := "ast.go:88", after := #[{ on := 22, ground := Ground.data }, { on := 26, ground := Ground.data }, { on := 18, ground := Ground.chain }, { on := 18, ground := Ground.guard }], guard := some (18, false) }, { dst := some 33, op := Op.pick (Operand.tmp 23) (Operand.const (Value.bool true)) (Operand.tmp 32), type := 4, pos := "ast.go:88", after := #[{ on := 18, ground := Ground.data }, { on := 27, ground := Ground.data }, { on := 14, ground := Ground.guard }], guard := some (14, true) }, { dst := some 34, op := Op.pick (Operand.tmp 19) (Operand.tmp 33) (Operand.const (Value.bool false)), type := 4, pos := "ast.go:88", after := #[{ on := 14, ground := Ground.data }, { on := 28, ground := Ground.data }], guard := none }, { dst := some 4, op := Op.assign (Operand.tmp 34), type := 4, pos := "ast.go:88", after := #[{ on := 29, ground := Ground.data }, { on := 27, ground := Ground.chain }, { on := 0, ground := Ground.phase }, { on := 1, ground := Ground.phase }, { on := 2, ground := Ground.phase }, { on := 3, ground := Ground.phase }, { on := 4, ground := Ground.phase }, { on := 5, ground := Ground.phase }, { on := 6, ground := Ground.phase }, { on := 7, ground := Ground.phase }, { on := 8, ground := Ground.phase }, { on := 9, ground := Ground.phase }, { on := 10, ground := Ground.phase }, { on := 11, ground := Ground.phase }, { on := 12, ground := Ground.phase }, { on := 13, ground := Ground.phase }, { on := 14, ground := Ground.phase }, { on := 15, ground := Ground.phase }, { on := 16, ground := Ground.phase }, { on := 17, ground := Ground.phase }, { on := 18, ground := Ground.phase }, { on := 19, ground := Ground.phase }, { on := 20, ground := Ground.phase }, { on := 21, ground := Ground.phase }, { on := 22, ground := Ground.phase }, { on := 23, ground := Ground.phase }, { on := 24, ground := Ground.phase }, { on := 25, ground := Ground.phase }, { on := 26, ground := Ground.phase }, { on := 27, ground := Ground.phase }, { on := 28, ground := Ground.phase }, { on := 29, ground := Ground.phase }], guard := none }] true).wp Tryd.prog Q a0 W := by
  refine start_ (n := 31) (S := fun w' => True) (ds := []) #[false, false, false, false, false, false, false, false, false, false, false, false, false, false, false, false, false, false, false, false, false, false, false, false, false, false, false, false, false, false, false] (by kernel_rfl) rfl rfl trivial (fun hHeld => ?_)
  refine with_tabW as80a.tab as80a.bits (fun HT_ HW_ => ?_)
  refine inv_at [0, 1, 2, 3, 4, 5, 6, 7, 8, 9, 10, 11, 12, 13, 14, 15, 16, 17, 18, 19, 20, 21, 22, 23, 24, 25, 26, 27, 28, 29, 30] (fun a0_ b a w' => a = putSel a0_ b [(0, 5, .pointer (some ⟨w0.heap.size, 0, none⟩)), (1, 6, .string t1), (2, 7, .pointer (some ⟨w0.heap.size + 1, 0, none⟩)), (3, 8, .string t2), (4, 9, .bool false), (5, 10, .bool false), (6, 11, undef), (7, 12, undef), (8, 13, undef), (9, 14, undef), (10, 15, undef), (11, 16, undef), (12, 17, undef), (13, 18, .bool false), (14, 19, .bool false), (15, 20, undef), (16, 21, undef), (17, 22, undef), (18, 23, undef), (19, 24, undef), (20, 25, undef), (21, 26, undef), (22, 27, undef), (23, 28, undef), (24, 29, undef), (25, 30, undef), (26, 31, undef), (27, 32, undef), (28, 33, undef), (29, 34, .bool false), (30, 4, .bool false)] ∧ (ElI w0 t1 p1 t2 p2 w')) HT_.out HW_.out (by kernel_rfl) (by kernel_rfl) ?_ ?_ ?_
  · exact ⟨(by simp only [putSel, Bool.false_eq_true, if_false]), hI⟩
  · clear hI hend hHeld
    refine steps_cons ?_ ?_
    · rintro b a w' ⟨ha, hI⟩ hb_ hon hoff
      refine ⟨_, rfl, fun K hK => ?_⟩
      have e2 : a.tmps[2]? = some (.pointer (some ⟨w0.heap.size, 0, none⟩)) := by rw [ha]; exact (putSel_off rfl).trans s2
      replace ha := Aside0.mk ha
      refine value_ (w1 := w') (v := .pointer (some ⟨w0.heap.size, 0, none⟩)) (by rfl) rfl ?_ ?_
      · go_simp; try rfl
        all_goals (try (simp only [IntKind.wrap_i64]; omega))
      exact hK.out _ _ ⟨(by rw [ha.out]; exact putSel_upk 0 hb_ rfl rfl rfl), hI⟩
    refine steps_cons ?_ ?_
    · rintro b a w' ⟨ha, hI⟩ hb_ hon hoff
      refine ⟨_, rfl, fun K hK => ?_⟩
      have e5 : a.tmps[5]? = some (.pointer (some ⟨w0.heap.size, 0, none⟩)) := by rw [ha]; exact putSel_on (e := (0, 5, .pointer (some ⟨w0.heap.size, 0, none⟩))) 0 rfl rfl (hon 0 (by kernel_rfl)) (by rw [hsz]; rfl)
      replace ha := Aside0.mk ha
      have m0 := Own.c hI 1 0 rfl rfl
      refine value_ (w1 := w') (v := .string t1) (by rfl) rfl ?_ ?_
      · go_simp; try rfl
        all_goals (try (simp only [IntKind.wrap_i64]; omega))
      exact hK.out _ _ ⟨(by rw [ha.out]; exact putSel_upk 1 hb_ rfl rfl rfl), hI⟩
    refine steps_cons ?_ ?_
    · rintro b a w' ⟨ha, hI⟩ hb_ hon hoff
      refine ⟨_, rfl, fun K hK => ?_⟩
      have e3 : a.tmps[3]? = some (.pointer (some ⟨w0.heap.size + 1, 0, none⟩)) := by rw [ha]; exact (putSel_off rfl).trans s3
      replace ha := Aside0.mk ha
      refine value_ (w1 := w') (v := .pointer (some ⟨w0.heap.size + 1, 0, none⟩)) (by rfl) rfl ?_ ?_
      · go_simp; try rfl
        all_goals (try (simp only [IntKind.wrap_i64]; omega))
      exact hK.out _ _ ⟨(by rw [ha.out]; exact putSel_upk 2 hb_ rfl rfl rfl), hI⟩
    refine steps_cons ?_ ?_
    · rintro b a w' ⟨ha, hI⟩ hb_ hon hoff
      refine ⟨_, rfl, fun K hK => ?_⟩
      have e7 : a.tmps[7]? = some (.pointer (some ⟨w0.heap.size + 1, 0, none⟩)) := by rw [ha]; exact putSel_on (e := (2, 7, .pointer (some ⟨w0.heap.size + 1, 0, none⟩))) 2 rfl rfl (hon 2 (by kernel_rfl)) (by rw [hsz]; rfl)
      replace ha := Aside0.mk ha
      have m0 := Own.c hI 0 0 rfl rfl
      refine value_ (w1 := w') (v := .string t2) (by rfl) rfl ?_ ?_
      · go_simp; try rfl
        all_goals (try (simp only [IntKind.wrap_i64]; omega))
      exact hK.out _ _ ⟨(by rw [ha.out]; exact putSel_upk 3 hb_ rfl rfl rfl), hI⟩
    refine steps_cons ?_ ?_
    · rintro b a w' ⟨ha, hI⟩ hb_ hon hoff
      refine ⟨_, rfl, fun K hK => ?_⟩
      have e6 : a.tmps[6]? = some (.string t1) := by rw [ha]; exact putSel_on (e := (1, 6, .string t1)) 1 rfl rfl (hon 1 (by kernel_rfl)) (by rw [hsz]; rfl)
      have e8 : a.tmps[8]? = some (.string t2) := by rw [ha]; exact putSel_on (e := (3, 8, .string t2)) 3 rfl rfl (hon 3 (by kernel_rfl)) (by rw [hsz]; rfl)
      replace ha := Aside0.mk ha
      refine value_ (w1 := w') (v := .bool false) (by rfl) rfl ?_ ?_
      · go_simp; try rfl
        all_goals (try (simp only [IntKind.wrap_i64]; omega))
      exact hK.out _ _ ⟨(by rw [ha.out]; exact putSel_upk 4 hb_ rfl rfl rfl), hI⟩
    refine steps_cons ?_ ?_
    · rintro b a w' ⟨ha, hI⟩ hb_ hon hoff
      refine ⟨_, rfl, fun K hK => ?_⟩
      have e9 : a.tmps[9]? = some (.bool false) := by rw [ha]; exact putSel_on (e := (4, 9, .bool false)) 4 rfl rfl (hon 4 (by kernel_rfl)) (by rw [hsz]; rfl)
      replace ha := Aside0.mk ha
      refine value_ (w1 := w') (v := .bool false) (by rfl) rfl ?_ ?_
      · go_simp; try rfl
        all_goals (try (simp only [IntKind.wrap_i64]; omega))
      exact hK.out _ _ ⟨(by rw [ha.out]; exact putSel_upk 5 hb_ rfl rfl rfl), hI⟩
    refine steps_cons ?_ ?_
    · rintro b a w' ⟨ha, hI⟩ hb_ hon hoff
      refine ⟨_, rfl, fun K hK => ?_⟩
      have e10 : a.tmps[10]? = some (.bool false) := by rw [ha]; exact putSel_on (e := (5, 10, .bool false)) 5 rfl rfl (hon 5 (by kernel_rfl)) (by rw [hsz]; rfl)
      exact off_ (wanted_off rfl rfl rfl e10) (hK.out _ _ ⟨(by rw [ha]; exact putSel_upk 6 hb_ rfl rfl rfl), hI⟩)
    refine steps_cons ?_ ?_
    · rintro b a w' ⟨ha, hI⟩ hb_ hon hoff
      refine ⟨_, rfl, fun K hK => ?_⟩
      have e10 : a.tmps[10]? = some (.bool false) := by rw [ha]; exact putSel_on (e := (5, 10, .bool false)) 5 rfl rfl (hon 5 (by kernel_rfl)) (by rw [hsz]; rfl)
      exact off_ (wanted_off rfl rfl rfl e10) (hK.out _ _ ⟨(by rw [ha]; exact putSel_upk 7 hb_ rfl rfl rfl), hI⟩)
    refine steps_cons ?_ ?_
    · rintro b a w' ⟨ha, hI⟩ hb_ hon hoff
      refine ⟨_, rfl, fun K hK => ?_⟩
      have e10 : a.tmps[10]? = some (.bool false) := by rw [ha]; exact putSel_on (e := (5, 10, .bool false)) 5 rfl rfl (hon 5 (by kernel_rfl)) (by rw [hsz]; rfl)
      exact off_ (wanted_off rfl rfl rfl e10) (hK.out _ _ ⟨(by rw [ha]; exact putSel_upk 8 hb_ rfl rfl rfl), hI⟩)
    refine steps_cons ?_ ?_
    · rintro b a w' ⟨ha, hI⟩ hb_ hon hoff
      refine ⟨_, rfl, fun K hK => ?_⟩
      have e10 : a.tmps[10]? = some (.bool false) := by rw [ha]; exact putSel_on (e := (5, 10, .bool false)) 5 rfl rfl (hon 5 (by kernel_rfl)) (by rw [hsz]; rfl)
      exact off_ (wanted_off rfl rfl rfl e10) (hK.out _ _ ⟨(by rw [ha]; exact putSel_upk 9 hb_ rfl rfl rfl), hI⟩)
    refine steps_cons ?_ ?_
    · rintro b a w' ⟨ha, hI⟩ hb_ hon hoff
      refine ⟨_, rfl, fun K hK => ?_⟩
      have e10 : a.tmps[10]? = some (.bool false) := by rw [ha]; exact putSel_on (e := (5, 10, .bool false)) 5 rfl rfl (hon 5 (by kernel_rfl)) (by rw [hsz]; rfl)
      exact off_ (wanted_off rfl rfl rfl e10) (hK.out _ _ ⟨(by rw [ha]; exact putSel_upk 10 hb_ rfl rfl rfl), hI⟩)
    refine steps_cons ?_ ?_
    · rintro b a w' ⟨ha, hI⟩ hb_ hon hoff
      refine ⟨_, rfl, fun K hK => ?_⟩
      have e10 : a.tmps[10]? = some (.bool false) := by rw [ha]; exact putSel_on (e := (5, 10, .bool false)) 5 rfl rfl (hon 5 (by kernel_rfl)) (by rw [hsz]; rfl)
      exact off_ (wanted_off rfl rfl rfl e10) (hK.out _ _ ⟨(by rw [ha]; exact putSel_upk 11 hb_ rfl rfl rfl), hI⟩)
    refine steps_cons ?_ ?_
    · rintro b a w' ⟨ha, hI⟩ hb_ hon hoff
      refine ⟨_, rfl, fun K hK => ?_⟩
      have e10 : a.tmps[10]? = some (.bool false) := by rw [ha]; exact putSel_on (e := (5, 10, .bool false)) 5 rfl rfl (hon 5 (by kernel_rfl)) (by rw [hsz]; rfl)
      exact off_ (wanted_off rfl rfl rfl e10) (hK.out _ _ ⟨(by rw [ha]; exact putSel_upk 12 hb_ rfl rfl rfl), hI⟩)
    refine steps_cons ?_ ?_
    · rintro b a w' ⟨ha, hI⟩ hb_ hon hoff
      refine ⟨_, rfl, fun K hK => ?_⟩
      have e10 : a.tmps[10]? = some (.bool false) := by rw [ha]; exact putSel_on (e := (5, 10, .bool false)) 5 rfl rfl (hon 5 (by kernel_rfl)) (by rw [hsz]; rfl)
      have e17 : a.tmps[17]? = some (undef) := by rw [ha]; exact putSel_on (e := (12, 17, undef)) 12 rfl rfl (hon 12 (by kernel_rfl)) (by rw [hsz]; rfl)
      replace ha := Aside0.mk ha
      refine value_ (w1 := w') (v := .bool false) (by rfl) rfl ?_ ?_
      · go_simp; try rfl
        all_goals (try (simp only [IntKind.wrap_i64]; omega))
      exact hK.out _ _ ⟨(by rw [ha.out]; exact putSel_upk 13 hb_ rfl rfl rfl), hI⟩
    refine steps_cons ?_ ?_
    · rintro b a w' ⟨ha, hI⟩ hb_ hon hoff
      refine ⟨_, rfl, fun K hK => ?_⟩
      have e18 : a.tmps[18]? = some (.bool false) := by rw [ha]; exact putSel_on (e := (13, 18, .bool false)) 13 rfl rfl (hon 13 (by kernel_rfl)) (by rw [hsz]; rfl)
      replace ha := Aside0.mk ha
      refine value_ (w1 := w') (v := .bool false) (by rfl) rfl ?_ ?_
      · go_simp; try rfl
        all_goals (try (simp only [IntKind.wrap_i64]; omega))
      exact hK.out _ _ ⟨(by rw [ha.out]; exact putSel_upk 14 hb_ rfl rfl rfl), hI⟩
    refine steps_cons ?_ ?_
    · rintro b a w' ⟨ha, hI⟩ hb_ hon hoff
      refine ⟨_, rfl, fun K hK => ?_⟩
      have e19 : a.tmps[19]? = some (.bool false) := by rw [ha]; exact putSel_on (e := (14, 19, .bool false)) 14 rfl rfl (hon 14 (by kernel_rfl)) (by rw [hsz]; rfl)
      exact off_ (wanted_off rfl rfl rfl e19) (hK.out _ _ ⟨(by rw [ha]; exact putSel_upk 15 hb_ rfl rfl rfl), hI⟩)
    refine steps_cons ?_ ?_
    · rintro b a w' ⟨ha, hI⟩ hb_ hon hoff
      refine ⟨_, rfl, fun K hK => ?_⟩
      have e19 : a.tmps[19]? = some (.bool false) := by rw [ha]; exact putSel_on (e := (14, 19, .bool false)) 14 rfl rfl (hon 14 (by kernel_rfl)) (by rw [hsz]; rfl)
      exact off_ (wanted_off rfl rfl rfl e19) (hK.out _ _ ⟨(by rw [ha]; exact putSel_upk 16 hb_ rfl rfl rfl), hI⟩)
    refine steps_cons ?_ ?_
    · rintro b a w' ⟨ha, hI⟩ hb_ hon hoff
      refine ⟨_, rfl, fun K hK => ?_⟩
      have e19 : a.tmps[19]? = some (.bool false) := by rw [ha]; exact putSel_on (e := (14, 19, .bool false)) 14 rfl rfl (hon 14 (by kernel_rfl)) (by rw [hsz]; rfl)
      exact off_ (wanted_off rfl rfl rfl e19) (hK.out _ _ ⟨(by rw [ha]; exact putSel_upk 17 hb_ rfl rfl rfl), hI⟩)
    refine steps_cons ?_ ?_
    · rintro b a w' ⟨ha, hI⟩ hb_ hon hoff
      refine ⟨_, rfl, fun K hK => ?_⟩
      have e19 : a.tmps[19]? = some (.bool false) := by rw [ha]; exact putSel_on (e := (14, 19, .bool false)) 14 rfl rfl (hon 14 (by kernel_rfl)) (by rw [hsz]; rfl)
      exact off_ (wanted_off rfl rfl rfl e19) (hK.out _ _ ⟨(by rw [ha]; exact putSel_upk 18 hb_ rfl rfl rfl), hI⟩)
    refine steps_cons ?_ ?_
    · rintro b a w' ⟨ha, hI⟩ hb_ hon hoff
      refine ⟨_, rfl, fun K hK => ?_⟩
      have e23 : a.tmps[23]? = some (undef) := by rw [ha]; exact putSel_on (e := (18, 23, undef)) 18 rfl rfl (hon 18 (by kernel_rfl)) (by rw [hsz]; rfl)
      exact off_ (wanted_und rfl rfl rfl e23) (hK.out _ _ ⟨(by rw [ha]; exact putSel_upk 19 hb_ rfl rfl rfl), hI⟩)
    refine steps_cons ?_ ?_
    · rintro b a w' ⟨ha, hI⟩ hb_ hon hoff
      refine ⟨_, rfl, fun K hK => ?_⟩
      have e23 : a.tmps[23]? = some (undef) := by rw [ha]; exact putSel_on (e := (18, 23, undef)) 18 rfl rfl (hon 18 (by kernel_rfl)) (by rw [hsz]; rfl)
      exact off_ (wanted_und rfl rfl rfl e23) (hK.out _ _ ⟨(by rw [ha]; exact putSel_upk 20 hb_ rfl rfl rfl), hI⟩)
    refine steps_cons ?_ ?_
    · rintro b a w' ⟨ha, hI⟩ hb_ hon hoff
      refine ⟨_, rfl, fun K hK => ?_⟩
      have e23 : a.tmps[23]? = some (undef) := by rw [ha]; exact putSel_on (e := (18, 23, undef)) 18 rfl rfl (hon 18 (by kernel_rfl)) (by rw [hsz]; rfl)
      exact off_ (wanted_und rfl rfl rfl e23) (hK.out _ _ ⟨(by rw [ha]; exact putSel_upk 21 hb_ rfl rfl rfl), hI⟩)
    refine steps_cons ?_ ?_
    · rintro b a w' ⟨ha, hI⟩ hb_ hon hoff
      refine ⟨_, rfl, fun K hK => ?_⟩
      have e23 : a.tmps[23]? = some (undef) := by rw [ha]; exact putSel_on (e := (18, 23, undef)) 18 rfl rfl (hon 18 (by kernel_rfl)) (by rw [hsz]; rfl)
      exact off_ (wanted_und rfl rfl rfl e23) (hK.out _ _ ⟨(by rw [ha]; exact putSel_upk 22 hb_ rfl rfl rfl), hI⟩)
    refine steps_cons ?_ ?_
    · rintro b a w' ⟨ha, hI⟩ hb_ hon hoff
      refine ⟨_, rfl, fun K hK => ?_⟩
      have e23 : a.tmps[23]? = some (undef) := by rw [ha]; exact putSel_on (e := (18, 23, undef)) 18 rfl rfl (hon 18 (by kernel_rfl)) (by rw [hsz]; rfl)
      exact off_ (wanted_und rfl rfl rfl e23) (hK.out _ _ ⟨(by rw [ha]; exact putSel_upk 23 hb_ rfl rfl rfl), hI⟩)
    refine steps_cons ?_ ?_
    · rintro b a w' ⟨ha, hI⟩ hb_ hon hoff
      refine ⟨_, rfl, fun K hK => ?_⟩
      have e23 : a.tmps[23]? = some (undef) := by rw [ha]; exact putSel_on (e := (18, 23, undef)) 18 rfl rfl (hon 18 (by kernel_rfl)) (by rw [hsz]; rfl)
      exact off_ (wanted_und rfl rfl rfl e23) (hK.out _ _ ⟨(by rw [ha]; exact putSel_upk 24 hb_ rfl rfl rfl), hI⟩)
    refine steps_cons ?_ ?_
    · rintro b a w' ⟨ha, hI⟩ hb_ hon hoff
      refine ⟨_, rfl, fun K hK => ?_⟩
      have e23 : a.tmps[23]? = some (undef) := by rw [ha]; exact putSel_on (e := (18, 23, undef)) 18 rfl rfl (hon 18 (by kernel_rfl)) (by rw [hsz]; rfl)
      exact off_ (wanted_und rfl rfl rfl e23) (hK.out _ _ ⟨(by rw [ha]; exact putSel_upk 25 hb_ rfl rfl rfl), hI⟩)
    refine steps_cons ?_ ?_
    · rintro b a w' ⟨ha, hI⟩ hb_ hon hoff
      refine ⟨_, rfl, fun K hK => ?_⟩
      have e23 : a.tmps[23]? = some (undef) := by rw [ha]; exact putSel_on (e := (18, 23, undef)) 18 rfl rfl (hon 18 (by kernel_rfl)) (by rw [hsz]; rfl)
      exact off_ (wanted_und rfl rfl rfl e23) (hK.out _ _ ⟨(by rw [ha]; exact putSel_upk 26 hb_ rfl rfl rfl), hI⟩)
    refine steps_cons ?_ ?_
    · rintro b a w' ⟨ha, hI⟩ hb_ hon hoff
      refine ⟨_, rfl, fun K hK => ?_⟩
      have e23 : a.tmps[23]? = some (undef) := by rw [ha]; exact putSel_on (e := (18, 23, undef)) 18 rfl rfl (hon 18 (by kernel_rfl)) (by rw [hsz]; rfl)
      exact off_ (wanted_und rfl rfl rfl e23) (hK.out _ _ ⟨(by rw [ha]; exact putSel_upk 27 hb_ rfl rfl rfl), hI⟩)
    refine steps_cons ?_ ?_
    · rintro b a w' ⟨ha, hI⟩ hb_ hon hoff
      refine ⟨_, rfl, fun K hK => ?_⟩
      have e19 : a.tmps[19]? = some (.bool false) := by rw [ha]; exact putSel_on (e := (14, 19, .bool false)) 14 rfl rfl (hon 14 (by kernel_rfl)) (by rw [hsz]; rfl)
      exact off_ (wanted_off rfl rfl rfl e19) (hK.out _ _ ⟨(by rw [ha]; exact putSel_upk 28 hb_ rfl rfl rfl), hI⟩)
    refine steps_cons ?_ ?_
    · rintro b a w' ⟨ha, hI⟩ hb_ hon hoff
      refine ⟨_, rfl, fun K hK => ?_⟩
      have e19 : a.tmps[19]? = some (.bool false) := by rw [ha]; exact putSel_on (e := (14, 19, .bool false)) 14 rfl rfl (hon 14 (by kernel_rfl)) (by rw [hsz]; rfl)
      have e33 : a.tmps[33]? = some (undef) := by rw [ha]; exact putSel_on (e := (28, 33, undef)) 28 rfl rfl (hon 28 (by kernel_rfl)) (by rw [hsz]; rfl)
      replace ha := Aside0.mk ha
      refine value_ (w1 := w') (v := .bool false) (by rfl) rfl ?_ ?_
      · go_simp; try rfl
        all_goals (try (simp only [IntKind.wrap_i64]; omega))
      exact hK.out _ _ ⟨(by rw [ha.out]; exact putSel_upk 29 hb_ rfl rfl rfl), hI⟩
    refine steps_cons ?_ ?_
    · rintro b a w' ⟨ha, hI⟩ hb_ hon hoff
      refine ⟨_, rfl, fun K hK => ?_⟩
      have e34 : a.tmps[34]? = some (.bool false) := by rw [ha]; exact putSel_on (e := (29, 34, .bool false)) 29 rfl rfl (hon 29 (by kernel_rfl)) (by rw [hsz]; rfl)
      replace ha := Aside0.mk ha
      refine value_ (w1 := w') (v := .bool false) (by rfl) rfl ?_ ?_
      · go_simp; try rfl
        all_goals (try (simp only [IntKind.wrap_i64]; omega))
      exact hK.out _ _ ⟨(by rw [ha.out]; exact putSel_upk 30 hb_ rfl rfl rfl), hI⟩
    exact steps_nil
  rintro b a w1 hall ⟨ha, hI1⟩
  exact hend a w1 hI1 (by rw [ha]; simp only [putSel, if_true, hall 0 (by kernel_rfl), hall 1 (by kernel_rfl), hall 2 (by kernel_rfl), hall 3 (by kernel_rfl), hall 4 (by kernel_rfl), hall 5 (by kernel_rfl), hall 6 (by kernel_rfl), hall 7 (by kernel_rfl), hall 8 (by kernel_rfl), hall 9 (by kernel_rfl), hall 10 (by kernel_rfl), hall 11 (by kernel_rfl), hall 12 (by kernel_rfl), hall 13 (by kernel_rfl), hall 14 (by kernel_rfl), hall 15 (by kernel_rfl), hall 16 (by kernel_rfl), hall 17 (by kernel_rfl), hall 18 (by kernel_rfl), hall 19 (by kernel_rfl), hall 20 (by kernel_rfl), hall 21 (by kernel_rfl), hall 22 (by kernel_rfl), hall 23 (by kernel_rfl), hall 24 (by kernel_rfl), hall 25 (by kernel_rfl), hall 26 (by kernel_rfl), hall 27 (by kernel_rfl), hall 28 (by kernel_rfl), hall 29 (by kernel_rfl), hall 30 (by kernel_rfl)]) (by rw [ha]; exact (putSel_size b _ a0).2) (by rw [ha]; exact putSel_on (e := (30, 4, .bool false)) 30 rfl rfl (hall 30 (by kernel_rfl)) (by rw [hsz]; rfl))
end Go.Proofs.YtipmphgkdomebaaDoor
namespace Go.Proofs.YtipmphgkdomebaaDoor
open Go.RowKit Go.Proofs.YtipmphgkdomebaaDoorW.PrintWords Go.Proofs.YtipmphgkdomebaaDoorW.PrintLast
set_option linter.unusedVariables false
set_option linter.unusedSimpArgs false
def as80bn.T : Bool × List (List Nat × List Nat) := (true, [([], []), ([0], [0]), ([], []), ([2], [2]), ([1, 3], [1, 3]), ([4], [4]), ([5], [5]), ([6, 5], [5, 6]), ([7, 5], [5, 7]), ([5], [5]), ([9, 5], [5, 9]), ([10, 5], [5, 10]), ([8, 11, 5], [5, 8, 11]), ([5, 12], [5, 12]), ([13, 5], [13]), ([14], [14]), ([15, 14], [14, 15]), ([16, 14], [14, 16]), ([17, 14, 14], [14, 17]), ([18], [18]), ([19, 18], [18, 19]), ([20, 18], [18, 20]), ([21, 18], [18, 21]), ([18], [18]), ([23, 18], [18, 23]), ([24, 18], [18, 24]), ([25, 18], [18, 25]), ([22, 26, 18, 18], [18, 22, 26]), ([18, 27, 14], [14, 18, 27]), ([14, 28], [14, 28]), ([29, 27, 0, 1, 2, 3, 4, 5, 6, 7, 8, 9, 10, 11, 12, 13, 14, 15, 16, 17, 18, 19, 20, 21, 22, 23, 24, 25, 26, 27, 28, 29], [29])])
def as80bn.B : List Nat := [0, 1, 0, 4, 15, 31, 63, 127, 255, 63, 575, 1599, 4095, 8191, 16383, 32767, 65535, 131071, 262143, 524287, 1048575, 2097151, 4194303, 524287, 8912895, 25690111, 59244543, 134217727, 268435455, 536870911, 1073741823]
theorem as80bn.tab : rtab .any (opsOf Tryd.f80 1) = as80bn.T := by kernel_rfl
theorem as80bn.bits : waitsOk as80bn.T.2 as80bn.B = true := by kernel_rfl
set_option maxRecDepth 100000 in
set_option maxHeartbeats 4000000 in
theorem as80bn (w0 : World) (t1 t2 : ByteArray) (hq : (t1.toList == t2.toList) = true) (b2 o2 : Nat) (a0 : Act) (s2 : a0.tmps[2]? = some (.pointer (some ⟨w0.heap.size, 0, none⟩))) (s3 : a0.tmps[3]? = some (.pointer (some ⟨w0.heap.size + 1, 0, none⟩))) (hsz : a0.tmps.size = Tryd.f80.ntmps) (W : World) (hI : ElI w0 t1 none t2 (some ⟨b2, o2, none⟩) W.drew) (Q : Exit → Act → World → Prop) (hend : ∀ (a9 : Act) w', ElI w0 t1 none t2 (some ⟨b2, o2, none⟩) w' → a9 = putSel a0 (fun _ => true) [(0, 5, .pointer (some ⟨w0.heap.size, 0, none⟩)), (1, 6, .string t1), (2, 7, .pointer (some ⟨w0.heap.size + 1, 0, none⟩)), (3, 8, .string t2), (4, 9, .bool true), (5, 10, .bool true), (6, 11, .pointer (some ⟨w0.heap.size, 1, none⟩)), (7, 12, .pointer none), (8, 13, .bool true), (9, 14, .pointer (some ⟨w0.heap.size + 1, 1, none⟩)), (10, 15, .pointer (some ⟨b2, o2, none⟩)), (11, 16, .bool false), (12, 17, .bool false), (13, 18, .bool false), (14, 19, .bool false), (15, 20, undef), (16, 21, undef), (17, 22, undef), (18, 23, undef), (19, 24, undef), (20, 25, undef), (21, 26, undef), (22, 27, undef), (23, 28, undef), (24, 29, undef), (25, 30, undef), (26, 31, undef), (27, 32, undef), (28, 33, undef), (29, 34, .bool false), (30, 4, .bool false)] → a9.defers = a0.defers → a9.tmps[4]? = some (.bool false) → Q .normal a9 w') :
    (Code.region 1 #[{ dst := some 5, op := Op.fieldAddr 42 (Operand.tmp 2) 0, type := 0, pos := "ast.go:88", after := #[], guard := none }, { dst := some 6, op := Op.load 9 (Operand.tmp 5), type := 9, pos := "ast.go:88", after := #[{ on := 0, ground := Ground.data }], guard := none }, { dst := some 7, op := Op.fieldAddr 42 (Operand.tmp 3) 0, type := 0, pos := "ast.go:88", after := #[], guard := none }, { dst := some 8, op := Op.load 9 (Operand.tmp 7), type := 9, pos := "ast.go:88", after := #[{ on := 2, ground := Ground.data }], guard := none }, { dst := some 9, op := Op.binOp BinOp.eql 9 (Operand.tmp 6) (Operand.tmp 8) 9, type := 4, pos := "ast.go:88", after := #[{ on := 1, ground := Ground.data }, { on := 3, ground := Ground.data }], guard := none }, { dst := some 10, op := Op.move (Operand.tmp 9), type := 4, pos := "ast.go:88", after := #[{ on := 4, ground := Ground.data }], guard := none }, { dst := some 11, op := Op.fieldAddr 42 (Operand.tmp 2) 1, type := 0, pos := "ast.go:88", after := #[{ on := 5, ground := Ground.guard }], guard := some (5, true) }, { dst := some 12, op := Op.load 37 (Operand.tmp 11), type := 37, pos := "ast.go:88", after := #[{ on := 6, ground := Ground.data }, { on := 5, ground := Ground.guard }], guard := some (5, true) }, { dst := some 13, op := Op.binOp BinOp.eql 37 (Operand.tmp 12) (Operand.const (Value.pointer none)) 37, type := 4, pos := "ast.go:88", after := #[{ on := 7, ground := Ground.data }, { on := 5, ground := Ground.guard }], guard := some (5, true) }, { dst := some 14, op := Op.fieldAddr 42 (Operand.tmp 3) 1, type := 0, pos := "ast.go:88", after := #[{ on := 5, ground := Ground.guard }], guard := some (5, true) }, { dst := some 15, op := Op.load 37 (Operand.tmp 14), type := 37, pos := "ast.go:88", after := #[{ on := 9, ground := Ground.data }, { on := 5, ground := Ground.guard }], guard := some (5, true) }, { dst := some 16, op := Op.binOp BinOp.eql 37 (Operand.tmp 15) (Operand.const (Value.pointer none)) 37, type := 4, pos := "ast.go:88", after := #[{ on := 10, ground := Ground.data }, { on := 5, ground := Ground.guard }], guard := some (5, true) }, { dst := some 17, op := Op.binOp BinOp.eql 4 (Operand.tmp 13) (Operand.tmp 16) 4, type := 4, pos := "ast.go:88", after := #[{ on := 8, ground := Ground.data }, { on := 11, ground := Ground.data }, { on := 5, ground := Ground.guard }], guard := some (5, true) }, { dst := some 18, op := Op.pick (Operand.tmp 10) (Operand.tmp 17) (Operand.const (Value.bool false)), type := 4, pos := "ast.go:88", after := #[{ on := 5, ground := Ground.data }, { on := 12, ground := Ground.data }], guard := none }, { dst := some 19, op := Op.move (Operand.tmp 18), type := 4, pos := "ast.go:88", after := #[{ on := 13, ground := Ground.data }, { on := 5, ground := Ground.chain }], guard := none }, { dst := some 20, op := Op.fieldAddr 42 (Operand.tmp 2) 1, type := 0, pos := "ast.go:88", after := #[{ on := 14, ground := Ground.guard }], guard := some (14, true) }, { dst := some 21, op := Op.load 37 (Operand.tmp 20), type := 37, pos := "ast.go:88", after := #[{ on := 15, ground := Ground.data }, { on := 14, ground := Ground.guard }], guard := some (14, true) }, { dst := some 22, op := Op.binOp BinOp.eql 37 (Operand.tmp 21) (Operand.const (Value.pointer none)) 37, type := 4, pos := "ast.go:88", after := #[{ on := 16, ground := Ground.data }, { on := 14, ground := Ground.guard }], guard := some (14, true) }, { dst := some 23, op := Op.move (Operand.tmp 22), type := 4, pos := "ast.go:88", after := #[{ on := 17, ground := Ground.data }, { on := 14, ground := Ground.chain }, { on := 14, ground := Ground.guard }], guard := some (14, true) }, { dst := some 24, op := Op.fieldAddr 42 (Operand.tmp 2) 1, type := 0, pos := "ast.go:88", after := #[{ on := 18, ground := Ground.guard }], guard := some (18, false) }, { dst := some 25, op := Op.load 37 (Operand.tmp 24), type := 37, pos := "ast.go:88", after := #[{ on := 19, ground := Ground.data }, { on := 18, ground := Ground.guard }], guard := some (18, false) }, { dst := some 26, op := Op.nilCheck (Operand.tmp 25), type := 0, pos := "ast.go:88", after := #[{ on := 20, ground := Ground.data }, { on := 18, ground := Ground.guard }], guard := some (18, false) }, { dst := some 27, op := Op.load 40 (Operand.tmp 26), type := 40, pos := "ast.go:88", after := #[{ on := 21, ground := Ground.data }, { on := 18, ground := Ground.guard }], guard := some (18, false) }, { dst := some 28, op := Op.fieldAddr 42 (Operand.tmp 3) 1, type := 0, pos := "ast.go:88", after := #[{ on := 18, ground := Ground.guard }], guard := some (18, false) }, { dst := some 29, op := Op.load 37 (Operand.tmp 28), type := 37, pos := "ast.go:88", after := #[{ on := 23, ground := Ground.data }, { on := 18, ground := Ground.guard }], guard := some (18, false) }, { dst := some 30, op := Op.nilCheck (Operand.tmp 29), type := 0, pos := "ast.go:88", after := #[{ on := 24, ground := Ground.data }, { on := 18, ground := Ground.guard }], guard := some (18, false) }, { dst := some 31, op := Op.load 40 (Operand.tmp 30), type := 40, pos := "ast.go:88", after := #[{ on := 25, ground := Ground.data }, { on := 18, ground := Ground.guard }], guard := some (18, false) }, { dst := some 32, op := Op.call { callee := Callee.value (Operand.func 81), args := #[Operand.tmp 27, Operand.tmp 31], argTypes := #[37, 40] }, type := 4, pos := "ast.go:88", after := #[{ on := 22, ground := Ground.data }, { on := 26, ground := Ground.data }, { on := 18, ground := Ground.chain }, { on := 18, ground := Ground.guard }], guard := some (18, false) }, { dst := some 33, op := Op.pick (Operand.tmp 23) (Operand.const (Value.bool true)) (Operand.tmp 32), type := 4, pos := "ast.go:88", after := #[{ on := 18, ground := Ground.data }, { on := 27, ground := Ground.data }, { on := 14, ground := Ground.guard }], guard := some (14, true) }, { dst := some 34, op := Op.pick (Operand.tmp 19) (Operand.tmp 33) (Operand.const (Value.bool false)), type := 4, pos := "ast.go:88", after := #[{ on := 14, ground := Ground.data }, { on := 28, ground := Ground.data }], guard := none }, { dst := some 4, op := Op.assign (Operand.tmp 34), type := 4, pos := "ast.go:88", after := #[{ on := 29, ground := Ground.data }, { on := 27, ground := Ground.chain }, { on := 0, ground := Ground.phase }, { on := 1, ground := Ground.phase }, { on := 2, ground := Ground.phase }, { on := 3, ground := Ground.phase }, { on := 4, ground := Ground.phase }, { on := 5, ground := Ground.phase }, { on := 6, ground := Ground.phase }, { on := 7, ground := Ground.phase }, { on := 8, ground := Ground.phase }, { on := 9, ground := Ground.phase }, { on := 10, ground := Ground.phase }, { on := 11, ground := Ground.phase }, { on := 12, ground := Ground.phase }, { on := 13, ground := Ground.phase }, { on := 14, ground := Ground.phase }, { on := 15, ground := Ground.phase }, { on := 16, ground := Ground.phase }, { on := 17, ground := Ground.phase }, { on := 18, ground := Ground.phase }, { on := 19, ground := Ground.phase }, { on := 20, ground := Ground.phase }, { on := 21, ground := Ground.phase }, { on := 22, ground := Ground.phase }, { on := 23, ground := Ground.phase }, { on := 24, ground := Ground.phase }, { on := 25, ground := Ground.phase }, { on := 26, ground := Ground.phase }, { on := 27, ground := Ground.phase }, { on := 28, ground := Ground.phase }, { on := 29, ground := Ground.phase }], guard := none }] true).wp Tryd.prog Q a0 W := by
  refine start_ (n := 31) (S := fun w' => True) (ds := []) #[false, false, false, false, false, false, false, false, false, false, false, false, false, false, false, false, false, false, false, false, false, false, false, false, false, false, false, false, false, false, false] (by kernel_rfl) rfl rfl trivial (fun hHeld => ?_)
  refine with_tabW as80bn.tab as80bn.bits (fun HT_ HW_ => ?_)
  refine inv_at [0, 1, 2, 3, 4, 5, 6, 7, 8, 9, 10, 11, 12, 13, 14, 15, 16, 17, 18, 19, 20, 21, 22, 23, 24, 25, 26, 27, 28, 29, 30] (fun a0_ b a w' => a = putSel a0_ b [(0, 5, .pointer (some ⟨w0.heap.size, 0, none⟩)), (1, 6, .string t1), (2, 7, .pointer (some ⟨w0.heap.size + 1, 0, none⟩)), (3, 8, .string t2), (4, 9, .bool true), (5, 10, .bool true), (6, 11, .pointer (some ⟨w0.heap.size, 1, none⟩)), (7, 12, .pointer none), (8, 13, .bool true), (9, 14, .pointer (some ⟨w0.heap.size + 1, 1, none⟩)), (10, 15, .pointer (some ⟨b2, o2, none⟩)), (11, 16, .bool false), (12, 17, .bool false), (13, 18, .bool false), (14, 19, .bool false), (15, 20, undef), (16, 21, undef), (17, 22, undef), (18, 23, undef), (19, 24, undef), (20, 25, undef), (21, 26, undef), (22, 27, undef), (23, 28, undef), (24, 29, undef), (25, 30, undef), (26, 31, undef), (27, 32, undef), (28, 33, undef), (29, 34, .bool false), (30, 4, .bool false)] ∧ (ElI w0 t1 none t2 (some ⟨b2, o2, none⟩) w')) HT_.out HW_.out (by kernel_rfl) (by kernel_rfl) ?_ ?_ ?_
  · exact ⟨(by simp only [putSel, Bool.false_eq_true, if_false]), hI⟩
  · clear hI hend hHeld
    refine steps_cons ?_ ?_
    · rintro b a w' ⟨ha, hI⟩ hb_ hon hoff
      refine ⟨_, rfl, fun K hK => ?_⟩
      have e2 : a.tmps[2]? = some (.pointer (some ⟨w0.heap.size, 0, none⟩)) := by rw [ha]; exact (putSel_off rfl).trans s2
      replace ha := Aside0.mk ha
      refine value_ (w1 := w') (v := .pointer (some ⟨w0.heap.size, 0, none⟩)) (by rfl) rfl ?_ ?_
      · go_simp; try rfl
        all_goals (try (simp only [IntKind.wrap_i64]; omega))
      exact hK.out _ _ ⟨(by rw [ha.out]; exact putSel_upk 0 hb_ rfl rfl rfl), hI⟩
    refine steps_cons ?_ ?_
    · rintro b a w' ⟨ha, hI⟩ hb_ hon hoff
      refine ⟨_, rfl, fun K hK => ?_⟩
      have e5 : a.tmps[5]? = some (.pointer (some ⟨w0.heap.size, 0, none⟩)) := by rw [ha]; exact putSel_on (e := (0, 5, .pointer (some ⟨w0.heap.size, 0, none⟩))) 0 rfl rfl (hon 0 (by kernel_rfl)) (by rw [hsz]; rfl)
      replace ha := Aside0.mk ha
      have m0 := Own.c hI 1 0 rfl rfl
      refine value_ (w1 := w') (v := .string t1) (by rfl) rfl ?_ ?_
      · go_simp; try rfl
        all_goals (try (simp only [IntKind.wrap_i64]; omega))
      exact hK.out _ _ ⟨(by rw [ha.out]; exact putSel_upk 1 hb_ rfl rfl rfl), hI⟩
    refine steps_cons ?_ ?_
    · rintro b a w' ⟨ha, hI⟩ hb_ hon hoff
      refine ⟨_, rfl, fun K hK => ?_⟩
      have e3 : a.tmps[3]? = some (.pointer (some ⟨w0.heap.size + 1, 0, none⟩)) := by rw [ha]; exact (putSel_off rfl).trans s3
      replace ha := Aside0.mk ha
      refine value_ (w1 := w') (v := .pointer (some ⟨w0.heap.size + 1, 0, none⟩)) (by rfl) rfl ?_ ?_
      · go_simp; try rfl
        all_goals (try (simp only [IntKind.wrap_i64]; omega))
      exact hK.out _ _ ⟨(by rw [ha.out]; exact putSel_upk 2 hb_ rfl rfl rfl), hI⟩
    refine steps_cons ?_ ?_
    · rintro b a w' ⟨ha, hI⟩ hb_ hon hoff
      refine ⟨_, rfl, fun K hK => ?_⟩
      have e7 : a.tmps[7]? = some (.pointer (some ⟨w0.heap.size + 1, 0, none⟩)) := by rw [ha]; exact putSel_on (e := (2, 7, .pointer (some ⟨w0.heap.size + 1, 0, none⟩))) 2 rfl rfl (hon 2 (by kernel_rfl)) (by rw [hsz]; rfl)
      replace ha := Aside0.mk ha
      have m0 := Own.c hI 0 0 rfl rfl
      refine value_ (w1 := w') (v := .string t2) (by rfl) rfl ?_ ?_
      · go_simp; try rfl
        all_goals (try (simp only [IntKind.wrap_i64]; omega))
      exact hK.out _ _ ⟨(by rw [ha.out]; exact putSel_upk 3 hb_ rfl rfl rfl), hI⟩
    refine steps_cons ?_ ?_
    · rintro b a w' ⟨ha, hI⟩ hb_ hon hoff
      refine ⟨_, rfl, fun K hK => ?_⟩
      have e6 : a.tmps[6]? = some (.string t1) := by rw [ha]; exact putSel_on (e := (1, 6, .string t1)) 1 rfl rfl (hon 1 (by kernel_rfl)) (by rw [hsz]; rfl)
      have e8 : a.tmps[8]? = some (.string t2) := by rw [ha]; exact putSel_on (e := (3, 8, .string t2)) 3 rfl rfl (hon 3 (by kernel_rfl)) (by rw [hsz]; rfl)
      replace ha := Aside0.mk ha
      refine value_ (w1 := w') (v := .bool true) (by rfl) rfl ?_ ?_
      · go_simp; try rfl
        all_goals (try (simp only [IntKind.wrap_i64]; omega))
      exact hK.out _ _ ⟨(by rw [ha.out]; exact putSel_upk 4 hb_ rfl rfl rfl), hI⟩
    refine steps_cons ?_ ?_
    · rintro b a w' ⟨ha, hI⟩ hb_ hon hoff
      refine ⟨_, rfl, fun K hK => ?_⟩
      have e9 : a.tmps[9]? = some (.bool true) := by rw [ha]; exact putSel_on (e := (4, 9, .bool true)) 4 rfl rfl (hon 4 (by kernel_rfl)) (by rw [hsz]; rfl)
      replace ha := Aside0.mk ha
      refine value_ (w1 := w') (v := .bool true) (by rfl) rfl ?_ ?_
      · go_simp; try rfl
        all_goals (try (simp only [IntKind.wrap_i64]; omega))
      exact hK.out _ _ ⟨(by rw [ha.out]; exact putSel_upk 5 hb_ rfl rfl rfl), hI⟩
    refine steps_cons ?_ ?_
    · rintro b a w' ⟨ha, hI⟩ hb_ hon hoff
      refine ⟨_, rfl, fun K hK => ?_⟩
      have e2 : a.tmps[2]? = some (.pointer (some ⟨w0.heap.size, 0, none⟩)) := by rw [ha]; exact (putSel_off rfl).trans s2
      have e10 : a.tmps[10]? = some (.bool true) := by rw [ha]; exact putSel_on (e := (5, 10, .bool true)) 5 rfl rfl (hon 5 (by kernel_rfl)) (by rw [hsz]; rfl)
      replace ha := Aside0.mk ha
      refine value_ (w1 := w') (v := .pointer (some ⟨w0.heap.size, 1, none⟩)) (wanted_on rfl rfl rfl e10) rfl ?_ ?_
      · go_simp; try rfl
        all_goals (try (simp only [IntKind.wrap_i64]; omega))
      exact hK.out _ _ ⟨(by rw [ha.out]; exact putSel_upk 6 hb_ rfl rfl rfl), hI⟩
    refine steps_cons ?_ ?_
    · rintro b a w' ⟨ha, hI⟩ hb_ hon hoff
      refine ⟨_, rfl, fun K hK => ?_⟩
      have e11 : a.tmps[11]? = some (.pointer (some ⟨w0.heap.size, 1, none⟩)) := by rw [ha]; exact putSel_on (e := (6, 11, .pointer (some ⟨w0.heap.size, 1, none⟩))) 6 rfl rfl (hon 6 (by kernel_rfl)) (by rw [hsz]; rfl)
      have e10 : a.tmps[10]? = some (.bool true) := by rw [ha]; exact putSel_on (e := (5, 10, .bool true)) 5 rfl rfl (hon 5 (by kernel_rfl)) (by rw [hsz]; rfl)
      replace ha := Aside0.mk ha
      have m0 := Own.c hI 1 1 rfl rfl
      refine value_ (w1 := w') (v := .pointer none) (wanted_on rfl rfl rfl e10) rfl ?_ ?_
      · go_simp; try rfl
        all_goals (try (simp only [IntKind.wrap_i64]; omega))
      exact hK.out _ _ ⟨(by rw [ha.out]; exact putSel_upk 7 hb_ rfl rfl rfl), hI⟩
    refine steps_cons ?_ ?_
    · rintro b a w' ⟨ha, hI⟩ hb_ hon hoff
      refine ⟨_, rfl, fun K hK => ?_⟩
      have e12 : a.tmps[12]? = some (.pointer none) := by rw [ha]; exact putSel_on (e := (7, 12, .pointer none)) 7 rfl rfl (hon 7 (by kernel_rfl)) (by rw [hsz]; rfl)
      have e10 : a.tmps[10]? = some (.bool true) := by rw [ha]; exact putSel_on (e := (5, 10, .bool true)) 5 rfl rfl (hon 5 (by kernel_rfl)) (by rw [hsz]; rfl)
      replace ha := Aside0.mk ha
      refine value_ (w1 := w') (v := .bool true) (wanted_on rfl rfl rfl e10) rfl ?_ ?_
      · go_simp; try rfl
        all_goals (try (simp only [IntKind.wrap_i64]; omega))
      exact hK.out _ _ ⟨(by rw [ha.out]; exact putSel_upk 8 hb_ rfl rfl rfl), hI⟩
    refine steps_cons ?_ ?_
    · rintro b a w' ⟨ha, hI⟩ hb_ hon hoff
      refine ⟨_, rfl, fun K hK => ?_⟩
      have e3 : a.tmps[3]? = some (.pointer (some ⟨w0.heap.size + 1, 0, none⟩)) := by rw [ha]; exact (putSel_off rfl).trans s3
      have e10 : a.tmps[10]? = some (.bool true) := by rw [ha]; exact putSel_on (e := (5, 10, .bool true)) 5 rfl rfl (hon 5 (by kernel_rfl)) (by rw [hsz]; rfl)
      replace ha := Aside0.mk ha
      refine value_ (w1 := w') (v := .pointer (some ⟨w0.heap.size + 1, 1, none⟩)) (wanted_on rfl rfl rfl e10) rfl ?_ ?_
      · go_simp; try rfl
        all_goals (try (simp only [IntKind.wrap_i64]; omega))
      exact hK.out _ _ ⟨(by rw [ha.out]; exact putSel_upk 9 hb_ rfl rfl rfl), hI⟩
    refine steps_cons ?_ ?_
    · rintro b a w' ⟨ha, hI⟩ hb_ hon hoff
      refine ⟨_, rfl, fun K hK => ?_⟩
      have e14 : a.tmps[14]? = some (.pointer (some ⟨w0.heap.size + 1, 1, none⟩)) := by rw [ha]; exact putSel_on (e := (9, 14, .pointer (some ⟨w0.heap.size + 1, 1, none⟩))) 9 rfl rfl (hon 9 (by kernel_rfl)) (by rw [hsz]; rfl)
      have e10 : a.tmps[10]? = some (.bool true) := by rw [ha]; exact putSel_on (e := (5, 10, .bool true)) 5 rfl rfl (hon 5 (by kernel_rfl)) (by rw [hsz]; rfl)
      replace ha := Aside0.mk ha
      have m0 := Own.c hI 0 1 rfl rfl
      refine value_ (w1 := w') (v := .pointer (some ⟨b2, o2, none⟩)) (wanted_on rfl rfl rfl e10) rfl ?_ ?_
      · go_simp; try rfl
        all_goals (try (simp only [IntKind.wrap_i64]; omega))
      exact hK.out _ _ ⟨(by rw [ha.out]; exact putSel_upk 10 hb_ rfl rfl rfl), hI⟩
    refine steps_cons ?_ ?_
    · rintro b a w' ⟨ha, hI⟩ hb_ hon hoff
      refine ⟨_, rfl, fun K hK => ?_⟩
      have e15 : a.tmps[15]? = some (.pointer (some ⟨b2, o2, none⟩)) := by rw [ha]; exact putSel_on (e := (10, 15, .pointer (some ⟨b2, o2, none⟩))) 10 rfl rfl (hon 10 (by kernel_rfl)) (by rw [hsz]; rfl)
      have e10 : a.tmps[10]? = some (.bool true) := by rw [ha]; exact putSel_on (e := (5, 10, .bool true)) 5 rfl rfl (hon 5 (by kernel_rfl)) (by rw [hsz]; rfl)
      replace ha := Aside0.mk ha
      refine value_ (w1 := w') (v := .bool false) (wanted_on rfl rfl rfl e10) rfl ?_ ?_
      · go_simp; try rfl
        all_goals (try (simp only [IntKind.wrap_i64]; omega))
      exact hK.out _ _ ⟨(by rw [ha.out]; exact putSel_upk 11 hb_ rfl rfl rfl), hI⟩
    refine steps_cons ?_ ?_
    · rintro b a w' ⟨ha, hI⟩ hb_ hon hoff
      refine ⟨_, rfl, fun K hK => ?_⟩
      have e13 : a.tmps[13]? = some (.bool true) := by rw [ha]; exact putSel_on (e := (8, 13, .bool true)) 8 rfl rfl (hon 8 (by kernel_rfl)) (by rw [hsz]; rfl)
      have e16 : a.tmps[16]? = some (.bool false) := by rw [ha]; exact putSel_on (e := (11, 16, .bool false)) 11 rfl rfl (hon 11 (by kernel_rfl)) (by rw [hsz]; rfl)
      have e10 : a.tmps[10]? = some (.bool true) := by rw [ha]; exact putSel_on (e := (5, 10, .bool true)) 5 rfl rfl (hon 5 (by kernel_rfl)) (by rw [hsz]; rfl)
      replace ha := Aside0.mk ha
      refine value_ (w1 := w') (v := .bool false) (wanted_on rfl rfl rfl e10) rfl ?_ ?_
      · go_simp; try rfl
        all_goals (try (simp only [IntKind.wrap_i64]; omega))
      exact hK.out _ _ ⟨(by rw [ha.out]; exact putSel_upk 12 hb_ rfl rfl rfl), hI⟩
    refine steps_cons ?_ ?_
    · rintro b a w' ⟨ha, hI⟩ hb_ hon hoff
      refine ⟨_, rfl, fun K hK => ?_⟩
      have e10 : a.tmps[10]? = some (.bool true) := by rw [ha]; exact putSel_on (e := (5, 10, .bool true)) 5 rfl rfl (hon 5 (by kernel_rfl)) (by rw [hsz]; rfl)
      have e17 : a.tmps[17]? = some (.bool false) := by rw [ha]; exact putSel_on (e := (12, 17, .bool false)) 12 rfl rfl (hon 12 (by kernel_rfl)) (by rw [hsz]; rfl)
      replace ha := Aside0.mk ha
      refine value_ (w1 := w') (v := .bool false) (by rfl) rfl ?_ ?_
      · go_simp; try rfl
        all_goals (try (simp only [IntKind.wrap_i64]; omega))
      exact hK.out _ _ ⟨(by rw [ha.out]; exact putSel_upk 13 hb_ rfl rfl rfl), hI⟩
    refine steps_cons ?_ ?_
    · rintro b a w' ⟨ha, hI⟩ hb_ hon hoff
      refine ⟨_, rfl, fun K hK => ?_⟩
      have e18 : a.tmps[18]? = some (.bool false) := by rw [ha]; exact putSel_on (e := (13, 18, .bool false)) 13 rfl rfl (hon 13 (by kernel_rfl)) (by rw [hsz]; rfl)
      replace ha := Aside0.mk ha
      refine value_ (w1 := w') (v := .bool false) (by rfl) rfl ?_ ?_
      · go_simp; try rfl
        all_goals (try (simp only [IntKind.wrap_i64]; omega))
      exact hK.out _ _ ⟨(by rw [ha.out]; exact putSel_upk 14 hb_ rfl rfl rfl), hI⟩
    refine steps_cons ?_ ?_
    · rintro b a w' ⟨ha, hI⟩ hb_ hon hoff
      refine ⟨_, rfl, fun K hK => ?_⟩
      have e19 : a.tmps[19]? = some (.bool false) := by rw [ha]; exact putSel_on (e := (14, 19, .bool false)) 14 rfl rfl (hon 14 (by kernel_rfl)) (by rw [hsz]; rfl)
      exact off_ (wanted_off rfl rfl rfl e19) (hK.out _ _ ⟨(by rw [ha]; exact putSel_upk 15 hb_ rfl rfl rfl), hI⟩)
    refine steps_cons ?_ ?_
    · rintro b a w' ⟨ha, hI⟩ hb_ hon hoff
      refine ⟨_, rfl, fun K hK => ?_⟩
      have e19 : a.tmps[19]? = some (.bool false) := by rw [ha]; exact putSel_on (e := (14, 19, .bool false)) 14 rfl rfl (hon 14 (by kernel_rfl)) (by rw [hsz]; rfl)
      exact off_ (wanted_off rfl rfl rfl e19) (hK.out _ _ ⟨(by rw [ha]; exact putSel_upk 16 hb_ rfl rfl rfl), hI⟩)
    refine steps_cons ?_ ?_
    · rintro b a w' ⟨ha, hI⟩ hb_ hon hoff
      refine ⟨_, rfl, fun K hK => ?_⟩
      have e19 : a.tmps[19]? = some (.bool false) := by rw [ha]; exact putSel_on (e := (14, 19, .bool false)) 14 rfl rfl (hon 14 (by kernel_rfl)) (by rw [hsz]; rfl)
      exact off_ (wanted_off rfl rfl rfl e19) (hK.out _ _ ⟨(by rw [ha]; exact putSel_upk 17 hb_ rfl rfl rfl), hI⟩)
    refine steps_cons ?_ ?_
    · rintro b a w' ⟨ha, hI⟩ hb_ hon hoff
      refine ⟨_, rfl, fun K hK => ?_⟩
      have e19 : a.tmps[19]? = some (.bool false) := by rw [ha]; exact putSel_on (e := (14, 19, .bool false)) 14 rfl rfl (hon 14 (by kernel_rfl)) (by rw [hsz]; rfl)
      exact off_ (wanted_off rfl rfl rfl e19) (hK.out _ _ ⟨(by rw [ha]; exact putSel_upk 18 hb_ rfl rfl rfl), hI⟩)
    refine steps_cons ?_ ?_
    · rintro b a w' ⟨ha, hI⟩ hb_ hon hoff
      refine ⟨_, rfl, fun K hK => ?_⟩
      have e23 : a.tmps[23]? = some (undef) := by rw [ha]; exact putSel_on (e := (18, 23, undef)) 18 rfl rfl (hon 18 (by kernel_rfl)) (by rw [hsz]; rfl)
      exact off_ (wanted_und rfl rfl rfl e23) (hK.out _ _ ⟨(by rw [ha]; exact putSel_upk 19 hb_ rfl rfl rfl), hI⟩)
    refine steps_cons ?_ ?_
    · rintro b a w' ⟨ha, hI⟩ hb_ hon hoff
      refine ⟨_, rfl, fun K hK => ?_⟩
      have e23 : a.tmps[23]? = some (undef) := by rw [ha]; exact putSel_on (e := (18, 23, undef)) 18 rfl rfl (hon 18 (by kernel_rfl)) (by rw [hsz]; rfl)
      exact off_ (wanted_und rfl rfl rfl e23) (hK.out _ _ ⟨(by rw [ha]; exact putSel_upk 20 hb_ rfl rfl rfl), hI⟩)
    refine steps_cons ?_ ?_
    · rintro b a w' ⟨ha, hI⟩ hb_ hon hoff
      refine ⟨_, rfl, fun K hK => ?_⟩
      have e23 : a.tmps[23]? = some (undef) := by rw [ha]; exact putSel_on (e := (18, 23, undef)) 18 rfl rfl (hon 18 (by kernel_rfl)) (by rw [hsz]; rfl)
      exact off_ (wanted_und rfl rfl rfl e23) (hK.out _ _ ⟨(by rw [ha]; exact putSel_upk 21 hb_ rfl rfl rfl), hI⟩)
    refine steps_cons ?_ ?_
    · rintro b a w' ⟨ha, hI⟩ hb_ hon hoff
      refine ⟨_, rfl, fun K hK => ?_⟩
      have e23 : a.tmps[23]? = some (undef) := by rw [ha]; exact putSel_on (e := (18, 23, undef)) 18 rfl rfl (hon 18 (by kernel_rfl)) (by rw [hsz]; rfl)
      exact off_ (wanted_und rfl rfl rfl e23) (hK.out _ _ ⟨(by rw [ha]; exact putSel_upk 22 hb_ rfl rfl rfl), hI⟩)
    refine steps_cons ?_ ?_
    · rintro b a w' ⟨ha, hI⟩ hb_ hon hoff
      refine ⟨_, rfl, fun K hK => ?_⟩
      have e23 : a.tmps[23]? = some (undef) := by rw [ha]; exact putSel_on (e := (18, 23, undef)) 18 rfl rfl (hon 18 (by kernel_rfl)) (by rw [hsz]; rfl)
      exact off_ (wanted_und rfl rfl rfl e23) (hK.out _ _ ⟨(by rw [ha]; exact putSel_upk 23 hb_ rfl rfl rfl), hI⟩)
    refine steps_cons ?_ ?_
    · rintro b a w' ⟨ha, hI⟩ hb_ hon hoff
      refine ⟨_, rfl, fun K hK => ?_⟩
      have e23 : a.tmps[23]? = some (undef) := by rw [ha]; exact putSel_on (e := (18, 23, undef)) 18 rfl rfl (hon 18 (by kernel_rfl)) (by rw [hsz]; rfl)
      exact off_ (wanted_und rfl rfl rfl e23) (hK.out _ _ ⟨(by rw [ha]; exact putSel_upk 24 hb_ rfl rfl rfl), hI⟩)
    refine steps_cons ?_ ?_
    · rintro b a w' ⟨ha, hI⟩ hb_ hon hoff
      refine ⟨_, rfl, fun K hK => ?_⟩
      have e23 : a.tmps[23]? = some (undef) := by rw [ha]; exact putSel_on (e := (18, 23, undef)) 18 rfl rfl (hon 18 (by kernel_rfl)) (by rw [hsz]; rfl)
      exact off_ (wanted_und rfl rfl rfl e23) (hK.out _ _ ⟨(by rw [ha]; exact putSel_upk 25 hb_ rfl rfl rfl), hI⟩)
    refine steps_cons ?_ ?_
    · rintro b a w' ⟨ha, hI⟩ hb_ hon hoff
      refine ⟨_, rfl, fun K hK => ?_⟩
      have e23 : a.tmps[23]? = some (undef) := by rw [ha]; exact putSel_on (e := (18, 23, undef)) 18 rfl rfl (hon 18 (by kernel_rfl)) (by rw [hsz]; rfl)
      exact off_ (wanted_und rfl rfl rfl e23) (hK.out _ _ ⟨(by rw [ha]; exact putSel_upk 26 hb_ rfl rfl rfl), hI⟩)
    refine steps_cons ?_ ?_
    · rintro b a w' ⟨ha, hI⟩ hb_ hon hoff
      refine ⟨_, rfl, fun K hK => ?_⟩
      have e23 : a.tmps[23]? = some (undef) := by rw [ha]; exact putSel_on (e := (18, 23, undef)) 18 rfl rfl (hon 18 (by kernel_rfl)) (by rw [hsz]; rfl)
      exact off_ (wanted_und rfl rfl rfl e23) (hK.out _ _ ⟨(by rw [ha]; exact putSel_upk 27 hb_ rfl rfl rfl), hI⟩)
    refine steps_cons ?_ ?_
    · rintro b a w' ⟨ha, hI⟩ hb_ hon hoff
      refine ⟨_, rfl, fun K hK => ?_⟩
      have e19 : a.tmps[19]? = some (.bool false) := by rw [ha]; exact putSel_on (e := (14, 19, .bool false)) 14 rfl rfl (hon 14 (by kernel_rfl)) (by rw [hsz]; rfl)
      exact off_ (wanted_off rfl rfl rfl e19) (hK.out _ _ ⟨(by rw [ha]; exact putSel_upk 28 hb_ rfl rfl rfl), hI⟩)
    refine steps_cons ?_ ?_
    · rintro b a w' ⟨ha, hI⟩ hb_ hon hoff
      refine ⟨_, rfl, fun K hK => ?_⟩
      have e19 : a.tmps[19]? = some (.bool false) := by rw [ha]; exact putSel_on (e := (14, 19, .bool false)) 14 rfl rfl (hon 14 (by kernel_rfl)) (by rw [hsz]; rfl)
      have e33 : a.tmps[33]? = some (undef) := by rw [ha]; exact putSel_on (e := (28, 33, undef)) 28 rfl rfl (hon 28 (by kernel_rfl)) (by rw [hsz]; rfl)
      replace ha := Aside0.mk ha
      refine value_ (w1 := w') (v := .bool false) (by rfl) rfl ?_ ?_
      · go_simp; try rfl
        all_goals (try (simp only [IntKind.wrap_i64]; omega))
      exact hK.out _ _ ⟨(by rw [ha.out]; exact putSel_upk 29 hb_ rfl rfl rfl), hI⟩
    refine steps_cons ?_ ?_
    · rintro b a w' ⟨ha, hI⟩ hb_ hon hoff
      refine ⟨_, rfl, fun K hK => ?_⟩
      have e34 : a.tmps[34]? = some (.bool false) := by rw [ha]; exact putSel_on (e := (29, 34, .bool false)) 29 rfl rfl (hon 29 (by kernel_rfl)) (by rw [hsz]; rfl)
      replace ha := Aside0.mk ha
      refine value_ (w1 := w') (v := .bool false) (by rfl) rfl ?_ ?_
      · go_simp; try rfl
        all_goals (try (simp only [IntKind.wrap_i64]; omega))
      exact hK.out _ _ ⟨(by rw [ha.out]; exact putSel_upk 30 hb_ rfl rfl rfl), hI⟩
    exact steps_nil
  rintro b a w1 hall ⟨ha, hI1⟩
  exact hend a w1 hI1 (by rw [ha]; simp only [putSel, if_true, hall 0 (by kernel_rfl), hall 1 (by kernel_rfl), hall 2 (by kernel_rfl), hall 3 (by kernel_rfl), hall 4 (by kernel_rfl), hall 5 (by kernel_rfl), hall 6 (by kernel_rfl), hall 7 (by kernel_rfl), hall 8 (by kernel_rfl), hall 9 (by kernel_rfl), hall 10 (by kernel_rfl), hall 11 (by kernel_rfl), hall 12 (by kernel_rfl), hall 13 (by kernel_rfl), hall 14 (by kernel_rfl), hall 15 (by kernel_rfl), hall 16 (by kernel_rfl), hall 17 (by kernel_rfl), hall 18 (by kernel_rfl), hall 19 (by kernel_rfl), hall 20 (by kernel_rfl), hall 21 (by kernel_rfl), hall 22 (by kernel_rfl), hall 23 (by kernel_rfl), hall 24 (by kernel_rfl), hall 25 (by kernel_rfl), hall 26 (by kernel_rfl), hall 27 (by kernel_rfl), hall 28 (by kernel_rfl), hall 29 (by kernel_rfl), hall 30 (by kernel_rfl)]) (by rw [ha]; exact (putSel_size b _ a0).2) (by rw [ha]; exact putSel_on (e := (30, 4, .bool false)) 30 rfl rfl (hall 30 (by kernel_rfl)) (by rw [hsz]; rfl))
end Go.Proofs.YtipmphgkdomebaaDoor
