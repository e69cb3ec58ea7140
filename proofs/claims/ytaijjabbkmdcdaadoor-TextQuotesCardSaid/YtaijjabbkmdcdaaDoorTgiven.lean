/- Contracts in the print's form: head, Signs, Unquote, Quote (layer 1). -/
import Derived.Test.YtaijjabbkmdcdaaDoorThead
import Derived.Test.YtaijjabbkmdcdaaDoorWMore
namespace Go.Proofs.YtaijjabbkmdcdaaDoor.G
open Go.RowKit Go.Proofs.YtaijjabbkmdcdaaDoor Go.Proofs.YtaijjabbkmdcdaaDoorW.PrintWords
set_option linter.unusedVariables false

/-- What the tables' facts are. -/
def Tab_ (w : World) : Prop := Tabs w
theorem Tab_.step {w W : World} (h : Tab_ w) (b : Below w.heap.size w W) : Tab_ W := Utf8Tabs_below h b

def polyglotlaw01_head.f : Option Bool := some true
theorem polyglotlaw01_head.calls (r : Bool) (w : World) (h : polyglotlaw01_head.f = some r) (HT0_ : Tab_ w := by exact Tab_.step HT0_ (by repeat (first | (with_reducible first | exact HB.out | apply below_alloc | apply pw_below_drewN | apply below_drew1) | exact HB.out))) :
    Calls Tryd.prog 8 #[] w fun e w' => e = .returned (.bool r) ∧ Below w.heap.size w w' := by
  obtain rfl := Option.some.inj h
  exact head_any w HT0_

def sigBA (s : ByteArray) : List ByteArray := ((Tx.sig s.data.toList).getD []).map fun x => ⟨x.toArray⟩
def polyglotlaw01_Signs.f (s : ByteArray) : Option (List ByteArray × Bool) := if s.size < 1099511627776 then some (sigBA s, (Tx.sig s.data.toList).isSome) else none
theorem polyglotlaw01_Signs.calls (s : ByteArray) (r0 : List ByteArray) (r1 : Bool) (w : World) (h : polyglotlaw01_Signs.f s = some (r0, r1)) (HT0_ : Tab_ w := by exact Tab_.step HT0_ (by repeat (first | (with_reducible first | exact HB.out | apply below_alloc | apply pw_below_drewN | apply below_drew1) | exact HB.out))) :
    Calls Tryd.prog 11 #[.string s] w fun e w' => ∃ v, e = .returned (.tuple #[v, .bool r1]) ∧ Kd.R Kd.string 9 w' w.heap.size (fun _ => True) v r0 ∧ Below w.heap.size w w' := by
  unfold polyglotlaw01_Signs.f at h
  by_cases hs : s.size < 1099511627776
  · rw [if_pos hs] at h
    obtain ⟨rfl, rfl⟩ := Prod.mk.inj (Option.some.inj h)
    refine (signs_any s w hs HT0_).mono fun e w' ⟨v, he, ho, hb⟩ => ⟨v, he, Kd.R_of_own ?_ (fun _ _ => trivial), hb⟩
    rw [show (sigBA s).length = ((Tx.sig s.data.toList).getD []).length by simp [sigBA]]
    rw [show encs Value.string (sigBA s) = strCellsL ((Tx.sig s.data.toList).getD []) by simp [sigBA, encs, strCellsL]]
    exact ho
  · rw [if_neg hs] at h
    exact absurd h (by simp)

def text_Quote.f (s : ByteArray) : Option ByteArray := if s.size < 1099511627776 then some ⟨(quoteL s.data.toList).toArray⟩ else none
theorem text_Quote.calls (s r : ByteArray) (w : World) (h : text_Quote.f s = some r) :
    Calls Tryd.prog 14 #[.string s] w fun e w' => e = .returned (.string r) ∧ Below w.heap.size w w' := by
  unfold text_Quote.f at h
  by_cases hs : s.size < 1099511627776
  · rw [if_pos hs] at h
    obtain rfl := Option.some.inj h
    exact quote_any s w hs
  · rw [if_neg hs] at h
    exact absurd h (by simp)

def text_Unquote.f (s : ByteArray) : Option (ByteArray × Int × Bool) :=
  if s.size < 35184372088832 then some (match uq s.data.toList with | none => (⟨#[]⟩, 0, false) | some (a, k) => (⟨a.toArray⟩, (k : Int), true)) else none
theorem text_Unquote.calls (s r0 : ByteArray) (r1 : Int) (r2 : Bool) (w : World) (h : text_Unquote.f s = some (r0, r1, r2)) (HT0_ : Tab_ w := by exact Tab_.step HT0_ (by repeat (first | (with_reducible first | exact HB.out | apply below_alloc | apply pw_below_drewN | apply below_drew1) | exact HB.out))) :
    Calls Tryd.prog 12 #[.string s] w fun e w' => e = .returned (.tuple #[.string r0, .int .i64 r1, .bool r2]) ∧ Below w.heap.size w w' := by
  unfold text_Unquote.f at h
  by_cases hs : s.size < 35184372088832
  · rw [if_pos hs] at h
    have c := unquote_any s w hs HT0_
    have h := Option.some.inj h
    cases hu : uq s.data.toList with
    | none =>
      rw [hu] at h c
      obtain ⟨rfl, h2⟩ := Prod.mk.inj h
      obtain ⟨rfl, rfl⟩ := Prod.mk.inj h2
      exact c
    | some ak =>
      obtain ⟨a, k⟩ := ak
      rw [hu] at h c
      obtain ⟨rfl, h2⟩ := Prod.mk.inj h
      obtain ⟨rfl, rfl⟩ := Prod.mk.inj h2
      exact c
  · rw [if_neg hs] at h
    exact absurd h (by simp)
end Go.Proofs.YtaijjabbkmdcdaaDoor.G
