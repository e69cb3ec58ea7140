/- Layer 4's contracts in the print's form: plural.Of, plural.Rank, the head. -/
import Derived.Test.YtonjkoeacedaiaaDoorDhead4
import Derived.Test.YtonjkoeacedaiaaDoorWMore
namespace Go.Proofs.YtonjkoeacedaiaaDoor.P4
open Go.RowKit Go.Proofs.YtonjkoeacedaiaaDoor Go.Proofs.YtonjkoeacedaiaaDoorW.PrintWords
set_option linter.unusedVariables false
set_option linter.unusedSimpArgs false

def Tab_ (w : World) : Prop := Asc w
theorem Tab_.step {w W : World} (h : Tab_ w) (b : Below w.heap.size w W) : Tab_ W := ascTab h b

def digOk (d : ByteArray) (k : Int) : Bool := decide (0 ≤ k) && decide (k ≤ d.size) && decide (d.size ≤ 1000000) && d.data.toList.all fun c => decide (48 ≤ c.toNat) && decide (c.toNat ≤ 57)
theorem digOk_at {d : ByteArray} {k : Int} (h : digOk d k = true) : ∃ n : Nat, k = n ∧ Dig d n := by
  obtain ⟨⟨⟨h0, h1⟩, h2⟩, h3⟩ : ((0 ≤ k ∧ k ≤ d.size) ∧ d.size ≤ 1000000) ∧ (d.data.toList.all fun c => decide (48 ≤ c.toNat) && decide (c.toNat ≤ 57)) = true := by simpa [digOk] using h
  obtain ⟨n, rfl⟩ := Int.eq_ofNat_of_zero_le h0
  refine ⟨n, rfl, by omega, h2, fun c hc => ?_⟩
  have := List.all_eq_true.1 h3 c hc
  simpa using this
def plural_Of.f (lang : ByteArray) (n : Bool) (d : ByteArray) (k : Int) : Option Int := if digOk d k = true then some (ofC lang d k.toNat) else none
theorem plural_Of.calls (lang : ByteArray) (n : Bool) (d : ByteArray) (k r : Int) (w : World) (h : plural_Of.f lang n d k = some r) (HT0_ : Tab_ w := by exact Tab_.step HT0_ (by repeat (first | (with_reducible first | exact HB.out | apply below_alloc | apply pw_below_drewN | apply below_drew1 | refine below_set ?_ (Aside0.out (by assumption))) | exact HB.out))) :
    Calls Tryd.prog 19 #[.string lang, .agg #[.bool n, .string d, .int .i64 k]] w fun e w' => e = .returned (.int .i64 r) ∧ Below w.heap.size w w' := by
  unfold plural_Of.f at h
  by_cases hs : digOk d k = true
  · rw [if_pos hs] at h
    obtain rfl := Option.some.inj h
    obtain ⟨m, rfl, hd⟩ := digOk_at hs
    rw [Int.toNat_natCast]
    exact Of_any lang n d m hd w HT0_
  · rw [if_neg hs] at h
    exact absurd h (by simp)
def plural_Rank.f (lang : ByteArray) (n : Bool) (d : ByteArray) (k : Int) : Option Int := if digOk d k = true then some (rkC lang d k.toNat) else none
theorem plural_Rank.calls (lang : ByteArray) (n : Bool) (d : ByteArray) (k r : Int) (w : World) (h : plural_Rank.f lang n d k = some r) :
    Calls Tryd.prog 21 #[.string lang, .agg #[.bool n, .string d, .int .i64 k]] w fun e w' => e = .returned (.int .i64 r) ∧ Below w.heap.size w w' := by
  unfold plural_Rank.f at h
  by_cases hs : digOk d k = true
  · rw [if_pos hs] at h
    obtain rfl := Option.some.inj h
    obtain ⟨m, rfl, hd⟩ := digOk_at hs
    rw [Int.toNat_natCast]
    exact Rank_any lang n d m hd w
  · rw [if_neg hs] at h
    exact absurd h (by simp)
def polyglotlaw04_head.f : Option Bool := some true
theorem polyglotlaw04_head.calls (r : Bool) (w : World) (h : polyglotlaw04_head.f = some r) (HT0_ : Tab_ w := by exact Tab_.step HT0_ (by repeat (first | (with_reducible first | exact HB.out | apply below_alloc | apply pw_below_drewN | apply below_drew1 | refine below_set ?_ (Aside0.out (by assumption))) | exact HB.out))) :
    Calls Tryd.prog 17 #[] w fun e w' => e = .returned (.bool r) ∧ Below w.heap.size w w' := by
  obtain rfl := Option.some.inj h
  exact head4_any w HT0_
end Go.Proofs.YtonjkoeacedaiaaDoor.P4
