/- ScriptCuts: for every step, int and slice of steps the call returns true and leaves them unchanged (Text 2 of 9: what the law's proof rests on, joined; walks printed by the kit's print over given contracts, walks and plain laws by hand.) -/
import Derived.Lib.ParseIntBTie
import Derived.Lib.ItoaLen
import Derived.WalkKit
import Derived.BigCall
import Derived.Laws.StructEq
import Derived.Test.YtdhpcofnddkcaaaGreatDoorProg
import Derived.Below
import Derived.Deep.Draws
import Derived.Deep.AppendLies
import Derived.Maps.AppendAt
import Derived.OwnWalk
import Derived.Laws.BytesArg
import Derived.Laws.MakeOwn
import Derived.Laws.OwnMore
import Derived.Deep.OwnRows
import Derived.Tactics
import Derived.Lib.ConvBytes
import Derived.Laws.Slices
import Derived.KernelRfl
import Derived.RowKit3
import Derived.Deep.LoopGhost
import Derived.Deep.QuietTactic
import Derived.BigQuiet
import Derived.WideLaws
import Derived.Deep.DeepCutAuto
import Derived.Deep.CutBlock
import Derived.Deep.RegionHeld3
import Derived.Laws.Rows
import Derived.Lib.AppendStr
import Derived.ArgAppend
import Derived.Laws.IdiomCopy
import Derived.OrdersHeld
import Derived.Laws.BitsLemmas
import Derived.RowKit
import Derived.Laws.Cover1
import Derived.Test.YtdhpcofnddkcaaaGreatDoorCards
import Derived.Test.YtdhpcofnddkcaaaGreatDoorTie
import Derived.ProofKit
import Derived.OpenShut
import Derived.ShutString
import Derived.Deep.DeepHandedRow
import Derived.Lib.LaidU8
import Derived.Lib.LaidU8T
import Derived.Lib.SmallJoins
import Derived.Stop.LaidErr
import Derived.LaidOnce
import Derived.LaidMore
import Derived.Deep.DeepWitnessRowRef
import Derived.Deep.DeepLaidRun
import Derived.Test.YtdhpcofnddkcaaaGreatDoorCut0
namespace Go.Proofs.YtdhpcofnddkcaaaGreatDoor.Net
open Go
set_option linter.unusedVariables false
set_option linter.unusedSimpArgs false
def isDg (c : UInt8) : Bool := decide (48 ≤ c.toNat) && decide (c.toNat ≤ 57)
theorem isDg_iff {c : UInt8} : isDg c = true ↔ 48 ≤ c.toNat ∧ c.toNat ≤ 57 := by simp [isDg]
def vl (l : List UInt8) : Nat := l.foldl (fun n c => n * 10 + (c.toNat - 48)) 0
theorem vl_snoc (D : List UInt8) (c : UInt8) : vl (D ++ [c]) = vl D * 10 + (c.toNat - 48) := by
  unfold vl
  rw [List.foldl_append]
  rfl
theorem snoc_ex {D : List UInt8} (h : D ≠ []) : ∃ E c, D = E ++ [c] := ⟨D.dropLast, D.getLast h, (List.dropLast_concat_getLast h).symm⟩
theorem vl_dec : ∀ (n u : Nat), u ≤ n → vl (Lib.decDigits u) = u := by
  intro n
  induction n with
  | zero =>
    intro u hu
    obtain rfl : u = 0 := by omega
    rw [Lib.decDigits_one (by decide)]
    rfl
  | succ n ih =>
    intro u hu
    by_cases h : u < 10
    · rw [Lib.decDigits_one h]
      show 0 * 10 + ((UInt8.ofNat (48 + u)).toNat - 48) = u
      rw [dig_toNat h]
      omega
    · rw [Lib.decDigits, dif_neg h, vl_snoc, ih _ (by omega), dig_toNat (by omega)]
      omega
theorem vl_pos : ∀ (n : Nat) (D : List UInt8), D.length ≤ n → D ≠ [] → (∀ c ∈ D, isDg c = true) → D.head? ≠ some 48 → 0 < vl D := by
  intro n
  induction n with
  | zero =>
    intro D hl hne
    cases D with
    | nil => exact absurd rfl hne
    | cons c t => simp at hl
  | succ n ih =>
    intro D hl hne hd hh
    obtain ⟨E, c, rfl⟩ := snoc_ex hne
    rw [vl_snoc]
    have hc := isDg_iff.1 (hd c (by simp))
    by_cases hE : E = []
    · subst hE
      have : c.toNat ≠ 48 := fun e => hh (by
        have : c = 48 := UInt8.toNat_inj.1 e
        rw [this]; rfl)
      omega
    · have := ih E (by simp at hl; omega) hE (fun c hc => hd c (by simp [hc])) (by
        cases E with
        | nil => exact absurd rfl hE
        | cons a t => simpa using hh)
      omega
theorem dec_vl : ∀ (n : Nat) (D : List UInt8), D.length ≤ n → D ≠ [] → (∀ c ∈ D, isDg c = true) → (D.length = 1 ∨ D.head? ≠ some 48) → Lib.decDigits (vl D) = D := by
  intro n
  induction n with
  | zero =>
    intro D hl hne
    cases D with
    | nil => exact absurd rfl hne
    | cons c t => simp at hl
  | succ n ih =>
    intro D hl hne hd hh
    obtain ⟨E, c, rfl⟩ := snoc_ex hne
    have hc := isDg_iff.1 (hd c (by simp))
    have hcc : UInt8.ofNat (48 + (c.toNat - 48)) = c := by
      rw [show 48 + (c.toNat - 48) = c.toNat by omega]
      simp
    by_cases hE : E = []
    · subst hE
      rw [vl_snoc, show vl [] = 0 from rfl, Lib.decDigits_one (by omega), show 0 * 10 + (c.toNat - 48) = c.toNat - 48 by omega, hcc]
      rfl
    · have h48 : E.head? ≠ some 48 := by
        cases E with
        | nil => exact absurd rfl hE
        | cons a t =>
          rcases hh with h | h
          · simp at h
          · simpa using h
      have hEd : ∀ c ∈ E, isDg c = true := fun c hc => hd c (by simp [hc])
      have hp := vl_pos _ E (Nat.le_refl _) hE hEd h48
      rw [vl_snoc, Lib.decDigits, dif_neg (by omega), show (vl E * 10 + (c.toNat - 48)) / 10 = vl E by omega, show (vl E * 10 + (c.toNat - 48)) % 10 = c.toNat - 48 by omega, hcc,
        ih E (by simp at hl; omega) hE hEd (Or.inr h48)]
theorem dec_isDg (u : Nat) : ∀ c ∈ Lib.decDigits u, isDg c = true := fun c hc => isDg_iff.2 (dec_digits u u (Nat.le_refl _) c hc)
theorem dec_head : ∀ (n u : Nat), u ≤ n → (Lib.decDigits u).length = 1 ∨ (Lib.decDigits u).head? ≠ some 48 := by
  intro n
  induction n with
  | zero =>
    intro u hu
    obtain rfl : u = 0 := by omega
    rw [Lib.decDigits_one (by decide)]
    exact Or.inl rfl
  | succ n ih =>
    intro u hu
    by_cases h : u < 10
    · rw [Lib.decDigits_one h]
      exact Or.inl rfl
    · right
      rw [Lib.decDigits, dif_neg h]
      by_cases h2 : u / 10 < 10
      · rw [Lib.decDigits_one h2]
        intro e
        have e := congrArg UInt8.toNat (Option.some.inj e)
        rw [dig_toNat h2] at e
        have : (48 : UInt8).toNat = 48 := rfl
        omega
      · rcases ih (u / 10) (by omega) with h3 | h3
        · rw [Lib.decDigits_length, Lib.nDigits_big h2] at h3
          have := Lib.nDigits_pos (u / 10 / 10)
          omega
        · cases hq : Lib.decDigits (u / 10) with
          | nil => exact absurd hq (dec_ne _)
          | cons a t => rw [hq] at h3; simpa using h3
theorem dec_zero {u : Nat} (h : Lib.decDigits u = [48]) : u = 0 := by
  have := vl_dec u u (Nat.le_refl _)
  rw [h] at this
  exact this.symm
theorem dec_len16 {u : Nat} (h : u ≤ 9007199254740992) : (Lib.decDigits u).length ≤ 16 := by
  rw [Lib.decDigits_length]
  have : ∀ (k u : Nat), k + 1 < Lib.nDigits u → 10 ^ (k + 1) ≤ u := by
    intro k
    induction k with
    | zero =>
      intro u hk
      by_cases h : u < 10
      · rw [Lib.nDigits_small h] at hk; omega
      · omega
    | succ k ih =>
      intro u hk
      by_cases h : u < 10
      · rw [Lib.nDigits_small h] at hk; omega
      · rw [Lib.nDigits_big h] at hk
        have := ih (u / 10) (by omega)
        rw [Nat.pow_succ]
        omega
  rcases Nat.lt_or_ge (Lib.nDigits u) 17 with h1 | h1
  · omega
  · have := this 15 u (by omega)
    omega
def momL (l : List UInt8) : Option Int :=
  match Lib.atoiAll l with
  | .ok v => if -9007199254740992 ≤ v ∧ v ≤ 9007199254740992 ∧ Lib.itoa v = l then some v else none
  | _ => none
theorem momL_iff {l : List UInt8} {n : Int} : momL l = some n ↔ l = Lib.itoa n ∧ -9007199254740992 ≤ n ∧ n ≤ 9007199254740992 := by
  constructor
  · intro h
    unfold momL at h
    split at h
    · split at h
      · rename_i c
        obtain rfl := Option.some.inj h
        exact ⟨c.2.2.symm, c.1, c.2.1⟩
      · cases h
    · cases h
  · rintro ⟨rfl, h1, h2⟩
    unfold momL
    rw [atoi_itoa n (by omega) (by omega)]
    show (if _ then _ else _) = _
    rw [if_pos ⟨h1, h2, rfl⟩]
theorem mom_digits {D : List UInt8} (neg : Bool) : (D ≠ [] ∧ D.length ≤ 16 ∧ (D.length ≤ 1 ∨ D.head? ≠ some 48) ∧ (neg = true → D ≠ [48]) ∧ (∀ c ∈ D, isDg c = true) ∧ vl D ≤ 9007199254740992) ↔
    ∃ n, momL (if neg = true then 45 :: D else D) = some n ∧ n = (if neg = true then -(vl D : Int) else vl D) ∧ (neg = true ∨ D.head? ≠ some 45) := by
  constructor
  · rintro ⟨h1, h2, h3, h4, h5, h6⟩
    have hd := dec_vl _ D (Nat.le_refl _) h1 h5 (by
      rcases h3 with h | h
      · left
        cases D with
        | nil => exact absurd rfl h1
        | cons a t => simp at h ⊢; omega
      · exact Or.inr h)
    refine ⟨_, momL_iff.2 ⟨?_, ?_, ?_⟩, rfl, ?_⟩
    · cases neg
      · simp only [Bool.false_eq_true, if_false]
        rw [itoa_nat, hd]
      · simp only [if_true]
        have hv : 0 < vl D := by
          rcases Nat.eq_zero_or_pos (vl D) with h | h
          · rw [h] at hd
            exact absurd (by rw [← hd]; exact Lib.decDigits_one (by decide)) (h4 rfl)
          · exact h
        rw [Lib.itoa_neg _ hv, hd]
    · cases neg <;> simp <;> omega
    · cases neg <;> simp <;> omega
    · cases neg
      · right
        intro h
        cases D with
        | nil => cases h
        | cons a t =>
          have := isDg_iff.1 (h5 a (.head _))
          have e : a = 45 := Option.some.inj h
          rw [e] at this
          exact absurd this.1 (by decide)
      · exact Or.inl rfl
  · rintro ⟨n, h1, h2, h3⟩
    obtain ⟨h4, h5, h6⟩ := momL_iff.1 h1
    cases neg
    · simp only [Bool.false_eq_true, if_false] at h4 h2
      have hn : 0 ≤ n := by omega
      have e : D = Lib.decDigits n.toNat := by
        rw [h4]
        unfold Lib.itoa
        rw [if_neg (by omega)]
      have hl := dec_len16 (u := n.toNat) (by omega)
      rw [← e] at hl
      refine ⟨by rw [e]; exact dec_ne _, hl, ?_, fun h => (by cases h), by rw [e]; exact dec_isDg _, by omega⟩
      rcases dec_head n.toNat n.toNat (Nat.le_refl _) with h | h
      · left; rw [e]; omega
      · right; rw [e]; exact h
    · simp only [if_true] at h4 h2
      rcases Int.lt_or_le n 0 with hn | hn
      · have e : D = Lib.decDigits n.natAbs := by
          unfold Lib.itoa at h4
          rw [if_pos hn] at h4
          exact (List.cons.inj h4).2
        have hl := dec_len16 (u := n.natAbs) (by omega)
        rw [← e] at hl
        refine ⟨by rw [e]; exact dec_ne _, hl, ?_, fun _ => ?_, by rw [e]; exact dec_isDg _, by omega⟩
        · rcases dec_head n.natAbs n.natAbs (Nat.le_refl _) with h | h
          · left; rw [e]; omega
          · right; rw [e]; exact h
        · intro h
          rw [e] at h
          have := dec_zero h
          omega
      · exfalso
        unfold Lib.itoa at h4
        rw [if_neg (by omega)] at h4
        obtain ⟨c, r, e, _, h45⟩ := dec_cons n.toNat
        rw [e] at h4
        exact h45 (by rw [← (List.cons.inj h4).1]; rfl)
end Go.Proofs.YtdhpcofnddkcaaaGreatDoor.Net
namespace Go.Proofs.YtdhpcofnddkcaaaGreatDoor.Net
open Go
set_option linter.unusedVariables false
set_option linter.unusedSimpArgs false
abbrev Ar := ByteArray × Int × ByteArray
abbrev St := Int × ByteArray × ByteArray × Bool × List ByteArray × ByteArray × ByteArray × List Ar
abbrev lb (s : ByteArray) : List UInt8 := s.data.toList
def bs (l : List UInt8) : ByteArray := ⟨l.toArray⟩
theorem lb_bs (l : List UInt8) : lb (bs l) = l := by simp [lb, bs]
theorem bs_lb (s : ByteArray) : bs (lb s) = s := by
  obtain ⟨d⟩ := s
  simp [lb, bs]
theorem lb_inj {s t : ByteArray} (h : lb s = lb t) : s = t := by rw [← bs_lb s, h, bs_lb]
def encB (p : ByteArray) : List UInt8 := enc (lb p)
def encs (ts : List ByteArray) : List UInt8 := ts.flatMap encB
theorem encs_nil : encs [] = [] := rfl
theorem encs_cons (t : ByteArray) (ts : List ByteArray) : encs (t :: ts) = encB t ++ encs ts := rfl
theorem encs_app (a b : List ByteArray) : encs (a ++ b) = encs a ++ encs b := List.flatMap_append
abbrev okT (p : ByteArray) : Prop := (lb p).length ≤ 262144
def rdB (l : List UInt8) (a : Nat) : Option (ByteArray × Nat) := match rd (l.drop a) with
  | some (p, m) => some (bs p, a + m)
  | none => none
theorem drop_more {l x r : List UInt8} {a : Nat} (h : l.drop a = x ++ r) : l.drop (a + x.length) = r := by
  rw [← List.drop_drop, h]
  simp
theorem rdB_sound {l : List UInt8} {a b : Nat} {p : ByteArray} (h : rdB l a = some (p, b)) : okT p ∧ b = a + (encB p).length ∧ l.drop a = encB p ++ l.drop b := by
  unfold rdB at h
  split at h
  · rename_i q m hq
    obtain ⟨h1, h2⟩ := Prod.mk.inj (Option.some.inj h)
    obtain ⟨c1, c2, r, c3⟩ := rd_sound hq
    subst h1 h2
    have e : encB (bs q) = enc q := by unfold encB; rw [lb_bs]
    rw [e]
    refine ⟨by unfold okT; rw [lb_bs]; exact c1, by rw [c2], ?_⟩
    rw [c2, drop_more c3]
    exact c3
  · cases h
theorem rdB_enc {l r : List UInt8} {a : Nat} {p : ByteArray} (hp : okT p) (h : l.drop a = encB p ++ r) : rdB l a = some (p, a + (encB p).length) ∧ l.drop (a + (encB p).length) = r := by
  refine ⟨?_, drop_more h⟩
  unfold rdB
  rw [h]
  unfold encB
  rw [rd_enc hp]
  show some (bs (lb p), _) = _
  rw [bs_lb]
def rdN (l : List UInt8) : Nat → Nat → Option (List ByteArray × Nat)
  | 0, a => some ([], a)
  | n + 1, a => match rdB l a with
    | none => none
    | some (t, a1) => match rdN l n a1 with
      | none => none
      | some (ts, a2) => some (t :: ts, a2)
theorem rdN_sound {l : List UInt8} : ∀ {n a b : Nat} {ts : List ByteArray}, rdN l n a = some (ts, b) → ts.length = n ∧ (∀ t ∈ ts, okT t) ∧ b = a + (encs ts).length ∧ l.drop a = encs ts ++ l.drop b
  | 0, a, b, ts, h => by
    obtain ⟨rfl, rfl⟩ := Prod.mk.inj (Option.some.inj h)
    exact ⟨rfl, (fun t h => by cases h), rfl, rfl⟩
  | n + 1, a, b, ts, h => by
    rw [rdN] at h
    split at h
    · cases h
    · rename_i t a1 h1
      split at h
      · cases h
      · rename_i us a2 h2
        obtain ⟨rfl, rfl⟩ := Prod.mk.inj (Option.some.inj h)
        obtain ⟨c1, c2, c3⟩ := rdB_sound h1
        obtain ⟨d1, d2, d3, d4⟩ := rdN_sound h2
        refine ⟨by simp [d1], ?_, ?_, ?_⟩
        · intro u hu
          rcases List.mem_cons.1 hu with rfl | hu
          · exact c1
          · exact d2 u hu
        · rw [d3, c2, encs_cons, List.length_append]; omega
        · rw [c3, d4, encs_cons, List.append_assoc]
theorem rdN_enc {l r : List UInt8} : ∀ {ts : List ByteArray} {a : Nat}, (∀ t ∈ ts, okT t) → l.drop a = encs ts ++ r → rdN l ts.length a = some (ts, a + (encs ts).length) ∧ l.drop (a + (encs ts).length) = r
  | [], a, _, h => ⟨rfl, h⟩
  | t :: ts, a, ho, h => by
    rw [encs_cons, List.append_assoc] at h
    obtain ⟨h1, h2⟩ := rdB_enc (ho t (.head _)) h
    obtain ⟨h3, h4⟩ := rdN_enc (ts := ts) (fun u hu => ho u (.tail _ hu)) h2
    refine ⟨?_, drop_more (by rw [encs_cons, List.append_assoc]; exact h)⟩
    rw [List.length_cons, rdN, h1]
    show (match rdN l ts.length (a + (encB t).length) with
      | none => none
      | some (ts, a2) => some (t :: ts, a2)) = _
    rw [h3]
    show some (t :: ts, _) = _
    rw [encs_cons, List.length_append]
    simp only [Option.some.injEq, Prod.mk.injEq, true_and]
    omega
def tnm (k : Int) : ByteArray := if k = 0 then ⟨#[116]⟩ else if k = 1 then ⟨#[110]⟩ else ⟨#[109]⟩
def kindOf (k : ByteArray) : Int := Lib.index [116, 110, 109] (lb k)
theorem kind_tnm {k : Int} (h : k = 0 ∨ k = 1 ∨ k = 2) : kindOf (tnm k) = k ∧ (lb (tnm k)).length = 1 := by
  rcases h with rfl | rfl | rfl <;> exact ⟨by decide, by decide⟩
theorem tnm_kind {k : ByteArray} (h : (lb k).length = 1) (hk : kindOf k = 0 ∨ kindOf k = 1 ∨ kindOf k = 2) : tnm (kindOf k) = k := by
  obtain ⟨c, hc⟩ : ∃ c, lb k = [c] := by
    cases hl : lb k with
    | nil => rw [hl] at h; simp at h
    | cons a t =>
      cases t with
      | nil => exact ⟨a, rfl⟩
      | cons b t => rw [hl] at h; simp at h
  have key : ∀ c : UInt8, (Lib.index [116, 110, 109] [c] = 0 ∨ Lib.index [116, 110, 109] [c] = 1 ∨ Lib.index [116, 110, 109] [c] = 2) → lb (tnm (Lib.index [116, 110, 109] [c])) = [c] := by
    intro c
    have : ∀ x : Fin 256, (Lib.index [116, 110, 109] [UInt8.ofNat x.val] = 0 ∨ Lib.index [116, 110, 109] [UInt8.ofNat x.val] = 1 ∨ Lib.index [116, 110, 109] [UInt8.ofNat x.val] = 2) → lb (tnm (Lib.index [116, 110, 109] [UInt8.ofNat x.val])) = [UInt8.ofNat x.val] := by decide +kernel
    have := this ⟨c.toNat, c.toNat_lt⟩
    simpa using this
  unfold kindOf at hk ⊢
  rw [hc] at hk ⊢
  exact lb_inj ((key c hk).trans hc.symm)
def argT (a : Ar) : List ByteArray := [a.1, tnm a.2.1, a.2.2]
def rdA (l : List UInt8) : Nat → Nat → Option (List Ar × Nat)
  | 0, a => some ([], a)
  | n + 1, a => match rdB l a with
    | none => none
    | some (nm, a1) => match rdB l a1 with
      | none => none
      | some (k, a2) => match rdB l a2 with
        | none => none
        | some (tx, a3) => if (lb k).length = 1 then (match rdA l n a3 with
            | none => none
            | some (ags, a4) => some ((nm, kindOf k, tx) :: ags, a4)) else none
abbrev okK (a : Ar) : Prop := a.2.1 = 0 ∨ a.2.1 = 1 ∨ a.2.1 = 2
abbrev okR (a : Ar) : Prop := okT a.1 ∧ okT a.2.2
def argsT (ags : List Ar) : List ByteArray := ags.flatMap argT
theorem argsT_cons (a : Ar) (ags : List Ar) : argsT (a :: ags) = argT a ++ argsT ags := rfl
theorem encs_arg (a : Ar) : encs (argT a) = encB a.1 ++ (encB (tnm a.2.1) ++ encB a.2.2) := by unfold argT; rw [encs_cons, encs_cons, encs_cons, encs_nil, List.append_nil]
theorem rdA_sound {l : List UInt8} : ∀ {n a b : Nat} {ags : List Ar}, rdA l n a = some (ags, b) → (∀ x ∈ ags, okK x) → ags.length = n ∧ (∀ x ∈ ags, okR x) ∧ b = a + (encs (argsT ags)).length ∧ l.drop a = encs (argsT ags) ++ l.drop b
  | 0, a, b, ags, h, _ => by
    obtain ⟨rfl, rfl⟩ := Prod.mk.inj (Option.some.inj h)
    exact ⟨rfl, (fun t h => by cases h), rfl, rfl⟩
  | n + 1, a, b, ags, h, hk => by
    rw [rdA] at h
    split at h
    · cases h
    · rename_i nm a1 h1
      split at h
      · cases h
      · rename_i k a2 h2
        split at h
        · cases h
        · rename_i tx a3 h3
          split at h
          · rename_i hl
            split at h
            · cases h
            · rename_i us a4 h4
              obtain ⟨rfl, rfl⟩ := Prod.mk.inj (Option.some.inj h)
              obtain ⟨c1, c2, c3⟩ := rdB_sound h1
              obtain ⟨e1, e2, e3⟩ := rdB_sound h2
              obtain ⟨f1, f2, f3⟩ := rdB_sound h3
              obtain ⟨d1, d2, d3, d4⟩ := rdA_sound h4 (fun x hx => hk x (.tail _ hx))
              have hkk := tnm_kind hl (hk _ (.head _))
              have ea : encs (argT (nm, kindOf k, tx)) = encB nm ++ (encB k ++ encB tx) := by rw [encs_arg]; show encB nm ++ (encB (tnm (kindOf k)) ++ encB tx) = _; rw [hkk]
              refine ⟨by simp [d1], ?_, ?_, ?_⟩
              · intro u hu
                rcases List.mem_cons.1 hu with rfl | hu
                · exact ⟨c1, f1⟩
                · exact d2 u hu
              · rw [d3, f2, e2, c2, argsT_cons, encs_app, ea]
                simp only [List.length_append]
                omega
              · rw [c3, e3, f3, d4, argsT_cons, encs_app, ea]
                simp only [List.append_assoc]
          · cases h
theorem rdA_enc {l r : List UInt8} : ∀ {ags : List Ar} {a : Nat}, (∀ x ∈ ags, okK x) → (∀ x ∈ ags, okR x) → l.drop a = encs (argsT ags) ++ r → rdA l ags.length a = some (ags, a + (encs (argsT ags)).length) ∧ l.drop (a + (encs (argsT ags)).length) = r
  | [], a, _, _, h => ⟨rfl, h⟩
  | x :: ags, a, hk, ho, h => by
    have h0 := h
    rw [argsT_cons, encs_app, encs_arg] at h
    simp only [List.append_assoc] at h
    obtain ⟨k1, k2⟩ := kind_tnm (hk x (.head _))
    obtain ⟨o1, o2⟩ := ho x (.head _)
    obtain ⟨h1, g1⟩ := rdB_enc o1 h
    obtain ⟨h2, g2⟩ := rdB_enc (p := tnm x.2.1) (by unfold okT; rw [k2]; decide) g1
    obtain ⟨h3, g3⟩ := rdB_enc o2 g2
    obtain ⟨h4, g4⟩ := rdA_enc (ags := ags) (fun u hu => hk u (.tail _ hu)) (fun u hu => ho u (.tail _ hu)) g3
    refine ⟨?_, drop_more h0⟩
    rw [List.length_cons, rdA, h1]
    simp only [h2, h3, if_pos k2, h4, k1]
    simp only [Option.some.injEq, Prod.mk.injEq, true_and]
    rw [argsT_cons, encs_app, encs_arg]
    simp only [List.length_append]
    omega
def cA : ByteArray := ⟨#[97]⟩
def cC : ByteArray := ⟨#[99]⟩
def cQ : ByteArray := ⟨#[113]⟩
def c0 : ByteArray := ⟨#[48]⟩
def c1 : ByteArray := ⟨#[49]⟩
def em : ByteArray := ⟨#[]⟩
def stepR (l : List UInt8) (a : Nat) : Option (St × Nat) :=
  match rdB l a with
  | none => none
  | some (t, a0) =>
    if t = cA then
      match rdB l a0 with
      | none => none
      | some (tag, a1) => match rdB l a1 with
        | none => none
        | some (ov, a2) => if ov = c0 ∨ ov = c1 then (match rdB l a2 with
            | none => none
            | some (by_, a3) => some ((0, tag, by_, decide (ov = c1), [], em, em, []), a3)) else none
    else if t = cC then
      match rdB l a0 with
      | none => none
      | some (tag, a1) => match rdB l a1 with
        | none => none
        | some (cn, a2) => match cnt (lb cn) with
          | none => none
          | some n => match rdN l n a2 with
            | none => none
            | some (ws, a3) => some ((1, tag, em, false, ws, em, em, []), a3)
    else if t = cQ then
      match rdB l a0 with
      | none => none
      | some (nm, a1) => match rdB l a1 with
        | none => none
        | some (at_, a2) => match rdB l a2 with
          | none => none
          | some (cn, a3) => match cnt (lb cn) with
            | none => none
            | some n => match rdA l n a3 with
              | none => none
              | some (ags, a4) => some ((2, em, em, false, [], nm, at_, ags), a4)
    else none
def itoaB (n : Nat) : ByteArray := bs (Lib.decDigits n)
def parts : St → List ByteArray
  | (k, tag, by_, ov, ws, nm, at_, ags) =>
    if k = 0 then [cA, tag, if ov = true then c1 else c0, by_]
    else if k = 1 then [cC, tag, itoaB ws.length] ++ ws
    else [cQ, nm, at_, itoaB ags.length] ++ argsT ags
def right (okA : Ar → Bool) : St → Bool
  | (k, tag, by_, ov, ws, nm, at_, ags) =>
    ags.all okA && (if k = 0 then decide (nm = em ∧ at_ = em ∧ ags = [] ∧ ws = []) else if k = 1 then decide (nm = em ∧ at_ = em ∧ ags = [] ∧ by_ = em ∧ ov = false)
      else if k = 2 then decide (by_ = em ∧ ov = false ∧ tag = em ∧ ws = []) else false)
def small : St → Prop
  | (k, tag, by_, ov, ws, nm, at_, ags) => okT tag ∧ okT by_ ∧ okT nm ∧ okT at_ ∧ ws.length ≤ 262144 ∧ ags.length ≤ 262144 ∧ (∀ t ∈ ws, okT t) ∧ (∀ x ∈ ags, okR x)
theorem em_ok : okT em := by decide
theorem itoaB_ok {n : Nat} (h : n ≤ 262144) : okT (itoaB n) := by
  unfold okT itoaB
  rw [lb_bs]
  have := dec_len h
  omega
theorem cnt_itoaB {n : Nat} (h : n ≤ 262144) : cnt (lb (itoaB n)) = some n := by
  unfold itoaB
  rw [lb_bs]
  exact cnt_dec h
theorem itoaB_of {c : ByteArray} {n : Nat} (h : cnt (lb c) = some n) : n ≤ 262144 ∧ c = itoaB n := by
  obtain ⟨h1, h2⟩ := cnt_some h
  exact ⟨h1, lb_inj (by unfold itoaB; rw [lb_bs]; exact h2)⟩
theorem stepR_sound {okA : Ar → Bool} (hA : ∀ x, okA x = true → okK x) {l : List UInt8} {a b : Nat} {s : St} (h : stepR l a = some (s, b)) (hr : right okA s = true) :
    small s ∧ b = a + (encs (parts s)).length ∧ l.drop a = encs (parts s) ++ l.drop b := by
  unfold stepR at h
  split at h
  · cases h
  rename_i t a0 h0
  obtain ⟨u0, u1, u2⟩ := rdB_sound h0
  split at h
  · rename_i ht
    subst ht
    split at h
    · cases h
    rename_i tag a1 h1
    obtain ⟨v0, v1, v2⟩ := rdB_sound h1
    split at h
    · cases h
    rename_i ov a2 h2
    obtain ⟨w0, w1, w2⟩ := rdB_sound h2
    split at h
    · rename_i hov
      split at h
      · cases h
      rename_i by_ a3 h3
      obtain ⟨x0, x1, x2⟩ := rdB_sound h3
      obtain ⟨rfl, rfl⟩ := Prod.mk.inj (Option.some.inj h)
      have e : (if decide (ov = c1) = true then c1 else c0) = ov := by
        rcases hov with rfl | rfl
        · rw [if_neg (by decide)]
        · rw [if_pos (by decide)]
      have ep : encs (parts (0, tag, by_, decide (ov = c1), [], em, em, [])) = encB cA ++ (encB tag ++ (encB ov ++ encB by_)) := by
        show encs [cA, tag, if decide (ov = c1) = true then c1 else c0, by_] = _
        rw [e, encs_cons, encs_cons, encs_cons, encs_cons, encs_nil, List.append_nil]
      refine ⟨⟨v0, x0, em_ok, em_ok, by decide, by decide, (fun t h => by cases h), (fun t h => by cases h)⟩, ?_, ?_⟩
      · rw [ep, x1, w1, v1, u1]; simp only [List.length_append]; omega
      · rw [ep, u2, v2, w2, x2]; simp only [List.append_assoc]
    · cases h
  · split at h
    · rename_i ht
      subst ht
      split at h
      · cases h
      rename_i tag a1 h1
      obtain ⟨v0, v1, v2⟩ := rdB_sound h1
      split at h
      · cases h
      rename_i cn a2 h2
      obtain ⟨w0, w1, w2⟩ := rdB_sound h2
      split at h
      · cases h
      rename_i n hn
      obtain ⟨hn1, rfl⟩ := itoaB_of hn
      split at h
      · cases h
      rename_i ws a3 h3
      obtain ⟨x0, x1, x2, x3⟩ := rdN_sound h3
      obtain ⟨rfl, rfl⟩ := Prod.mk.inj (Option.some.inj h)
      subst x0
      have ep : encs (parts (1, tag, em, false, ws, em, em, [])) = encB cC ++ (encB tag ++ (encB (itoaB ws.length) ++ encs ws)) := by
        show encs ([cC, tag, itoaB ws.length] ++ ws) = _
        rw [encs_app, encs_cons, encs_cons, encs_cons, encs_nil, List.append_nil]
        simp only [List.append_assoc]
      refine ⟨⟨v0, em_ok, em_ok, em_ok, hn1, by decide, x1, (fun t h => by cases h)⟩, ?_, ?_⟩
      · rw [ep, x2, w1, v1, u1]; simp only [List.length_append]; omega
      · rw [ep, u2, v2, w2, x3]; simp only [List.append_assoc]
    · split at h
      · rename_i ht
        subst ht
        split at h
        · cases h
        rename_i nm a1 h1
        obtain ⟨v0, v1, v2⟩ := rdB_sound h1
        split at h
        · cases h
        rename_i at_ a2 h2
        obtain ⟨w0, w1, w2⟩ := rdB_sound h2
        split at h
        · cases h
        rename_i cn a3 h3
        obtain ⟨y0, y1, y2⟩ := rdB_sound h3
        split at h
        · cases h
        rename_i n hn
        obtain ⟨hn1, rfl⟩ := itoaB_of hn
        split at h
        · cases h
        rename_i ags a4 h4
        obtain ⟨rfl, rfl⟩ := Prod.mk.inj (Option.some.inj h)
        have hall : ags.all okA = true := by
          unfold right at hr
          exact (Bool.and_eq_true _ _ ▸ hr).1
        obtain ⟨x0, x1, x2, x3⟩ := rdA_sound h4 (fun x hx => hA x (List.all_eq_true.1 hall x hx))
        subst x0
        have ep : encs (parts (2, em, em, false, [], nm, at_, ags)) = encB cQ ++ (encB nm ++ (encB at_ ++ (encB (itoaB ags.length) ++ encs (argsT ags)))) := by
          show encs ([cQ, nm, at_, itoaB ags.length] ++ argsT ags) = _
          rw [encs_app, encs_cons, encs_cons, encs_cons, encs_cons, encs_nil, List.append_nil]
          simp only [List.append_assoc]
        refine ⟨⟨em_ok, em_ok, v0, w0, by decide, hn1, (fun t h => by cases h), x1⟩, ?_, ?_⟩
        · rw [ep, x2, y1, w1, v1, u1]; simp only [List.length_append]; omega
        · rw [ep, u2, v2, w2, y2, x3]; simp only [List.append_assoc]
      · cases h
theorem stepR_enc {okA : Ar → Bool} (hA : ∀ x, okA x = true → okK x) {l r : List UInt8} {a : Nat} {s : St} (hr : right okA s = true) (hs : small s) (h : l.drop a = encs (parts s) ++ r) :
    stepR l a = some (s, a + (encs (parts s)).length) ∧ l.drop (a + (encs (parts s)).length) = r := by
  refine ⟨?_, drop_more h⟩
  obtain ⟨k, tag, by_, ov, ws, nm, at_, ags⟩ := s
  obtain ⟨s1, s2, s3, s4, s5, s6, s7, s8⟩ := hs
  have hr' := Bool.and_eq_true _ _ ▸ hr
  obtain ⟨hall, hk⟩ := hr'
  by_cases k0 : k = 0
  · subst k0
    rw [if_pos rfl] at hk
    obtain ⟨rfl, rfl, rfl, rfl⟩ := of_decide_eq_true hk
    have ep : encs (parts (0, tag, by_, ov, [], em, em, [])) = encB cA ++ (encB tag ++ (encB (if ov = true then c1 else c0) ++ encB by_)) := by
      show encs [cA, tag, if ov = true then c1 else c0, by_] = _
      rw [encs_cons, encs_cons, encs_cons, encs_cons, encs_nil, List.append_nil]
    rw [ep] at h ⊢
    simp only [List.append_assoc] at h
    obtain ⟨h1, g1⟩ := rdB_enc (p := cA) (by decide) h
    obtain ⟨h2, g2⟩ := rdB_enc s1 g1
    obtain ⟨h3, g3⟩ := rdB_enc (p := if ov = true then c1 else c0) (by cases ov <;> decide) g2
    obtain ⟨h4, g4⟩ := rdB_enc s2 g3
    unfold stepR
    rw [h1]
    simp only [if_true, h2, h3, h4]
    rw [if_pos (by cases ov; exact Or.inl rfl; exact Or.inr rfl)]
    have e : decide ((if ov = true then c1 else c0) = c1) = ov := by cases ov <;> decide
    rw [e]
    simp only [Option.some.injEq, Prod.mk.injEq, true_and, List.length_append]
    omega
  · rw [if_neg k0] at hk
    by_cases k1 : k = 1
    · subst k1
      rw [if_pos rfl] at hk
      obtain ⟨rfl, rfl, rfl, rfl, rfl⟩ := of_decide_eq_true hk
      have ep : encs (parts (1, tag, em, false, ws, em, em, [])) = encB cC ++ (encB tag ++ (encB (itoaB ws.length) ++ encs ws)) := by
        show encs ([cC, tag, itoaB ws.length] ++ ws) = _
        rw [encs_app, encs_cons, encs_cons, encs_cons, encs_nil, List.append_nil]
        simp only [List.append_assoc]
      rw [ep] at h ⊢
      simp only [List.append_assoc] at h
      obtain ⟨h1, g1⟩ := rdB_enc (p := cC) (by decide) h
      obtain ⟨h2, g2⟩ := rdB_enc s1 g1
      obtain ⟨h3, g3⟩ := rdB_enc (itoaB_ok s5) g2
      obtain ⟨h4, g4⟩ := rdN_enc s7 g3
      unfold stepR
      rw [h1]
      simp only [show ¬ cC = cA by decide, if_true, if_false, h2, h3, cnt_itoaB s5, h4]
      simp only [Option.some.injEq, Prod.mk.injEq, true_and, List.length_append]
      omega
    · rw [if_neg k1] at hk
      by_cases k2 : k = 2
      · subst k2
        rw [if_pos rfl] at hk
        obtain ⟨rfl, rfl, rfl, rfl⟩ := of_decide_eq_true hk
        have ep : encs (parts (2, em, em, false, [], nm, at_, ags)) = encB cQ ++ (encB nm ++ (encB at_ ++ (encB (itoaB ags.length) ++ encs (argsT ags)))) := by
          show encs ([cQ, nm, at_, itoaB ags.length] ++ argsT ags) = _
          rw [encs_app, encs_cons, encs_cons, encs_cons, encs_cons, encs_nil, List.append_nil]
          simp only [List.append_assoc]
        rw [ep] at h ⊢
        simp only [List.append_assoc] at h
        obtain ⟨h1, g1⟩ := rdB_enc (p := cQ) (by decide) h
        obtain ⟨h2, g2⟩ := rdB_enc s3 g1
        obtain ⟨h3, g3⟩ := rdB_enc s4 g2
        obtain ⟨h4, g4⟩ := rdB_enc (itoaB_ok s6) g3
        obtain ⟨h5, g5⟩ := rdA_enc (fun x hx => hA x (List.all_eq_true.1 hall x hx)) s8 g4
        unfold stepR
        rw [h1]
        simp only [show ¬ cQ = cA by decide, show ¬ cQ = cC by decide, if_true, if_false, h2, h3, h4, cnt_itoaB s6, h5]
        simp only [Option.some.injEq, Prod.mk.injEq, true_and, List.length_append]
        omega
      · rw [if_neg k2] at hk
        cases hk
end Go.Proofs.YtdhpcofnddkcaaaGreatDoor.Net
namespace Go.Proofs.YtdhpcofnddkcaaaGreatDoor.Net
open Go
set_option linter.unusedVariables false
set_option linter.unusedSimpArgs false
def decR (okA : Ar → Bool) (l : List UInt8) : Nat → Nat → Nat → List St × Nat × Int
  | 0, _, a => ([], a, 0)
  | f + 1, room, a => if a < l.length then (match stepR l a with
      | none => ([], a, 2)
      | some (s, b) => if right okA s = true then (if room = 0 then ([], a, 4) else (s :: (decR okA l f (room - 1) b).1, (decR okA l f (room - 1) b).2.1, (decR okA l f (room - 1) b).2.2)) else ([], a, 2))
    else ([], a, 0)
def encS (list : List St) : List UInt8 := list.flatMap fun s => encs (parts s)
theorem encS_cons (s : St) (t : List St) : encS (s :: t) = encs (parts s) ++ encS t := rfl
theorem encS_nil : encS [] = [] := rfl
theorem encB_len (t : ByteArray) : 2 < (encB t).length := by
  unfold encB
  rw [enc_length]
  have := Lib.decDigits_length (lb t).length
  have := Lib.nDigits_pos (lb t).length
  omega
theorem parts_cons (s : St) : ∃ t ts, parts s = t :: ts := by
  obtain ⟨k, tag, by_, ov, ws, nm, at_, ags⟩ := s
  show ∃ t ts, (if k = 0 then [cA, tag, if ov = true then c1 else c0, by_] else if k = 1 then [cC, tag, itoaB ws.length] ++ ws else [cQ, nm, at_, itoaB ags.length] ++ argsT ags) = t :: ts
  split
  · exact ⟨_, _, rfl⟩
  · split
    · exact ⟨_, _, rfl⟩
    · exact ⟨_, _, rfl⟩
theorem parts_len (s : St) : 2 < (encs (parts s)).length := by
  obtain ⟨t, ts, e⟩ := parts_cons s
  rw [e, encs_cons, List.length_append]
  have := encB_len t
  omega
theorem drop_lt {l x r : List UInt8} {a : Nat} (h : l.drop a = x ++ r) (hx : 0 < x.length) : a < l.length := by
  rcases Nat.lt_or_ge a l.length with h1 | h1
  · exact h1
  · rw [List.drop_eq_nil_of_le h1] at h
    have := congrArg List.length h
    simp at this
    omega
theorem drop_le {l x r : List UInt8} {a : Nat} (h : l.drop a = x ++ r) (ha : a ≤ l.length) : a + x.length ≤ l.length := by
  have := congrArg List.length h
  rw [List.length_drop, List.length_append] at this
  omega
theorem decR_enc {okA : Ar → Bool} (hA : ∀ x, okA x = true → okK x) {l r : List UInt8} : ∀ {list : List St} {f room a : Nat}, (∀ s ∈ list, right okA s = true) → (∀ s ∈ list, small s) → list.length ≤ room →
    l.drop a = encS list ++ r → decR okA l (list.length + f) room a = (list ++ (decR okA l f (room - list.length) (a + (encS list).length)).1, (decR okA l f (room - list.length) (a + (encS list).length)).2.1, (decR okA l f (room - list.length) (a + (encS list).length)).2.2)
  | [], f, room, a, _, _, _, h => by
    simp [encS_nil]
  | s :: t, f, room, a, hr, hs, hm, h => by
    rw [encS_cons, List.append_assoc] at h
    obtain ⟨h1, h2⟩ := stepR_enc hA (hr s (.head _)) (hs s (.head _)) h
    have h0 := parts_len s
    have hlt := drop_lt h (by omega)
    have ih := decR_enc hA (list := t) (f := f) (room := room - 1) (fun x hx => hr x (.tail _ hx)) (fun x hx => hs x (.tail _ hx)) (by simp at hm; omega) h2
    rw [List.length_cons, show t.length + 1 + f = (t.length + f) + 1 by omega, decR, if_pos hlt, h1]
    simp only [hr s (.head _), if_true]
    rw [if_neg (by simp at hm; omega), ih, encS_cons, List.length_append]
    rw [show room - 1 - t.length = room - (t.length + 1) by omega, show a + (encs (parts s)).length + (encS t).length = a + ((encs (parts s)).length + (encS t).length) by omega]
    rfl
theorem decR_end (okA : Ar → Bool) (l : List UInt8) (f room a : Nat) (h : l.length ≤ a) : decR okA l f room a = ([], a, 0) := by
  cases f with
  | zero => rfl
  | succ f => rw [decR, if_neg (by omega)]
theorem decR_all {okA : Ar → Bool} (hA : ∀ x, okA x = true → okK x) {list : List St} {f room : Nat} (hr : ∀ s ∈ list, right okA s = true) (hs : ∀ s ∈ list, small s) (hm : list.length ≤ room) :
    decR okA (encS list) (list.length + f) room 0 = (list, (encS list).length, 0) := by
  rw [decR_enc hA hr hs hm (r := []) (by simp), Nat.zero_add, decR_end _ _ _ _ _ (Nat.le_refl _)]
  simp
def noStep (okA : Ar → Bool) (l : List UInt8) (a : Nat) : Prop := ∀ s b, stepR l a = some (s, b) → right okA s = false
theorem noStep_cut {okA : Ar → Bool} (hA : ∀ x, okA x = true → okK x) {s : St} (hr : right okA s = true) (hs : small s) {k : Nat} (hk : k < (encs (parts s)).length) : noStep okA ((encs (parts s)).take k) 0 := by
  intro t b ht
  cases hq : right okA t with
  | false => rfl
  | true =>
    obtain ⟨h1, h2, h3⟩ := stepR_sound hA ht hq
    have e1 : (encs (parts s)).drop 0 = encs (parts t) ++ ((encs (parts s)).take k |>.drop b) ++ (encs (parts s)).drop k := by
      rw [List.drop_zero, ← h3, List.drop_zero, List.take_append_drop]
    rw [List.append_assoc] at e1
    have h4 := (stepR_enc hA hq h1 e1).1
    have h5 := (stepR_enc hA hr hs (l := encs (parts s)) (a := 0) (r := []) (by simp)).1
    rw [h4] at h5
    obtain ⟨h6, h7⟩ := Prod.mk.inj (Option.some.inj h5)
    subst h6
    have h8 := congrArg List.length h3
    rw [List.drop_zero, List.length_take, List.length_append] at h8
    omega
end Go.Proofs.YtdhpcofnddkcaaaGreatDoor.Net
namespace Go.Proofs.YtdhpcofnddkcaaaGreatDoor.Net
open Go
set_option linter.unusedVariables false
set_option linter.unusedSimpArgs false
theorem enc_one (c : UInt8) : enc [c] = [49, 58, c, 44] := by
  unfold enc
  rw [show [c].length = 1 from rfl, Lib.decDigits_one (by decide)]
  rfl
def stE : St := (1, ⟨#[101, 110]⟩, em, false, [], em, em, [])
theorem stE_bytes : encs (parts stE) = [49, 58, 99, 44, 50, 58, 101, 110, 44, 49, 58, 48, 44] := by
  have e : parts stE = [cC, ⟨#[101, 110]⟩, itoaB 0] := rfl
  rw [e, encs_cons, encs_cons, encs_cons, encs_nil]
  have h1 : encB cC = [49, 58, 99, 44] := enc_one 99
  have h2 : encB ⟨#[101, 110]⟩ = [50, 58, 101, 110, 44] := by
    show enc [101, 110] = _
    unfold enc
    rw [show ([101, 110] : List UInt8).length = 2 from rfl, Lib.decDigits_one (by decide)]
    rfl
  have h3 : encB (itoaB 0) = [49, 58, 48, 44] := by
    unfold encB itoaB
    rw [lb_bs, Lib.decDigits_one (by decide)]
    exact enc_one 48
  rw [h1, h2, h3]
  rfl
theorem stE_right (okA : Ar → Bool) : right okA stE = true := rfl
theorem stE_small : small stE := ⟨by decide, em_ok, em_ok, em_ok, by decide, by decide, (fun t h => by cases h), (fun t h => by cases h)⟩
end Go.Proofs.YtdhpcofnddkcaaaGreatDoor.Net
namespace Go.Proofs.YtdhpcofnddkcaaaGreatDoor.G
open Go.RowKit Go.Proofs.YtdhpcofnddkcaaaGreatDoorW.PrintWords
set_option linter.unusedVariables false
set_option linter.unusedSimpArgs false
def ErrAt (g : Nat) (w : World) : Prop := ∃ ev, w.cell? ⟨g, 0, none⟩ = some ev ∧ (ev = .nilIface ∨ ∃ te pe, ev = .iface te pe)
theorem ErrAt.step {g : Nat} {w W : World} (h : ErrAt g w) (b : Below w.heap.size w W) : ErrAt g W := by
  obtain ⟨ev, h, he⟩ := h
  exact ⟨ev, (b.cell (p := ⟨g, 0, none⟩) (World.block_lt_of_cell? _ _ h)).trans h, he⟩
def TabE_ (w : World) : Prop := ErrAt 2 w ∧ ErrAt 3 w
theorem TabE_.step {w W : World} (h : TabE_ w) (b : Below w.heap.size w W) : TabE_ W := ⟨h.1.step b, h.2.step b⟩
def strings_Index.f (s p : ByteArray) : Option Int := if s.size < 4294967281 then some (Lib.index s.data.toList p.data.toList) else none
theorem strings_Index.calls (s p : ByteArray) (r : Int) (w : World) (h : strings_Index.f s p = some r) (HT0_ : Tab_ w := by exact Tab_.step HT0_ (by repeat (first | (with_reducible first | exact HB.out | apply below_alloc | apply pw_below_drewN | apply below_drew1 | refine below_set ?_ (Aside0.out (by assumption))) | exact HB.out))) :
    Calls Tryz.prog 37 #[.string s, .string p] w fun e w' => e = .returned (.int .i64 r) ∧ Below w.heap.size w w' := by
  unfold strings_Index.f at h
  by_cases hs : s.size < 4294967281
  · rw [if_pos hs] at h
    obtain rfl := Option.some.inj h
    obtain ⟨m, hm⟩ := HT0_
    exact (Tryz.strings_Index s p m w hs hm).mono fun e w' ⟨he, hw⟩ => ⟨he, by subst hw; exact Below.refl _ _⟩
  · rw [if_neg hs] at h
    exact absurd h (by simp)
def strconv_Itoa.f (n : Int) : Option ByteArray := if -9223372036854775808 ≤ n ∧ n ≤ 9223372036854775807 then some ⟨(Lib.itoa n).toArray⟩ else none
theorem strconv_Itoa.calls (n : Int) (r : ByteArray) (w : World) (h : strconv_Itoa.f n = some r) (HP0_ : TabP_ w := by exact TabP_.step HP0_ (by repeat (first | (with_reducible first | exact HB.out | apply below_alloc | apply pw_below_drewN | apply below_drew1 | refine below_set ?_ (Aside0.out (by assumption))) | exact HB.out))) :
    Calls Tryz.prog 20 #[.int .i64 n] w fun e w' => e = .returned (.string r) ∧ Below w.heap.size w w' := by
  unfold strconv_Itoa.f at h
  by_cases hs : -9223372036854775808 ≤ n ∧ n ≤ 9223372036854775807
  · rw [if_pos hs] at h
    obtain rfl := Option.some.inj h
    exact (Tryz.strconv_Itoa n hs.1 hs.2 w HP0_).mono fun e w' ⟨he, k, os, hw⟩ => ⟨he, by subst hw; exact Lib.below_grow _ w (Nat.le_refl _) k os⟩
  · rw [if_neg hs] at h
    exact absurd h (by simp)
def numF (lo hi : Int) (s : ByteArray) : Int × Bool := match Lib.atoiAll s.data.toList with
  | .ok v => (v, decide (lo ≤ v ∧ v ≤ hi ∧ Lib.itoa v = s.data.toList))
  | .range => (Lib.atoiSat s.data.toList, false)
  | _ => (0, false)
def script_count.f (s : ByteArray) : Option (Int × Bool) := if s.size ≤ 281474976710656 then some (numF 0 262144 s) else none
def script_seconds.f (s : ByteArray) : Option (Int × Bool) := if s.size ≤ 281474976710656 then some (numF (-9007199254740992) 9007199254740992 s) else none
theorem atoi_bad (s : ByteArray) (hlim : s.size ≤ 281474976710656) (h1 : ∀ v, Lib.atoiAll s.data.toList ≠ .ok v) (h2 : Lib.atoiAll s.data.toList ≠ .range) (ev : Value) (w : World) (hv : w.cell? ⟨2, 0, none⟩ = some ev) (hev : ev = .nilIface ∨ ∃ te pe, ev = .iface te pe) :
    Calls Tryz.prog 61 #[.string s] w fun e w' => ∃ N, e = .returned (.tuple #[.int .i64 (0), .iface 123 (.pointer (some ⟨N, 0, none⟩))]) ∧ True ∧ True ∧ Below w.heap.size w w' := by
  rcases h : Lib.atoiAll s.data.toList with v | _ | _
  · exact absurd h (h1 v)
  · exact (Any.strconv_Atoi_syntax Tryz.laysC172 s hlim h ev w hv hev).mono fun e w' ⟨N, he, _, _, hb⟩ => ⟨N, he, trivial, trivial, hb⟩
  · exact absurd h h2
theorem parse_bad (s : ByteArray) (hlim : s.size ≤ 281474976710656) (h1 : ∀ v, Lib.parseIntB 64 s.data.toList ≠ .ok v) (h2 : Lib.parseIntB 64 s.data.toList ≠ .range) (ev : Value) (w : World) (hv : w.cell? ⟨2, 0, none⟩ = some ev) (hev : ev = .nilIface ∨ ∃ te pe, ev = .iface te pe) :
    Calls Tryz.prog 43 #[.string s, .int .i64 10, .int .i64 64] w fun e w' => ∃ N, e = .returned (.tuple #[.int .i64 (0), .iface 123 (.pointer (some ⟨N, 0, none⟩))]) ∧ True ∧ True ∧ Below w.heap.size w w' := by
  rcases h : Lib.parseIntB 64 s.data.toList with v | _ | _
  · exact absurd h (h1 v)
  · exact (Any.strconv_ParseInt_10_at64_syntax Tryz.laysC174 s hlim h ev w hv hev).mono fun e w' ⟨N, he, _, _, hb⟩ => ⟨N, he, trivial, trivial, hb⟩
  · exact absurd h h2
set_option maxRecDepth 100000 in
set_option maxHeartbeats 2000000 in
theorem script_count.calls (s : ByteArray) (r0 : Int) (r1 : Bool) (w : World) (h : script_count.f s = some (r0, r1))
    (HP0_ : TabP_ w := by exact TabP_.step HP0_ (by repeat (first | (with_reducible first | exact HB.out | apply below_alloc | apply pw_below_drewN | apply below_drew1 | refine below_set ?_ (Aside0.out (by assumption))) | exact HB.out)))
    (HE0_ : TabE_ w := by exact TabE_.step HE0_ (by repeat (first | (with_reducible first | exact HB.out | apply below_alloc | apply pw_below_drewN | apply below_drew1 | refine below_set ?_ (Aside0.out (by assumption))) | exact HB.out))) :
    Calls Tryz.prog 48 #[.string s] w fun e w' => e = .returned (.tuple #[.int .i64 r0, .bool r1]) ∧ Below w.heap.size w w' := by
  unfold script_count.f at h
  by_cases hs : s.size ≤ 281474976710656
  · rw [if_pos hs] at h
    have h := Option.some.inj h
    unfold numF at h
    obtain ⟨⟨ev0, hv0, he0⟩, ⟨ev1, hv1, he1⟩⟩ := HE0_
    rcases ha : Lib.atoiAll s.data.toList with v | _ | _
    ·
      rw [ha] at h
      obtain ⟨rfl, rfl⟩ := Prod.mk.inj h
      have hb := Lib.atoiAll_bounds ha
      by_cases c0 : 0 ≤ v
      · by_cases c1 : v ≤ 262144
        · have hq : (decide (0 ≤ v ∧ v ≤ 262144 ∧ Lib.itoa v = s.data.toList)) = (Lib.itoa v == s.toList) := by
            rw [Lib.toList_data, Bool.eq_iff_iff, decide_eq_true_iff, beq_iff_eq]
            exact ⟨fun h => h.2.2, fun h => ⟨c0, c1, h⟩⟩
          rw [hq]
          go_enter Tryz.func48, Tryz.ntmps48
          go_wp2_with (first
            | (go_at_call 61; refine (Tryz.strconv_Atoi_ok s (by omega) v ha _).mono ?_; rintro e W1 ⟨rfl, hw⟩; have b1 : Below w.heap.size w W1 := (by rcases hw with rfl | ⟨t, rfl⟩; exact Below.refl _ _; exact Lib.bytesWorld_below _ _ _))
            | (go_at_call 20; refine (Tryz.strconv_Itoa v (by omega) (by omega) _ (TabP_.step HP0_ (by first | exact b1 | exact b1.drew))).mono ?_; rintro e W2 ⟨rfl, k2, os2, hw2⟩; have b2 := Lib.below_grow W1.heap.size W1 (Nat.le_refl _) k2 os2; rw [← hw2] at b2; clear hw2))
          go_ret2
          exact ⟨rfl, b1.trans (b2.mono b1.size)⟩
        · have hq : (decide (0 ≤ v ∧ v ≤ 262144 ∧ Lib.itoa v = s.data.toList)) = false := decide_eq_false (by omega)
          rw [hq]
          go_enter Tryz.func48, Tryz.ntmps48
          go_wp2_with (go_at_call 61; refine (Tryz.strconv_Atoi_ok s (by omega) v ha _).mono ?_; rintro e W1 ⟨rfl, hw⟩; have b1 : Below w.heap.size w W1 := (by rcases hw with rfl | ⟨t, rfl⟩; exact Below.refl _ _; exact Lib.bytesWorld_below _ _ _))
          go_ret2
          exact ⟨rfl, b1⟩
      · have hq : (decide (0 ≤ v ∧ v ≤ 262144 ∧ Lib.itoa v = s.data.toList)) = false := decide_eq_false (by omega)
        rw [hq]
        go_enter Tryz.func48, Tryz.ntmps48
        go_wp2_with (go_at_call 61; refine (Tryz.strconv_Atoi_ok s (by omega) v ha _).mono ?_; rintro e W1 ⟨rfl, hw⟩; have b1 : Below w.heap.size w W1 := (by rcases hw with rfl | ⟨t, rfl⟩; exact Below.refl _ _; exact Lib.bytesWorld_below _ _ _))
        go_ret2
        exact ⟨rfl, b1⟩
    ·
      rw [ha] at h
      obtain ⟨rfl, rfl⟩ := Prod.mk.inj h
      go_enter Tryz.func48, Tryz.ntmps48
      go_wp2_with (go_at_call 61; refine (atoi_bad s hs (fun v => by rw [ha]; intro h; cases h) (by rw [ha]; intro h; cases h) ev0 _ hv0 he0).mono ?_; rintro e W1 ⟨N, rfl, -, -, b1⟩)
      go_ret2
      exact ⟨rfl, b1⟩
    ·
      rw [ha] at h
      obtain ⟨rfl, rfl⟩ := Prod.mk.inj h
      have hb := Lib.atoiSat_bounds s.data.toList
      go_enter Tryz.func48, Tryz.ntmps48
      go_wp2_with (go_at_call 61; refine (Tryz.strconv_Atoi_range s hs ha ev1 _ hv1 he1).mono ?_; rintro e W1 ⟨N, rfl, -, -, b1⟩)
      go_ret2
      exact ⟨rfl, b1⟩
  · rw [if_neg hs] at h
    exact absurd h (by simp)
set_option maxRecDepth 100000 in
set_option maxHeartbeats 2000000 in
theorem script_seconds.calls (s : ByteArray) (r0 : Int) (r1 : Bool) (w : World) (h : script_seconds.f s = some (r0, r1))
    (HP0_ : TabP_ w := by exact TabP_.step HP0_ (by repeat (first | (with_reducible first | exact HB.out | apply below_alloc | apply pw_below_drewN | apply below_drew1 | refine below_set ?_ (Aside0.out (by assumption))) | exact HB.out)))
    (HE0_ : TabE_ w := by exact TabE_.step HE0_ (by repeat (first | (with_reducible first | exact HB.out | apply below_alloc | apply pw_below_drewN | apply below_drew1 | refine below_set ?_ (Aside0.out (by assumption))) | exact HB.out))) :
    Calls Tryz.prog 29 #[.string s] w fun e w' => e = .returned (.tuple #[.int .i64 r0, .bool r1]) ∧ Below w.heap.size w w' := by
  unfold script_seconds.f at h
  by_cases hs : s.size ≤ 281474976710656
  · rw [if_pos hs] at h
    have h := Option.some.inj h
    unfold numF at h
    obtain ⟨⟨ev0, hv0, he0⟩, ⟨ev1, hv1, he1⟩⟩ := HE0_
    have tie := Lib.parseIntB_64 s.data.toList
    rcases ha : Lib.atoiAll s.data.toList with v | _ | _
    ·
      rw [ha] at h tie
      obtain ⟨rfl, rfl⟩ := Prod.mk.inj h
      have hb := Lib.atoiAll_bounds ha
      by_cases ct2 : Lib.itoa v = s.data.toList
      · have e0 : (Lib.itoa v == s.toList) = true := by rw [Lib.toList_data]; exact beq_iff_eq.2 ct2
        by_cases c0 : -9007199254740992 ≤ v
        · have hq : (decide (-9007199254740992 ≤ v ∧ v ≤ 9007199254740992 ∧ Lib.itoa v = s.data.toList)) = decide (v ≤ 9007199254740992) := decide_eq_decide.2 ⟨fun h => h.2.1, fun h => ⟨c0, h, ct2⟩⟩
          rw [hq]
          go_enter Tryz.func29, Tryz.ntmps29
          go_wp2_with (first
            | (go_at_call 43; refine (Tryz.strconv_ParseInt_10_at64_ok s (by omega) v tie _).mono ?_; rintro e W1 ⟨rfl, hw⟩; have b1 : Below w.heap.size w W1 := (by rcases hw with rfl | ⟨t, rfl⟩; exact Below.refl _ _; exact Lib.bytesWorld_below _ _ _))
            | (go_at_call 44; refine (Tryz.strconv_FormatInt_10 v (by omega) (by omega) _ (TabP_.step HP0_ (by first | exact b1 | exact b1.drew))).mono ?_; rintro e W2 ⟨rfl, k2, os2, hw2⟩; have b2 := Lib.below_grow W1.heap.size W1 (Nat.le_refl _) k2 os2; rw [← hw2] at b2; clear hw2))
          go_ret2
          exact ⟨rfl, b1.trans (b2.mono b1.size)⟩
        · have hq : (decide (-9007199254740992 ≤ v ∧ v ≤ 9007199254740992 ∧ Lib.itoa v = s.data.toList)) = false := decide_eq_false (by omega)
          rw [hq]
          go_enter Tryz.func29, Tryz.ntmps29
          go_wp2_with (first
            | (go_at_call 43; refine (Tryz.strconv_ParseInt_10_at64_ok s (by omega) v tie _).mono ?_; rintro e W1 ⟨rfl, hw⟩; have b1 : Below w.heap.size w W1 := (by rcases hw with rfl | ⟨t, rfl⟩; exact Below.refl _ _; exact Lib.bytesWorld_below _ _ _))
            | (go_at_call 44; refine (Tryz.strconv_FormatInt_10 v (by omega) (by omega) _ (TabP_.step HP0_ (by first | exact b1 | exact b1.drew))).mono ?_; rintro e W2 ⟨rfl, k2, os2, hw2⟩; have b2 := Lib.below_grow W1.heap.size W1 (Nat.le_refl _) k2 os2; rw [← hw2] at b2; clear hw2))
          go_ret2
          exact ⟨rfl, b1.trans (b2.mono b1.size)⟩
      · have hq : (decide (-9007199254740992 ≤ v ∧ v ≤ 9007199254740992 ∧ Lib.itoa v = s.data.toList)) = false := decide_eq_false fun h => ct2 h.2.2
        have e0 : (Lib.itoa v == s.toList) = false := by rw [Lib.toList_data]; exact beq_eq_false_iff_ne.2 ct2
        rw [hq]
        go_enter Tryz.func29, Tryz.ntmps29
        go_wp2_with (first
          | (go_at_call 43; refine (Tryz.strconv_ParseInt_10_at64_ok s (by omega) v tie _).mono ?_; rintro e W1 ⟨rfl, hw⟩; have b1 : Below w.heap.size w W1 := (by rcases hw with rfl | ⟨t, rfl⟩; exact Below.refl _ _; exact Lib.bytesWorld_below _ _ _))
          | (go_at_call 44; refine (Tryz.strconv_FormatInt_10 v (by omega) (by omega) _ (TabP_.step HP0_ (by first | exact b1 | exact b1.drew))).mono ?_; rintro e W2 ⟨rfl, k2, os2, hw2⟩; have b2 := Lib.below_grow W1.heap.size W1 (Nat.le_refl _) k2 os2; rw [← hw2] at b2; clear hw2))
        go_ret2
        exact ⟨rfl, b1.trans (b2.mono b1.size)⟩
    ·
      rw [ha] at h tie
      obtain ⟨rfl, rfl⟩ := Prod.mk.inj h
      go_enter Tryz.func29, Tryz.ntmps29
      go_wp2_with (go_at_call 43; refine (parse_bad s hs (fun v => by rw [tie]; intro h; cases h) (by rw [tie]; intro h; cases h) ev0 _ hv0 he0).mono ?_; rintro e W1 ⟨N, rfl, -, -, b1⟩)
      go_ret2
      exact ⟨rfl, b1⟩
    ·
      rw [ha] at h tie
      obtain ⟨rfl, rfl⟩ := Prod.mk.inj h
      have hb := Lib.atoiSat_bounds s.data.toList
      have hsat := Lib.intSat_64 s.data.toList
      have cR := fun W hv => Tryz.strconv_ParseInt_10_at64_range s hs tie ev1 W hv he1
      rw [hsat] at cR
      go_enter Tryz.func29, Tryz.ntmps29
      go_wp2_with (go_at_call 43; refine (cR _ hv1).mono ?_; rintro e W1 ⟨N, rfl, -, -, b1⟩)
      go_ret2
      exact ⟨rfl, b1⟩
  · rw [if_neg hs] at h
    exact absurd h (by simp)
theorem count_cnt (s : ByteArray) (hs : s.size ≤ 281474976710656) : ∃ v b, script_count.f s = some (v, b) ∧ (match Net.cnt s.data.toList with | some n => v = (n : Int) ∧ b = true | none => b = false) := by
  refine ⟨_, _, if_pos hs, ?_⟩
  unfold Net.cnt
  rcases Lib.atoiAll s.data.toList with v | _ | _
  ·
    by_cases c : 0 ≤ v ∧ v ≤ 262144 ∧ Lib.itoa v = s.data.toList
    · simp only [if_pos c]
      exact ⟨by omega, decide_eq_true c⟩
    · simp only [if_neg c]
      exact decide_eq_false c
  · rfl
  · rfl
theorem seconds_mom (s : ByteArray) (hs : s.size ≤ 281474976710656) : ∃ v b, script_seconds.f s = some (v, b) ∧ (match Net.momL s.data.toList with | some n => v = n ∧ b = true | none => b = false) := by
  refine ⟨_, _, if_pos hs, ?_⟩
  unfold Net.momL
  rcases Lib.atoiAll s.data.toList with v | _ | _
  ·
    by_cases c : -9007199254740992 ≤ v ∧ v ≤ 9007199254740992 ∧ Lib.itoa v = s.data.toList
    · simp only [if_pos c]
      exact ⟨by first | rfl | trivial, decide_eq_true c⟩
    · simp only [if_neg c]
      exact decide_eq_false c
  · rfl
  · rfl
end Go.Proofs.YtdhpcofnddkcaaaGreatDoor.G
namespace Go.Proofs.YtdhpcofnddkcaaaGreatDoorW.PrintLast
open Go.Proofs.YtdhpcofnddkcaaaGreatDoorW.PrintWords (Aside0)
def needsOf (md : Region.Mode) (o : Oper) : List Nat := (o.after.toList.filter (fun e => Region.binds md e)).map (fun e => e.on)
def clashOf (md : Region.Mode) (ops : Array Oper) (i : Nat) (oi : Oper) : List Nat := (List.range ops.size).filter fun j => !(j == i) && match ops[j]? with
  | some oj => !(oj.after.any (fun e => Region.binds md e && e.on == i) || oi.apart ops oj)
  | none => false
def rtab (md : Region.Mode) (ops : Array Oper) : Bool × List (List Nat × List Nat) := (Region.noSelect ops, (List.range ops.size).map fun i => match ops[i]? with
  | some o => (needsOf md o, clashOf md ops i o)
  | none => ([], []))
def readyAt (T : List (List Nat × List Nat)) (l : List Bool) (i : Nat) : Bool := !l.getD i true && match T[i]? with
  | some r => r.1.all (fun j => l.getD j false)
  | none => false
def readyT (T : List (List Nat × List Nat)) (l : List Bool) : List Nat := (List.range T.length).filter (readyAt T l)
def freeT (T : List (List Nat × List Nat)) (l : List Bool) (i : Nat) : Bool := match T[i]? with
  | some r => r.2.all (fun j => l.getD j true)
  | none => false
def closedT (T : List (List Nat × List Nat)) (l : List Bool) : Bool := (List.range T.length).all fun j => !l.getD j false || match T[j]? with
  | some r => r.1.all (fun k => l.getD k false)
  | none => true
def reachT (T : List (List Nat × List Nat)) (i : Nat) : Nat → Nat → Bool
  | 0, _ => false
  | fuel + 1, d => match T[d]? with
    | some r => r.1.any fun j => j == i || reachT T i fuel j
    | none => false
def lastT (T : List (List Nat × List Nat)) (l : List Bool) (ds : List Nat) (i : Nat) : Bool := ds.all fun d => l.getD d true || reachT T i T.length d
section
variable {md : Region.Mode} {ops : Array Oper} {T : Bool × List (List Nat × List Nat)} {l l' li lj lk : Array Bool} {ds : List Nat} {i j k : Nat}
theorem gd (l : Array Bool) (j : Nat) (b : Bool) : l.getD j b = l.toList.getD j b := by simp [Array.getD_eq_getD_getElem?, List.getD_eq_getElem?_getD]
theorem needs_all (o : Oper) (p : Nat → Bool) : o.after.all (fun e => !Region.binds md e || p e.on) = (needsOf md o).all p := by
  unfold needsOf
  rw [← Array.all_toList]
  induction o.after.toList with
  | nil => rfl
  | cons e r ih =>
    rw [List.all_cons, ih, List.filter_cons]
    cases h : Region.binds md e <;> simp
theorem needs_any (o : Oper) (p : Nat → Bool) : o.after.any (fun e => Region.binds md e && p e.on) = (needsOf md o).any p := by
  unfold needsOf
  rw [← Array.any_toList]
  induction o.after.toList with
  | nil => rfl
  | cons e r ih =>
    rw [List.any_cons, ih, List.filter_cons]
    cases h : Region.binds md e <;> simp
theorem rtab_length : (rtab md ops).2.length = ops.size := by simp [rtab]
theorem rtab_some {o : Oper} (h : ops[i]? = some o) : (rtab md ops).2[i]? = some (needsOf md o, clashOf md ops i o) := by
  have hi := (Array.getElem?_eq_some_iff.1 h).1
  unfold rtab
  rw [List.getElem?_map, List.getElem?_range hi, Option.map_some, h]
theorem rtab_none (h : ops[i]? = none) : (rtab md ops).2[i]? = none := by
  have hi : ops.size ≤ i := Array.getElem?_eq_none_iff.1 h
  exact List.getElem?_eq_none (by rw [rtab_length]; exact hi)
theorem readyAt_eq : readyAt (rtab md ops).2 l.toList i = (!l.getD i true && ((ops[i]?).map (·.after.all fun e => !Region.binds md e || l.getD e.on false)).getD false) := by
  unfold readyAt
  rw [gd]
  cases h : ops[i]? with
  | none => rw [rtab_none h]; rfl
  | some o =>
    rw [rtab_some h]
    simp only [Option.map_some, Option.getD_some]
    rw [← needs_all]
    simp only [gd]
theorem ready_eq : Region.ready md ops l = readyT (rtab md ops).2 l.toList := by
  unfold Region.ready readyT
  rw [rtab_length]
  refine List.filter_congr (fun i _ => ?_)
  rw [readyAt_eq]
theorem free_eq : Region.free md ops l i = freeT (rtab md ops).2 l.toList i := by
  unfold Region.free freeT
  cases h : ops[i]? with
  | none => rw [rtab_none h]
  | some oi =>
    rw [rtab_some h]
    simp only [clashOf]
    rw [List.all_filter]
    congr 1
    funext j
    rw [gd]
    cases hj : ops[j]? with
    | none => cases (j == i) <;> cases (l.toList.getD j true) <;> simp
    | some oj =>
      cases (j == i) <;> cases (l.toList.getD j true) <;> cases (oj.after.any (fun e => Region.binds md e && e.on == i) || oi.apart ops oj) <;> simp_all
theorem closed_eq : Region.closedB md ops l = closedT (rtab md ops).2 l.toList := by
  unfold Region.closedB closedT
  rw [rtab_length]
  congr 1
  funext j
  rw [gd]
  cases h : ops[j]? with
  | none => rw [rtab_none h]
  | some o =>
    rw [rtab_some h]
    simp only
    rw [← needs_all]
    simp only [gd]
theorem reach_eq : ∀ (fuel d : Nat), Region.reachB md ops i fuel d = reachT (rtab md ops).2 i fuel d
  | 0, _ => rfl
  | fuel + 1, d => by
    unfold Region.reachB reachT
    cases h : ops[d]? with
    | none => rw [rtab_none h]
    | some o =>
      rw [rtab_some h]
      simp only
      rw [← needs_any]
      congr 1
      funext e
      rw [reach_eq fuel]
theorem last_eq : Region.lastB md ops l ds i = lastT (rtab md ops).2 l.toList ds i := by
  unfold Region.lastB lastT
  rw [rtab_length]
  congr 1
  funext d
  rw [gd, reach_eq]
theorem readyAt_mem (h : readyAt T.2 l.toList i = true) (hT : rtab md ops = T) : (Region.ready md ops l).contains i = true := by
  subst hT
  rw [ready_eq]
  unfold readyT
  rw [List.contains_iff_mem, List.mem_filter, List.mem_range]
  refine ⟨?_, h⟩
  unfold readyAt at h
  rw [Bool.and_eq_true] at h
  cases hq : (rtab md ops).2[i]? with
  | none => rw [hq] at h; simp at h
  | some r => exact (List.getElem?_eq_some_iff.1 hq).1
theorem set_of (h : (l.toList.set i true == l'.toList) = true) : (l.setIfInBounds i true == l') = true := by
  rw [beq_iff_eq] at h ⊢
  apply Array.ext'
  rw [Array.toList_setIfInBounds]
  exact h
def anyT (T : Bool × List (List Nat × List Nat)) (l l' : List Bool) (i : Nat) : Bool := T.1 && freeT T.2 l i && readyAt T.2 l i && (l.set i true == l')
theorem any_of (hT : rtab md ops = T) (h : anyT T l.toList l'.toList i = true) : anyB md ops l l' i = true := by
  simp only [anyT, Bool.and_eq_true] at h
  obtain ⟨⟨⟨h1, h2⟩, h3⟩, h4⟩ := h
  have h5 := readyAt_mem h3 hT
  have h6 := set_of h4
  subst hT
  simp only [anyB, Bool.and_eq_true]
  exact ⟨⟨⟨h1, by rw [free_eq]; exact h2⟩, h5⟩, h6⟩
def takeT (T : Bool × List (List Nat × List Nat)) (ds : List Nat) (l l' : List Bool) (i : Nat) : Bool := T.1 && freeT T.2 l i && readyAt T.2 l i && closedT T.2 l && lastT T.2 l ds i && (l.set i true == l')
theorem take_of (hT : rtab md ops = T) (h : takeT T ds l.toList l'.toList i = true) : takeB md ops ds l l' i = true := by
  simp only [takeT, Bool.and_eq_true] at h
  obtain ⟨⟨⟨⟨⟨h1, h2⟩, h3⟩, h4⟩, h5⟩, h6⟩ := h
  have h7 := readyAt_mem h3 hT
  have h8 := set_of h6
  subst hT
  simp only [takeB, Bool.and_eq_true]
  exact ⟨⟨⟨⟨⟨h1, by rw [free_eq]; exact h2⟩, h7⟩, by rw [closed_eq]; exact h4⟩, by rw [last_eq]; exact h5⟩, h8⟩
theorem one_of (hT : rtab md ops = T) (h : (readyT T.2 l.toList == [i] && l.toList.set i true == l'.toList) = true) : readyB md ops l l' i = true := by
  simp only [Bool.and_eq_true] at h
  obtain ⟨h1, h2⟩ := h
  subst hT
  simp only [readyB, Bool.and_eq_true]
  exact ⟨by rw [ready_eq]; exact h1, set_of h2⟩
theorem done_of (hT : rtab md ops = T) (h : (readyT T.2 l.toList == []) = true) : (Region.ready md ops l == []) = true := by
  subst hT
  rw [ready_eq]
  exact h
def upM (B : List Nat) (d : Nat) : List Nat → Nat
  | [] => 0
  | n :: r => (2 ^ n ||| (if n < d then B.getD n 0 else 0)) ||| upM B d r
def waitsOk (T : List (List Nat × List Nat)) (B : List Nat) : Bool := (List.range T.length).all fun d => match T[d]? with
  | some r => (B.getD d 0 ||| upM B d r.1) == upM B d r.1
  | none => false
theorem upM_bit {B : List Nat} {d i : Nat} : ∀ {ns : List Nat}, (upM B d ns).testBit i = true → ∃ n ∈ ns, n = i ∨ (n < d ∧ (B.getD n 0).testBit i = true)
  | [], h => by simp [upM] at h
  | n :: r, h => by
    unfold upM at h
    rw [Nat.testBit_or, Nat.testBit_or, Bool.or_eq_true, Bool.or_eq_true] at h
    rcases h with (h | h) | h
    · rw [Nat.testBit_two_pow] at h
      exact ⟨n, List.mem_cons_self, .inl (by simpa using h)⟩
    · by_cases hn : n < d
      · rw [if_pos hn] at h
        exact ⟨n, List.mem_cons_self, .inr ⟨hn, h⟩⟩
      · rw [if_neg hn] at h
        simp at h
    · obtain ⟨m, hm, h2⟩ := upM_bit h
      exact ⟨m, List.mem_cons_of_mem _ hm, h2⟩
theorem reach_bit {T : List (List Nat × List Nat)} {B : List Nat} (hB : waitsOk T B = true) : ∀ (fuel d : Nat), d < fuel → d < T.length → (B.getD d 0).testBit i = true → reachT T i fuel d = true
  | 0, d, h, _, _ => by omega
  | fuel + 1, d, h, hd, hb => by
    have h1 := List.all_eq_true.1 hB d (List.mem_range.2 hd)
    cases hr : T[d]? with
    | none => rw [hr] at h1; simp at h1
    | some r =>
      rw [hr] at h1
      simp only [beq_iff_eq] at h1
      have h2 : (upM B d r.1).testBit i = true := by rw [← h1, Nat.testBit_or, hb, Bool.true_or]
      obtain ⟨n, hn, h3⟩ := upM_bit h2
      unfold reachT
      rw [hr]
      simp only
      rw [List.any_eq_true]
      refine ⟨n, hn, ?_⟩
      rcases h3 with rfl | ⟨h4, h5⟩
      · simp
      · rw [reach_bit hB fuel n (by omega) (by omega) h5, Bool.or_true]
def lastW (T : List (List Nat × List Nat)) (B : List Nat) (l : List Bool) (ds : List Nat) (i : Nat) : Bool := ds.all fun d => l.getD d true || (decide (d < T.length) && (B.getD d 0).testBit i)
def takeW (T : Bool × List (List Nat × List Nat)) (B : List Nat) (ds : List Nat) (l l' : List Bool) (i : Nat) : Bool := T.1 && freeT T.2 l i && readyAt T.2 l i && closedT T.2 l && lastW T.2 B l ds i && (l.set i true == l')
theorem take_ofW {B : List Nat} (hT : rtab md ops = T) (hB : waitsOk T.2 B = true) (h : takeW T B ds l.toList l'.toList i = true) : takeB md ops ds l l' i = true := by
  refine take_of hT ?_
  simp only [takeW, takeT, Bool.and_eq_true] at h ⊢
  obtain ⟨⟨⟨⟨⟨h1, h2⟩, h3⟩, h4⟩, h5⟩, h6⟩ := h
  refine ⟨⟨⟨⟨⟨h1, h2⟩, h3⟩, h4⟩, ?_⟩, h6⟩
  unfold lastW at h5
  unfold lastT
  rw [List.all_eq_true] at h5 ⊢
  intro d hd
  have h7 := h5 d hd
  rw [Bool.or_eq_true, Bool.and_eq_true, decide_eq_true_eq] at h7
  rcases h7 with h7 | ⟨h8, h9⟩
  · rw [h7, Bool.true_or]
  · rw [reach_bit hB _ d h8 h8 h9, Bool.or_true]
theorem with_tabW {P : Program} {Q : Exit → Act → World → Prop} {S : World → Prop} {n : Nat} {a : Act} {w : World} {B : List Nat} (hT : rtab md ops = T) (hB : waitsOk T.2 B = true) (h : Aside0 (rtab md ops = T) → Aside0 (waitsOk T.2 B = true) → wpAnyLast P md ops Q S ds n l a w) : wpAnyLast P md ops Q S ds n l a w := h ⟨hT⟩ ⟨hB⟩
end
def opsIn : Code → Nat → Option (Array Oper)
  | .region id ops _, k => if id == k then some ops else none
  | .seq a b, k => match opsIn a k with
    | some o => some o
    | none => opsIn b k
  | .cond _ a b, k => match opsIn a k with
    | some o => some o
    | none => opsIn b k
  | .block _ c, k => opsIn c k
  | .loop c, k => opsIn c k
  | .scope c, k => opsIn c k
  | .rangeFunc _ _ a b, k => match opsIn a k with
    | some o => some o
    | none => opsIn b k
  | _, _ => none
def opsOf (f : Func) (k : Nat) : Array Oper := ((f.body.bind fun c => opsIn c k)).getD #[]
end Go.Proofs.YtdhpcofnddkcaaaGreatDoorW.PrintLast
namespace Go.Proofs.YtdhpcofnddkcaaaGreatDoorW.PrintLast
section
variable {P : Program} {ops : Array Oper} {Q : Exit → Act → World → Prop} {md : Region.Mode} {S : World → Prop} {ds : List Nat} {T : Bool × List (List Nat × List Nat)}
end
end Go.Proofs.YtdhpcofnddkcaaaGreatDoorW.PrintLast
namespace Go.Proofs.YtdhpcofnddkcaaaGreatDoorW.PrintWords
open Go.RowKit
namespace Kd
section
variable {α : Type} {d : Kd α} {W : World} {g n : Nat} {S ok : Nat → Prop} {A : Option Addr} {ad : Addr} {xs : List α}
end
end Kd
end Go.Proofs.YtdhpcofnddkcaaaGreatDoorW.PrintWords
namespace Go.Proofs.YtdhpcofnddkcaaaGreatDoorW.PrintWords
open Go.RowKit
section
variable {w w' u : World} {m B g : Nat} {o : Obj} {row : Option Nat} {S : Nat → Prop} {a : Addr} {v : Value}
end
namespace Kd
section
variable {α : Type} {d : Kd α} {e base n m : Nat} {ok : Nat → Prop} {w w' : World} {v : Value} {A : Option Addr} {xs : List α}
end
end Kd
end Go.Proofs.YtdhpcofnddkcaaaGreatDoorW.PrintWords
namespace Go.Proofs.YtdhpcofnddkcaaaGreatDoorW.PrintWords
open Go.RowKit
section
variable {P : Program} {d : Nat} {xs ys : Array Value} {f : Field} {fs : List Field} {a b : Value} {r s : Bool} {w : World}
theorem eqf_last (hn : (f.name == "_") = false) (ha : (part f.type xs f.offset).run P w = .ok a w) (hb : (part f.type ys f.offset).run P w = .ok b w) (he : (Op.equalIn d f.type a b).run P w = .ok r w) : (Op.eqFields d xs ys [f]).run P w = .ok r w := by
  have hn' : f.name ≠ "_" := by simpa using hn
  simp only [Op.eqFields, if_pos hn', Sem.run_bind, ha, hb, he, Result.andThen_ok]
  cases r <;> simp
theorem eqf_cons (hn : (f.name == "_") = false) (ha : (part f.type xs f.offset).run P w = .ok a w) (hb : (part f.type ys f.offset).run P w = .ok b w) (he : (Op.equalIn d f.type a b).run P w = .ok r w) (hr : (Op.eqFields d xs ys fs).run P w = .ok s w) : (Op.eqFields d xs ys (f :: fs)).run P w = .ok (r && s) w := by
  have hn' : f.name ≠ "_" := by simpa using hn
  rw [Op.eqFields]
  simp only [if_pos hn', Sem.run_bind, ha, hb, he, Result.andThen_ok]
  cases r
  · simp
  · simpa using hr
theorem eqA_of {t : TypeId} {fs : Array Field} (hu : P.underlying t = some (.struct fs)) (hp : P.stoodInHeld t = false) (h : (Op.eqFields d xs ys fs.toList).run P w = .ok r w) : (Op.equalIn (d + 1) t (.agg xs) (.agg ys)).run P w = .ok r w := by
  have hf : P.fieldsOf t = fs := by simp [Program.fieldsOf, hu]
  rw [run_equalIn_struct (P := P) w d t xs ys (by rw [hf]; exact hu) hp, hf]
  exact h
end
end Go.Proofs.YtdhpcofnddkcaaaGreatDoorW.PrintWords
namespace Go.Proofs.YtdhpcofnddkcaaaGreatDoorW.PrintWords
theorem Reps.one {α : Type} {R : α → List Value → Prop} {ps : List α} {cs : List Value} {p : α} {v : Value} (hp : R p [v]) (h : Reps R 1 ps cs) : Reps R 1 (p :: ps) (v :: cs) := by
  refine ⟨by simp [h.1], fun j q hq => ?_⟩
  cases j with
  | zero =>
    simp only [List.getElem?_cons_zero, Option.some.injEq] at hq
    subst hq
    simpa using hp
  | succ j =>
    simp only [List.getElem?_cons_succ] at hq
    have h1 := h.2 j q hq
    simpa [Nat.mul_one] using h1
theorem Reps.front {α : Type} {R : α → List Value → Prop} {size : Nat} {ps : List α} {cs c all : List Value} {p : α} (hp : R p c) (hc : c.length = size) (h : Reps R size ps cs) (ha : c ++ cs = all) : Reps R size (p :: ps) all := by
  subst ha
  refine ⟨by rw [List.length_append, hc, h.1, List.length_cons, Nat.succ_mul, Nat.add_comm], fun j q hq => ?_⟩
  cases j with
  | zero =>
    simp only [List.getElem?_cons_zero, Option.some.injEq] at hq
    subst hq
    rw [Nat.zero_mul, List.drop_zero, List.take_append_of_le_length (by omega), List.take_of_length_le (by omega)]
    exact hp
  | succ j =>
    simp only [List.getElem?_cons_succ] at hq
    have h1 := h.2 j q hq
    rw [Nat.succ_mul, List.drop_append, List.drop_of_length_le (by rw [hc]; exact Nat.le_add_left _ _), List.nil_append, hc, Nat.add_sub_cancel]
    exact h1
theorem Reps.c2 {α : Type} {R : α → List Value → Prop} {ps : List α} {cs : List Value} {p : α} {va vb : Value} (hp : R p [va, vb]) (h : Reps R 2 ps cs) : Reps R 2 (p :: ps) (va :: vb :: cs) := Reps.front hp rfl h rfl
theorem Reps.c3 {α : Type} {R : α → List Value → Prop} {ps : List α} {cs : List Value} {p : α} {va vb vc : Value} (hp : R p [va, vb, vc]) (h : Reps R 3 ps cs) : Reps R 3 (p :: ps) (va :: vb :: vc :: cs) := Reps.front hp rfl h rfl
theorem Reps.c4 {α : Type} {R : α → List Value → Prop} {ps : List α} {cs : List Value} {p : α} {va vb vc vd : Value} (hp : R p [va, vb, vc, vd]) (h : Reps R 4 ps cs) : Reps R 4 (p :: ps) (va :: vb :: vc :: vd :: cs) := Reps.front hp rfl h rfl
theorem Reps.c5 {α : Type} {R : α → List Value → Prop} {ps : List α} {cs : List Value} {p : α} {va vb vc vd ve : Value} (hp : R p [va, vb, vc, vd, ve]) (h : Reps R 5 ps cs) : Reps R 5 (p :: ps) (va :: vb :: vc :: vd :: ve :: cs) := Reps.front hp rfl h rfl
theorem Reps.c6 {α : Type} {R : α → List Value → Prop} {ps : List α} {cs : List Value} {p : α} {va vb vc vd ve vf : Value} (hp : R p [va, vb, vc, vd, ve, vf]) (h : Reps R 6 ps cs) : Reps R 6 (p :: ps) (va :: vb :: vc :: vd :: ve :: vf :: cs) := Reps.front hp rfl h rfl
theorem Reps.c7 {α : Type} {R : α → List Value → Prop} {ps : List α} {cs : List Value} {p : α} {va vb vc vd ve vf vg : Value} (hp : R p [va, vb, vc, vd, ve, vf, vg]) (h : Reps R 7 ps cs) : Reps R 7 (p :: ps) (va :: vb :: vc :: vd :: ve :: vf :: vg :: cs) := Reps.front hp rfl h rfl
theorem Reps.c8 {α : Type} {R : α → List Value → Prop} {ps : List α} {cs : List Value} {p : α} {va vb vc vd ve vf vg vh : Value} (hp : R p [va, vb, vc, vd, ve, vf, vg, vh]) (h : Reps R 8 ps cs) : Reps R 8 (p :: ps) (va :: vb :: vc :: vd :: ve :: vf :: vg :: vh :: cs) := Reps.front hp rfl h rfl
theorem Reps.c9 {α : Type} {R : α → List Value → Prop} {ps : List α} {cs : List Value} {p : α} {va vb vc vd ve vf vg vh vi : Value} (hp : R p [va, vb, vc, vd, ve, vf, vg, vh, vi]) (h : Reps R 9 ps cs) : Reps R 9 (p :: ps) (va :: vb :: vc :: vd :: ve :: vf :: vg :: vh :: vi :: cs) := Reps.front hp rfl h rfl
theorem Reps.c10 {α : Type} {R : α → List Value → Prop} {ps : List α} {cs : List Value} {p : α} {va vb vc vd ve vf vg vh vi vj : Value} (hp : R p [va, vb, vc, vd, ve, vf, vg, vh, vi, vj]) (h : Reps R 10 ps cs) : Reps R 10 (p :: ps) (va :: vb :: vc :: vd :: ve :: vf :: vg :: vh :: vi :: vj :: cs) := Reps.front hp rfl h rfl
end Go.Proofs.YtdhpcofnddkcaaaGreatDoorW.PrintWords
namespace Go.Proofs.YtdhpcofnddkcaaaGreatDoorW.PrintLast
def up (b : Nat → Bool) (i : Nat) : Nat → Bool := fun j => if j = i then true else b j
theorem up_self (b : Nat → Bool) (i : Nat) : up b i i = true := by simp [up]
theorem up_ne {b : Nat → Bool} {i j : Nat} (h : j ≠ i) : up b i j = b j := by simp [up, h]
def lof (n : Nat) (O : List Nat) (b : Nat → Bool) : List Bool := (List.range n).map fun j => if O.contains j then b j else true
def putSel (a : Act) (b : Nat → Bool) : List (Nat × Tmp × Value) → Act
  | [] => a
  | e :: r => putSel (if b e.1 = true then a.put (some e.2.1) e.2.2 else a) b r
section
variable {P : Program} {ops : Array Oper} {Q : Exit → Act → World → Prop} {md : Region.Mode} {T : Bool × List (List Nat × List Nat)} {B : List Nat} {O : List Nat} {b : Nat → Bool} {i j n : Nat}
theorem lof_length : (lof n O b).length = n := by simp [lof]
theorem lof_get {d : Bool} (hj : j < n) : (lof n O b).getD j d = if O.contains j then b j else true := by
  simp [lof, List.getD_eq_getElem?_getD, hj]
theorem lof_up (hi : O.contains i = true) : (lof n O b).set i true = lof n O (up b i) := by
  apply List.ext_getElem?
  intro j
  by_cases hj : j < n
  · by_cases hij : i = j
    · subst hij
      have hl : i < (lof n O b).length := by rw [lof_length]; exact hj
      rw [List.getElem?_set_self hl]
      simp only [lof, List.getElem?_map, List.getElem?_range hj, Option.map_some, hi, if_true, up_self]
    · rw [List.getElem?_set_ne hij]
      simp only [lof, List.getElem?_map, List.getElem?_range hj, Option.map_some]
      rw [up_ne (Ne.symm hij)]
  · rw [List.getElem?_eq_none (by simp [lof]; omega), List.getElem?_eq_none (by simp [lof]; omega)]
def StepAt (P : Program) (ops : Array Oper) (Q : Exit → Act → World → Prop) (B : List Nat) (O : List Nat) (I : (Nat → Bool) → Act → World → Prop) (i : Nat) : Prop :=
  ∀ b a w, I b a w → b i = false → (∀ j, (O.contains j && (B.getD i 0).testBit j) = true → b j = true) → (∀ d, (O.contains d && (B.getD d 0).testBit i) = true → b d = false) →
    ∃ oi, ops[i]? = some oi ∧ ∀ K : Act → World → Prop, Shut (∀ a' w', I (up b i) a' w' → K a' w') → if Region.wanted oi (yielded ops a.tmps) = true then Oper.wp P oi a w K Q else K (a.put oi.dst undef) w
theorem steps_nil {I : (Nat → Bool) → Act → World → Prop} : ∀ i ∈ ([] : List Nat), StepAt P ops Q B O I i := fun _ h => by cases h
theorem steps_cons {I : (Nat → Bool) → Act → World → Prop} {rs : List Nat} (h : StepAt P ops Q B O I i) (hs : ∀ j ∈ rs, StepAt P ops Q B O I j) : ∀ j ∈ i :: rs, StepAt P ops Q B O I j := fun j hj => by
  rcases List.mem_cons.1 hj with rfl | hj
  · exact h
  · exact hs j hj
def baseOk (T : List (List Nat × List Nat)) (O : List Nat) : Bool :=
  (List.range T.length).all (fun d => match T[d]? with
    | some r => (O.contains d || r.1.all fun n => !O.contains n) && r.1.all fun n => decide (n < d)
    | none => false) && O.all (fun i => decide (i < T.length)) && decide O.Nodup
theorem baseOk_row {T : List (List Nat × List Nat)} (h : baseOk T O = true) {d : Nat} {r : List Nat × List Nat} (hr : T[d]? = some r) : (O.contains d = false → ∀ n ∈ r.1, O.contains n = false) ∧ ∀ n ∈ r.1, n < d := by
  simp only [baseOk, Bool.and_eq_true] at h
  have h1 := List.all_eq_true.1 h.1.1 d (List.mem_range.2 (List.getElem?_eq_some_iff.1 hr).1)
  rw [hr] at h1
  simp only [Bool.and_eq_true, Bool.or_eq_true, List.all_eq_true, decide_eq_true_eq] at h1
  refine ⟨fun hd n hn => ?_, h1.2⟩
  rcases h1.1 with h2 | h2
  · rw [hd] at h2; cases h2
  · simpa using h2 n hn
theorem baseOk_lt {T : List (List Nat × List Nat)} (h : baseOk T O = true) {i : Nat} (hi : i ∈ O) : i < T.length := by
  simp only [baseOk, Bool.and_eq_true] at h
  simpa using List.all_eq_true.1 h.1.2 i hi
theorem baseOk_nodup {T : List (List Nat × List Nat)} (h : baseOk T O = true) : O.Nodup := by
  simp only [baseOk, Bool.and_eq_true] at h
  exact of_decide_eq_true h.2
def Closed (T : List (List Nat × List Nat)) (O : List Nat) (b : Nat → Bool) : Prop := ∀ d r, T[d]? = some r → O.contains d = true → b d = true → ∀ n ∈ r.1, O.contains n = true → b n = true
theorem bits_out {T : List (List Nat × List Nat)} (hw : waitsOk T B = true) (hk : baseOk T O = true) : ∀ (m d : Nat), d ≤ m → d < T.length → O.contains d = false → ∀ j, (B.getD d 0).testBit j = true → O.contains j = false := by
  intro m
  induction m with
  | zero =>
    intro d hd hl hO j hj
    have hd0 : d = 0 := by omega
    subst hd0
    have hr : T[0]? = some T[0] := List.getElem?_eq_getElem hl
    have h1 := List.all_eq_true.1 hw 0 (List.mem_range.2 hl)
    rw [hr] at h1
    simp only [beq_iff_eq] at h1
    have h2 : (upM B 0 T[0].1).testBit j = true := by rw [← h1, Nat.testBit_or, hj, Bool.true_or]
    obtain ⟨n, hn, h3⟩ := upM_bit h2
    have := (baseOk_row hk hr).2 n hn
    omega
  | succ m ih =>
    intro d hd hl hO j hj
    have hr : T[d]? = some T[d] := List.getElem?_eq_getElem hl
    have h1 := List.all_eq_true.1 hw d (List.mem_range.2 hl)
    rw [hr] at h1
    simp only [beq_iff_eq] at h1
    have h2 : (upM B d T[d].1).testBit j = true := by rw [← h1, Nat.testBit_or, hj, Bool.true_or]
    obtain ⟨n, hn, h3⟩ := upM_bit h2
    have hO2 := (baseOk_row hk hr).1 hO n hn
    rcases h3 with rfl | ⟨h4, h5⟩
    · exact hO2
    · exact ih n (by omega) (by omega) hO2 j h5
theorem closed_bits {T : List (List Nat × List Nat)} (hw : waitsOk T B = true) (hk : baseOk T O = true) (hc : Closed T O b) : ∀ (m d : Nat), d ≤ m → d < T.length → O.contains d = true → b d = true → ∀ j, O.contains j = true → (B.getD d 0).testBit j = true → b j = true := by
  intro m
  induction m with
  | zero =>
    intro d hd hl hO hb j hjO hj
    have hd0 : d = 0 := by omega
    subst hd0
    have hr : T[0]? = some T[0] := List.getElem?_eq_getElem hl
    have h1 := List.all_eq_true.1 hw 0 (List.mem_range.2 hl)
    rw [hr] at h1
    simp only [beq_iff_eq] at h1
    have h2 : (upM B 0 T[0].1).testBit j = true := by rw [← h1, Nat.testBit_or, hj, Bool.true_or]
    obtain ⟨n, hn, h3⟩ := upM_bit h2
    have := (baseOk_row hk hr).2 n hn
    omega
  | succ m ih =>
    intro d hd hl hO hb j hjO hj
    have hr : T[d]? = some T[d] := List.getElem?_eq_getElem hl
    have h1 := List.all_eq_true.1 hw d (List.mem_range.2 hl)
    rw [hr] at h1
    simp only [beq_iff_eq] at h1
    have h2 : (upM B d T[d].1).testBit j = true := by rw [← h1, Nat.testBit_or, hj, Bool.true_or]
    obtain ⟨n, hn, h3⟩ := upM_bit h2
    rcases h3 with rfl | ⟨h4, h5⟩
    · exact hc d _ hr hO hb n hn hjO
    · cases hO2 : O.contains n with
      | true => exact ih n (by omega) (by omega) hO2 (hc d _ hr hO hb n hn hO2) j hjO h5
      | false =>
        have := bits_out hw hk n n (Nat.le_refl _) (by omega) hO2 j h5
        rw [hjO] at this
        cases this
theorem up_count : ∀ {O : List Nat}, O.Nodup → i ∈ O → b i = false → (O.filter fun j => !up b i j).length + 1 = (O.filter fun j => !b j).length
  | [], _, hi, _ => by cases hi
  | x :: r, hn, hi, hb => by
    rw [List.nodup_cons] at hn
    rcases List.mem_cons.1 hi with rfl | hi
    · have h1 : (r.filter fun j => !up b i j) = r.filter fun j => !b j := by
        refine List.filter_congr (fun j hj => ?_)
        rw [up_ne (fun e => hn.1 (by rw [← e]; exact hj))]
      rw [List.filter_cons, List.filter_cons]
      simp [up_self, hb, h1]
    · have hxi : x ≠ i := fun e => hn.1 (e ▸ hi)
      have h1 := up_count hn.2 hi hb
      rw [List.filter_cons, List.filter_cons, up_ne hxi]
      cases hbx : b x
      · simp only [Bool.not_false, if_true, List.length_cons]
        omega
      · simpa using h1
theorem inv_all (hT : rtab md ops = T) (hw : waitsOk T.2 B = true) (hk : baseOk T.2 O = true) (I : (Nat → Bool) → Act → World → Prop) (hs : ∀ i ∈ O, StepAt P ops Q B O I i)
    (hend : ∀ b a w, (∀ j, O.contains j = true → b j = true) → I b a w → Q .normal a w) :
    ∀ (m : Nat) (b : Nat → Bool) (a : Act) (w : World), (O.filter fun j => !b j).length = m → Closed T.2 O b → I b a w → wpAnyLast P md ops Q (fun _ => True) [] m (lof T.2.length O b).toArray a w := by
  subst hT
  have mem_ready' : ∀ {b : Nat → Bool} {i : Nat}, i ∈ Region.ready md ops (lof (rtab md ops).2.length O b).toArray → i < (rtab md ops).2.length ∧ O.contains i = true ∧ b i = false ∧ ∀ r, (rtab md ops).2[i]? = some r → ∀ n ∈ r.1, n < (rtab md ops).2.length → O.contains n = true → b n = true := by
    intro b i hi
    rw [ready_eq] at hi
    unfold readyT at hi
    rw [List.mem_filter, List.mem_range] at hi
    obtain ⟨hl, h1⟩ := hi
    unfold readyAt at h1
    rw [Bool.and_eq_true, lof_get hl] at h1
    obtain ⟨h2, h3⟩ := h1
    have h4 : O.contains i = true := by
      cases h : O.contains i with
      | true => rfl
      | false => rw [h] at h2; simp at h2
    rw [h4] at h2
    refine ⟨hl, h4, by simpa using h2, fun r hr n hn hnl hO => ?_⟩
    rw [hr] at h3
    simp only [List.all_eq_true] at h3
    have h5 := h3 n hn
    rw [lof_get hnl, hO] at h5
    simpa using h5
  intro m
  induction m with
  | zero =>
    intro b a w hm hc hI
    have hall : ∀ j, O.contains j = true → b j = true := by
      intro j hj
      cases hb : b j with
      | true => rfl
      | false =>
        have : j ∈ O.filter fun j => !b j := List.mem_filter.2 ⟨List.contains_iff_mem.1 hj, by simp [hb]⟩
        rw [List.eq_nil_of_length_eq_zero hm] at this
        cases this
    refine ⟨?_, hend b a w hall hI⟩
    refine List.eq_nil_iff_forall_not_mem.2 (fun i hi => ?_)
    obtain ⟨_, h1, h2, _⟩ := mem_ready' hi
    rw [hall i h1] at h2
    cases h2
  | succ m ih =>
    intro b a w hm hc hI
    refine ⟨fun hr => ?_, fun i hi => ?_⟩
    · exfalso
      have hex : ∃ i, O.contains i = true ∧ b i = false := by
        cases hf : O.filter (fun j => !b j) with
        | nil => rw [hf] at hm; simp at hm
        | cons x r =>
          have hx : x ∈ O.filter (fun j => !b j) := by rw [hf]; exact List.mem_cons_self
          rw [List.mem_filter] at hx
          exact ⟨x, List.contains_iff_mem.2 hx.1, by simpa using hx.2⟩
      have hmin : ∀ k, (∃ i, i ≤ k ∧ O.contains i = true ∧ b i = false) → ∃ i, O.contains i = true ∧ b i = false ∧ ∀ j, j < i → O.contains j = true → b j = true := by
        intro k
        induction k with
        | zero =>
          rintro ⟨i, hi, h1, h2⟩
          exact ⟨i, h1, h2, fun j hj => by omega⟩
        | succ k ihk =>
          rintro ⟨i, hi, h1, h2⟩
          by_cases hlow : ∃ j, j ≤ k ∧ O.contains j = true ∧ b j = false
          · exact ihk hlow
          · refine ⟨i, h1, h2, fun j hj hO => ?_⟩
            cases hb : b j with
            | true => rfl
            | false => exact absurd ⟨j, by omega, hO, hb⟩ hlow
      obtain ⟨i0, h1, h2⟩ := hex
      obtain ⟨i, hO, hb, hlow⟩ := hmin i0 ⟨i0, Nat.le_refl _, h1, h2⟩
      have hl := baseOk_lt hk (List.contains_iff_mem.1 hO)
      have hin : i ∈ Region.ready md ops (lof (rtab md ops).2.length O b).toArray := by
        rw [ready_eq]
        unfold readyT
        rw [List.mem_filter, List.mem_range]
        refine ⟨hl, ?_⟩
        unfold readyAt
        rw [lof_get hl, hO, hb]
        have hr2 : (rtab md ops).2[i]? = some (rtab md ops).2[i] := List.getElem?_eq_getElem hl
        rw [hr2]
        simp only [if_true, Bool.not_false, Bool.true_and, List.all_eq_true]
        intro n hn
        have hni := (baseOk_row hk hr2).2 n hn
        rw [lof_get (by omega)]
        cases hOn : O.contains n with
        | true => simpa using hlow n hni hOn
        | false => simp
      rw [hr] at hin
      cases hin
    · obtain ⟨hl, hO, hb, hneed⟩ := mem_ready' hi
      have hon : ∀ j, (O.contains j && (B.getD i 0).testBit j) = true → b j = true := by
        intro j hj
        rw [Bool.and_eq_true] at hj
        have hr2 : (rtab md ops).2[i]? = some (rtab md ops).2[i] := List.getElem?_eq_getElem hl
        have h1 := List.all_eq_true.1 hw i (List.mem_range.2 hl)
        rw [hr2] at h1
        simp only [beq_iff_eq] at h1
        have h2 : (upM B i (rtab md ops).2[i].1).testBit j = true := by rw [← h1, Nat.testBit_or, hj.2, Bool.true_or]
        obtain ⟨n, hn, h3⟩ := upM_bit h2
        have hni := (baseOk_row hk hr2).2 n hn
        rcases h3 with rfl | ⟨h4, h5⟩
        · exact hneed _ hr2 n hn (by omega) hj.1
        · cases hO2 : O.contains n with
          | true => exact closed_bits hw hk hc n n (Nat.le_refl _) (by omega) hO2 (hneed _ hr2 n hn (by omega) hO2) j hj.1 h5
          | false =>
            have := bits_out hw hk n n (Nat.le_refl _) (by omega) hO2 j h5
            rw [hj.1] at this
            cases this
      have hoff : ∀ d, (O.contains d && (B.getD d 0).testBit i) = true → b d = false := by
        intro d hd
        rw [Bool.and_eq_true] at hd
        cases hbd : b d with
        | false => rfl
        | true =>
          have hdl := baseOk_lt hk (List.contains_iff_mem.1 hd.1)
          have := closed_bits hw hk hc d d (Nat.le_refl _) hdl hd.1 hbd i hO hd.2
          rw [hb] at this
          cases this
      obtain ⟨oi, hoi, hK⟩ := hs i (List.contains_iff_mem.1 hO) b a w hI hb hon hoff
      refine wpOp_step hoi (fun K' hK' => hK K' (fun a' w' hI' => hK' a' w' ⟨fun _ _ => trivial, ?_⟩))
      have hset : (lof (rtab md ops).2.length O b).toArray.setIfInBounds i true = (lof (rtab md ops).2.length O (up b i)).toArray := by
        apply Array.ext'
        rw [Array.toList_setIfInBounds]
        exact lof_up hO
      rw [hset]
      refine ih (up b i) a' w' ?_ ?_ hI'
      · have := up_count (baseOk_nodup hk) (List.contains_iff_mem.1 hO) hb
        omega
      · intro d r hr hOd hbd n hn hOn
        by_cases hni : n = i
        · rw [hni, up_self]
        · rw [up_ne hni]
          by_cases hdi : d = i
          · subst hdi
            exact hneed r hr n hn (by have := (baseOk_row hk hr).2 n hn; omega) hOn
          · rw [up_ne hdi] at hbd
            exact hc d r hr hOd hbd n hn hOn
theorem putSel_size (b : Nat → Bool) : ∀ (L : List (Nat × Tmp × Value)) (a : Act), (putSel a b L).tmps.size = a.tmps.size ∧ (putSel a b L).defers = a.defers
  | [], a => ⟨rfl, rfl⟩
  | e :: r, a => by
    unfold putSel
    by_cases h : b e.1 = true
    · rw [if_pos h]
      have := putSel_size b r (a.put (some e.2.1) e.2.2)
      exact ⟨this.1.trans (by simp [Act.put]), this.2.trans rfl⟩
    · rw [if_neg h]
      exact putSel_size b r a
theorem putSel_off {b : Nat → Bool} {t : Tmp} : ∀ {L : List (Nat × Tmp × Value)} {a : Act}, (L.all fun e => !(e.2.1 == t)) = true → (putSel a b L).tmps[t]? = a.tmps[t]?
  | [], _, _ => rfl
  | e :: r, a, h => by
    rw [List.all_cons, Bool.and_eq_true] at h
    have he : e.2.1 ≠ t := by simpa using h.1
    unfold putSel
    by_cases hb : b e.1 = true
    · rw [if_pos hb, putSel_off h.2]
      simp [Act.put, Array.getElem?_setIfInBounds_ne he]
    · rw [if_neg hb]
      exact putSel_off h.2
theorem putSel_on {b : Nat → Bool} {e : Nat × Tmp × Value} : ∀ {L : List (Nat × Tmp × Value)} {a : Act} (k : Nat), L[k]? = some e → ((L.drop (k + 1)).all fun x => !(x.2.1 == e.2.1)) = true → b e.1 = true → Nat.ble (e.2.1 + 1) a.tmps.size = true → (putSel a b L).tmps[e.2.1]? = some e.2.2
  | [], _, _, h, _, _, _ => by cases h
  | x :: r, a, 0, h, hd, hb, ht => by
    simp only [List.getElem?_cons_zero, Option.some.injEq] at h
    subst h
    unfold putSel
    rw [if_pos hb, putSel_off (by simpa using hd)]
    have ht2 : x.2.1 < a.tmps.size := Nat.le_of_ble_eq_true ht
    simp [Act.put, ht2]
  | x :: r, a, k + 1, h, hd, hb, ht => by
    unfold putSel
    refine putSel_on k (by simpa using h) (by simpa using hd) hb ?_
    by_cases hx : b x.1 = true
    · rw [if_pos hx]
      simpa [Act.put] using ht
    · rw [if_neg hx]
      exact ht
theorem put_comm {a : Act} {s t : Tmp} {u v : Value} (h : s ≠ t) : (a.put (some s) u).put (some t) v = (a.put (some t) v).put (some s) u := by
  simp only [Act.put]
  rw [Array.setIfInBounds_comm _ _ h]
theorem putSel_put {b : Nat → Bool} {t : Tmp} {v : Value} : ∀ {L : List (Nat × Tmp × Value)} {a : Act}, (L.all fun e => !(e.2.1 == t)) = true → (putSel a b L).put (some t) v = putSel (a.put (some t) v) b L
  | [], _, _ => rfl
  | e :: r, a, h => by
    rw [List.all_cons, Bool.and_eq_true] at h
    have he : e.2.1 ≠ t := by simpa using h.1
    unfold putSel
    by_cases hb : b e.1 = true
    · rw [if_pos hb, if_pos hb, putSel_put h.2, put_comm he]
    · rw [if_neg hb, if_neg hb]
      exact putSel_put h.2
theorem putSel_same {b : Nat → Bool} {i : Nat} : ∀ {L : List (Nat × Tmp × Value)} {a : Act}, (L.all fun e => !(e.1 == i)) = true → putSel a (up b i) L = putSel a b L
  | [], _, _ => rfl
  | e :: r, a, h => by
    rw [List.all_cons, Bool.and_eq_true] at h
    have he : e.1 ≠ i := by simpa using h.1
    unfold putSel
    rw [up_ne he]
    exact putSel_same h.2
theorem putSel_up {b : Nat → Bool} {i : Nat} {t : Tmp} {v0 v : Value} : ∀ {L1 L2 : List (Nat × Tmp × Value)} {a : Act}, b i = false → ((L1 ++ L2).all fun e => !(e.1 == i) && !(e.2.1 == t)) = true →
    (putSel a b (L1 ++ (i, t, v0) :: L2)).put (some t) v = putSel a (up b i) (L1 ++ (i, t, v) :: L2)
  | [], L2, a, hb, h => by
    simp only [List.nil_append] at h ⊢
    have h1 : (L2.all fun e => !(e.1 == i)) = true := List.all_eq_true.2 (fun e he => by have := List.all_eq_true.1 h e he; simp only [Bool.and_eq_true] at this; exact this.1)
    have h2 : (L2.all fun e => !(e.2.1 == t)) = true := List.all_eq_true.2 (fun e he => by have := List.all_eq_true.1 h e he; simp only [Bool.and_eq_true] at this; exact this.2)
    unfold putSel
    rw [if_neg (by rw [hb]; decide), if_pos (up_self b i), putSel_put h2, putSel_same h1]
  | e :: r, L2, a, hb, h => by
    simp only [List.cons_append, List.all_cons, Bool.and_eq_true] at h
    have he : e.1 ≠ i := by simpa using h.1.1
    simp only [List.cons_append]
    unfold putSel
    rw [up_ne he]
    exact putSel_up hb h.2
theorem putSel_upk {b : Nat → Bool} {i : Nat} {t : Tmp} {v0 v : Value} {a : Act} {L L' : List (Nat × Tmp × Value)} (k : Nat) (hb : b i = false) (hL : L[k]? = some (i, t, v0)) (hL' : L.set k (i, t, v) = L') (hd : ((L.take k ++ L.drop (k + 1)).all fun e => !(e.1 == i) && !(e.2.1 == t)) = true) :
    (putSel a b L).put (some t) v = putSel a (up b i) L' := by
  have hk := (List.getElem?_eq_some_iff.1 hL).1
  have h1 : L = L.take k ++ (i, t, v0) :: L.drop (k + 1) := by
    have h2 : L[k] = (i, t, v0) := (List.getElem?_eq_some_iff.1 hL).2
    rw [← h2, List.getElem_cons_drop, List.take_append_drop]
  have h3 : L' = L.take k ++ (i, t, v) :: L.drop (k + 1) := by rw [← hL', List.set_eq_take_append_cons_drop, if_pos hk]
  rw [h3]
  conv => lhs; rw [h1]
  exact putSel_up hb hd
theorem inv_ {l : Array Bool} {fuel : Nat} {a : Act} {w : World} (O : List Nat) (I : (Nat → Bool) → Act → World → Prop) (hT : rtab md ops = T) (hw : waitsOk T.2 B = true) (hk : baseOk T.2 O = true)
    (hl : (lof T.2.length O (fun _ => false) == l.toList && O.length == fuel) = true) (h0 : I (fun _ => false) a w) (hs : ∀ i ∈ O, StepAt P ops Q B O I i)
    (hend : ∀ b a w, (∀ j, O.contains j = true → b j = true) → I b a w → Q .normal a w) : wpAnyLast P md ops Q (fun _ => True) [] fuel l a w := by
  rw [Bool.and_eq_true, beq_iff_eq, beq_iff_eq] at hl
  have h1 := inv_all hT hw hk I hs hend fuel (fun _ => false) a w (by rw [← hl.2]; simp) (fun d r _ _ hb => by cases hb) h0
  have h2 : (lof T.2.length O (fun _ => false)).toArray = l := by apply Array.ext'; exact hl.1
  rw [h2] at h1
  exact h1
theorem inv_at {l : Array Bool} {fuel : Nat} {a : Act} {w : World} (O : List Nat) (I : Act → (Nat → Bool) → Act → World → Prop) (hT : rtab md ops = T) (hw : waitsOk T.2 B = true) (hk : baseOk T.2 O = true)
    (hl : (lof T.2.length O (fun _ => false) == l.toList && O.length == fuel) = true) (h0 : I a (fun _ => false) a w) (hs : ∀ i ∈ O, StepAt P ops Q B O (I a) i)
    (hend : ∀ b a' w, (∀ j, O.contains j = true → b j = true) → I a b a' w → Q .normal a' w) : wpAnyLast P md ops Q (fun _ => True) [] fuel l a w := inv_ O (I a) hT hw hk hl h0 hs hend
end
end Go.Proofs.YtdhpcofnddkcaaaGreatDoorW.PrintLast
namespace Go.Proofs.YtdhpcofnddkcaaaGreatDoorW.PrintWords
open Go.RowKit
end Go.Proofs.YtdhpcofnddkcaaaGreatDoorW.PrintWords
namespace Go.Proofs.YtdhpcofnddkcaaaGreatDoorW.PrintLast
section
variable {ops : Array Oper} {a : Act} {o og : Oper} {g : Nat} {t : Tmp} {u : Bool}
theorem wanted_on (hg : o.guard = some (g, u)) (ho : ops[g]? = some og) (hd : og.dst = some t) (hv : a.tmps[t]? = some (.bool u)) : Region.wanted o (yielded ops a.tmps) = true := by
  simp [Region.wanted, hg, yielded, ho, hd, hv]
end
end Go.Proofs.YtdhpcofnddkcaaaGreatDoorW.PrintLast
namespace Go.Proofs.YtdhpcofnddkcaaaGreatDoorW.PrintWords
open Go.RowKit
section
variable {P : Program} {ops : Array Oper} {rest : List Oper} {o : Oper} {a : Act} {Q : Exit → Act → World → Prop} {W : World}
theorem gate_guard (hw : Region.wanted o (yielded ops a.tmps) = true) (h : wpList P ops Q ({ o with guard := none } :: rest) a W) : wpList P ops Q (o :: rest) a W := by
  have h1 : Region.wanted { o with guard := none } (yielded ops a.tmps) = true := rfl
  unfold wpList at h ⊢
  rw [if_pos h1] at h
  rw [if_pos hw]
  exact h
end
end Go.Proofs.YtdhpcofnddkcaaaGreatDoorW.PrintWords
namespace Go.Proofs.YtdhpcofnddkcaaaGreatDoor.S
open Go.RowKit Go.Proofs.YtdhpcofnddkcaaaGreatDoor.G Go.Proofs.YtdhpcofnddkcaaaGreatDoorW.PrintWords Go.Proofs.YtdhpcofnddkcaaaGreatDoorW.PrintLast Go.Proofs.YtdhpcofnddkcaaaGreatDoorW.PrintMore
attribute [local go_sem] max2_int min2_int max_two min_two max_three min_three max_four min_four
set_option linter.unusedVariables false
set_option linter.unusedSimpArgs false
def errW : Option Int → Value
  | none => .nilIface
  | some c => .iface 0 (.int .i64 c)
theorem errW_none : errW none = .nilIface := rfl
theorem errW_some (c : Int) : errW (some c) = .iface 0 (.int .i64 c) := rfl
theorem info5 : (Tryz.prog.info? 5).map (fun i => (i.zero, i.size, i.bytes)) = some (some (.int .u8 0), 1, 1) := by kernel_rfl
theorem info9 : (Tryz.prog.info? 9).map (fun i => (i.zero, i.size, i.bytes)) = some (some (.string ⟨#[]⟩), 1, 16) := by kernel_rfl
theorem info29 : (Tryz.prog.info? 29).map (fun i => (i.zero, i.size, i.bytes)) = some (some (.agg #[(.int .i64 0), (.string ⟨#[]⟩), (.string ⟨#[]⟩), (.bool false), (.slice none 0 0), (.string ⟨#[]⟩), (.string ⟨#[]⟩), (.slice none 0 0)]), 8, 128) := by kernel_rfl
theorem info44 : (Tryz.prog.info? 44).map (fun i => (i.zero, i.size, i.bytes)) = some (some (.agg #[(.string ⟨#[]⟩), (.int .i64 0), (.string ⟨#[]⟩)]), 3, 40) := by kernel_rfl
structure S44 where
  f0 : ByteArray
  f1 : Int
  f2 : ByteArray
def z44 : S44 := ⟨(⟨#[]⟩ : ByteArray), (0 : Int), (⟨#[]⟩ : ByteArray)⟩
def k44 : Kd S44 := Kd.iso (Kd.pair Kd.string (Kd.pair (Kd.int .i64) Kd.string)) (fun x : S44 => (x.f0, x.f1, x.f2))
theorem k44_open {w : World} {x : S44} {cs : List Value} (h : k44.K w x cs) : cs = [.string x.f0, .int .i64 x.f1, .string x.f2] := by
  obtain ⟨_, _, rfl, rfl, ⟨_, _, rfl, rfl, rfl⟩⟩ := h
  exact rfl
theorem k44_mk (w : World) (x : S44)  : k44.K w x [.string x.f0, .int .i64 x.f1, .string x.f2] := ⟨[.string x.f0], [.int .i64 x.f1, .string x.f2], rfl, rfl, ⟨[.int .i64 x.f1], [.string x.f2], rfl, rfl, rfl⟩⟩
theorem k44_mkM (w : World) (base : Nat) (ok : Nat → Prop) (x : S44)  : k44.M w base ok x [.string x.f0, .int .i64 x.f1, .string x.f2] := ⟨[.string x.f0], [.int .i64 x.f1, .string x.f2], rfl, rfl, ⟨[.int .i64 x.f1], [.string x.f2], rfl, rfl, rfl⟩⟩
def rd_T44 (xs : List S44) (i : Int) : S44 := xs.getD i.toNat z44
theorem at_T44 {w : World} {A : Option Addr} {n : Nat} {xs : List S44} (h : Kd.C k44 w A n xs) (i : Int) (h0 : 0 ≤ i) (h1 : i < n) : ∃ ad , A = some ad ∧ w.cell? (ad.add (i.toNat * 3)) = some (.string (rd_T44 xs i).f0) ∧ w.cell? ⟨(ad.add (i.toNat * 3)).block, (ad.add (i.toNat * 3)).off + 1, none⟩ = some (.int .i64 (rd_T44 xs i).f1) ∧ w.cell? ⟨(ad.add (i.toNat * 3)).block, (ad.add (i.toNat * 3)).off + 2, none⟩ = some (.string (rd_T44 xs i).f2) := by
  obtain ⟨ad, c, e, _, hK, hc0⟩ := Kd.C_get h z44 i h0 h1
  have hc : ∀ j u, c[j]? = some u → w.cell? (ad.add (i.toNat * 3 + j)) = some u := hc0
  obtain rfl := k44_open hK
  exact ⟨ad, e, hc 0 _ rfl, by rw [← add_field _ _ 1 (by omega)]; exact hc 1 _ rfl, by rw [← add_field _ _ 2 (by omega)]; exact hc 2 _ rfl⟩
structure S29 where
  f0 : Int
  f1 : ByteArray
  f2 : ByteArray
  f3 : Bool
  f4 : (List ByteArray)
  f5 : ByteArray
  f6 : ByteArray
  f7 : (List S44)
def z29 : S29 := ⟨(0 : Int), (⟨#[]⟩ : ByteArray), (⟨#[]⟩ : ByteArray), false, ([] : List ByteArray), (⟨#[]⟩ : ByteArray), (⟨#[]⟩ : ByteArray), ([] : List S44)⟩
def k29 : Kd S29 := Kd.iso (Kd.pair (Kd.int .i64) (Kd.pair Kd.string (Kd.pair Kd.string (Kd.pair Kd.bool (Kd.pair (Kd.slice 9 Kd.string) (Kd.pair Kd.string (Kd.pair Kd.string (Kd.slice 44 k44)))))))) (fun x : S29 => (x.f0, x.f1, x.f2, x.f3, x.f4, x.f5, x.f6, x.f7))
theorem k29_open {w : World} {x : S29} {cs : List Value} (h : k29.K w x cs) : ∃ A4 c4 A7 c7, cs = [.int .i64 x.f0, .string x.f1, .string x.f2, .bool x.f3, .slice A4 x.f4.length c4, .string x.f5, .string x.f6, .slice A7 x.f7.length c7] ∧ x.f4.length ≤ c4 ∧ Kd.string.C w A4 x.f4.length x.f4 ∧ x.f7.length ≤ c7 ∧ k44.C w A7 x.f7.length x.f7 := by
  obtain ⟨_, _, rfl, rfl, ⟨_, _, rfl, rfl, ⟨_, _, rfl, rfl, ⟨_, _, rfl, rfl, ⟨_, _, rfl, ⟨A4, c4, rfl, l4, g4⟩, ⟨_, _, rfl, rfl, ⟨_, _, rfl, rfl, ⟨A7, c7, rfl, l7, g7⟩⟩⟩⟩⟩⟩⟩⟩ := h
  exact ⟨A4, c4, A7, c7, rfl, l4, g4, l7, g7⟩
theorem k29_openM {w : World} {base : Nat} {ok : Nat → Prop} {x : S29} {cs : List Value} (h : k29.M w base ok x cs) : ∃ v4 v7, cs = [.int .i64 x.f0, .string x.f1, .string x.f2, .bool x.f3, v4, .string x.f5, .string x.f6, v7] ∧ Kd.string.R 9 w base ok v4 x.f4 ∧ k44.R 44 w base ok v7 x.f7 := by
  obtain ⟨_, _, rfl, rfl, ⟨_, _, rfl, rfl, ⟨_, _, rfl, rfl, ⟨_, _, rfl, rfl, ⟨_, _, rfl, ⟨v4, rfl, g4⟩, ⟨_, _, rfl, rfl, ⟨_, _, rfl, rfl, ⟨v7, rfl, g7⟩⟩⟩⟩⟩⟩⟩⟩ := h
  exact ⟨v4, v7, rfl, g4, g7⟩
theorem k29_mk (w : World) (x : S29) {A4 : Option Addr} {c4 : Nat} (l4 : x.f4.length ≤ c4) (g4 : Kd.string.C w A4 x.f4.length x.f4) {A7 : Option Addr} {c7 : Nat} (l7 : x.f7.length ≤ c7) (g7 : k44.C w A7 x.f7.length x.f7) : k29.K w x [.int .i64 x.f0, .string x.f1, .string x.f2, .bool x.f3, .slice A4 x.f4.length c4, .string x.f5, .string x.f6, .slice A7 x.f7.length c7] := ⟨[.int .i64 x.f0], [.string x.f1, .string x.f2, .bool x.f3, .slice A4 x.f4.length c4, .string x.f5, .string x.f6, .slice A7 x.f7.length c7], rfl, rfl, ⟨[.string x.f1], [.string x.f2, .bool x.f3, .slice A4 x.f4.length c4, .string x.f5, .string x.f6, .slice A7 x.f7.length c7], rfl, rfl, ⟨[.string x.f2], [.bool x.f3, .slice A4 x.f4.length c4, .string x.f5, .string x.f6, .slice A7 x.f7.length c7], rfl, rfl, ⟨[.bool x.f3], [.slice A4 x.f4.length c4, .string x.f5, .string x.f6, .slice A7 x.f7.length c7], rfl, rfl, ⟨[.slice A4 x.f4.length c4], [.string x.f5, .string x.f6, .slice A7 x.f7.length c7], rfl, ⟨A4, c4, rfl, l4, g4⟩, ⟨[.string x.f5], [.string x.f6, .slice A7 x.f7.length c7], rfl, rfl, ⟨[.string x.f6], [.slice A7 x.f7.length c7], rfl, rfl, ⟨A7, c7, rfl, l7, g7⟩⟩⟩⟩⟩⟩⟩⟩
theorem k29_mkM (w : World) (base : Nat) (ok : Nat → Prop) (x : S29) {v4 : Value} (g4 : Kd.string.R 9 w base ok v4 x.f4) {v7 : Value} (g7 : k44.R 44 w base ok v7 x.f7) : k29.M w base ok x [.int .i64 x.f0, .string x.f1, .string x.f2, .bool x.f3, v4, .string x.f5, .string x.f6, v7] := ⟨[.int .i64 x.f0], [.string x.f1, .string x.f2, .bool x.f3, v4, .string x.f5, .string x.f6, v7], rfl, rfl, ⟨[.string x.f1], [.string x.f2, .bool x.f3, v4, .string x.f5, .string x.f6, v7], rfl, rfl, ⟨[.string x.f2], [.bool x.f3, v4, .string x.f5, .string x.f6, v7], rfl, rfl, ⟨[.bool x.f3], [v4, .string x.f5, .string x.f6, v7], rfl, rfl, ⟨[v4], [.string x.f5, .string x.f6, v7], rfl, ⟨v4, rfl, g4⟩, ⟨[.string x.f5], [.string x.f6, v7], rfl, rfl, ⟨[.string x.f6], [v7], rfl, rfl, ⟨v7, rfl, g7⟩⟩⟩⟩⟩⟩⟩⟩
def rd_T29 (xs : List S29) (i : Int) : S29 := xs.getD i.toNat z29
theorem at_T29 {w : World} {A : Option Addr} {n : Nat} {xs : List S29} (h : Kd.C k29 w A n xs) (i : Int) (h0 : 0 ≤ i) (h1 : i < n) : ∃ ad A4 c4 A7 c7, A = some ad ∧ w.cell? (ad.add (i.toNat * 8)) = some (.int .i64 (rd_T29 xs i).f0) ∧ w.cell? ⟨(ad.add (i.toNat * 8)).block, (ad.add (i.toNat * 8)).off + 1, none⟩ = some (.string (rd_T29 xs i).f1) ∧ w.cell? ⟨(ad.add (i.toNat * 8)).block, (ad.add (i.toNat * 8)).off + 2, none⟩ = some (.string (rd_T29 xs i).f2) ∧ w.cell? ⟨(ad.add (i.toNat * 8)).block, (ad.add (i.toNat * 8)).off + 3, none⟩ = some (.bool (rd_T29 xs i).f3) ∧ w.cell? ⟨(ad.add (i.toNat * 8)).block, (ad.add (i.toNat * 8)).off + 4, none⟩ = some (.slice A4 (rd_T29 xs i).f4.length c4) ∧ w.cell? ⟨(ad.add (i.toNat * 8)).block, (ad.add (i.toNat * 8)).off + 5, none⟩ = some (.string (rd_T29 xs i).f5) ∧ w.cell? ⟨(ad.add (i.toNat * 8)).block, (ad.add (i.toNat * 8)).off + 6, none⟩ = some (.string (rd_T29 xs i).f6) ∧ w.cell? ⟨(ad.add (i.toNat * 8)).block, (ad.add (i.toNat * 8)).off + 7, none⟩ = some (.slice A7 (rd_T29 xs i).f7.length c7) ∧ (rd_T29 xs i).f4.length ≤ c4 ∧ Kd.string.C w A4 (rd_T29 xs i).f4.length (rd_T29 xs i).f4 ∧ (rd_T29 xs i).f7.length ≤ c7 ∧ k44.C w A7 (rd_T29 xs i).f7.length (rd_T29 xs i).f7 := by
  obtain ⟨ad, c, e, _, hK, hc0⟩ := Kd.C_get h z29 i h0 h1
  have hc : ∀ j u, c[j]? = some u → w.cell? (ad.add (i.toNat * 8 + j)) = some u := hc0
  obtain ⟨A4, c4, A7, c7, rfl, l4, g4, l7, g7⟩ := k29_open hK
  exact ⟨ad, A4, c4, A7, c7, e, hc 0 _ rfl, by rw [← add_field _ _ 1 (by omega)]; exact hc 1 _ rfl, by rw [← add_field _ _ 2 (by omega)]; exact hc 2 _ rfl, by rw [← add_field _ _ 3 (by omega)]; exact hc 3 _ rfl, by rw [← add_field _ _ 4 (by omega)]; exact hc 4 _ rfl, by rw [← add_field _ _ 5 (by omega)]; exact hc 5 _ rfl, by rw [← add_field _ _ 6 (by omega)]; exact hc 6 _ rfl, by rw [← add_field _ _ 7 (by omega)]; exact hc 7 _ rfl, l4, g4, l7, g7⟩
end Go.Proofs.YtdhpcofnddkcaaaGreatDoor.S
namespace Go.Proofs.YtdhpcofnddkcaaaGreatDoor.E
open Go.ChangeShapes Go.WideShapes Go.ChangeAt Go.RowKit Go.Joins
set_option linter.unusedVariables false
theorem own : ownKnob Tryz.prog.godebug = none := by kernel_rfl
theorem laidOut : laidOutB Tryz.prog = true := by kernel_rfl
theorem args_below {P : Program} (hl : laidOutB P = true) {H : Type} {enc : TypeId × Value → H} {W W' : World} (hb : Below W.heap.size W W') : ∀ (ts : List TypeId) (vs : List Value) (ds : List (DataW H)) (ps : List MemPlace),
    (∀ t ∈ ts, P.readableRec t = true ∧ t < P.types.size) → DataW.TrodAll enc P W 0 (fun _ => true) true ts vs ds ps → (∀ x ∈ ps, x.block < W.heap.size) →
    DataW.TrodAll enc P W' 0 (fun b => decide (b < W.heap.size)) true ts vs ds ps
  | [], [], [], ps, _, h, _ => h
  | t :: ts, v :: vs, d :: ds, ps, hr, h, hlt => by
    obtain ⟨p, q, h0, h1, rfl⟩ := h
    exact ⟨p, q, Below.trod hl (hr t (.head _)).1 (hr t (.head _)).2 h0 hb (fun x hx => hlt x (List.mem_append.2 (Or.inl hx))), args_below hl hb ts vs ds q (fun t ht => hr t (.tail _ ht)) h1 (fun x hx => hlt x (List.mem_append.2 (Or.inr hx))), rfl⟩
  | [], _ :: _, _, _, _, h, _ => h.elim
  | _ :: _, [], _, _, _, h, _ => h.elim
  | [], [], _ :: _, _, _, h, _ => h.elim
  | _ :: _, _ :: _, [], _, _, h, _ => h.elim
noncomputable def laidWorld (os : Os) : World :=
  let w0 := World.holding Tryz.prog os ⟨#[], #[], []⟩
  let put (h : Array Obj) (g : Nat) (cs : Array Value) : Array Obj := h.modify g fun
    | .cells _ t frozen => .cells cs t frozen
    | o => o
  let n := w0.heap.size
  let h1 := put w0.heap 6 (Lib.firstTab.map fun z => Value.int .u8 z).toArray
  let h2 := put h1 7 ((List.range 16).flatMap fun i => [Value.int .u8 (Lib.accLo i), Value.int .u8 (Lib.accHi i)]).toArray
  let h3 := put h2 3 #[.iface 146 (.pointer (some ⟨n, 0, none⟩))]
  let h4 := put h3 2 #[.iface 146 (.pointer (some ⟨n + 1, 0, none⟩))]
  let h5 := put h4 1 (Lib.pow10Tab.map fun z => Value.int .u64 z).toArray
  let h6 := put h5 4 (([0, 1, 28, 2, 29, 14, 24, 3, 30, 22, 20, 15, 25, 17, 4, 8, 31, 27, 13, 23, 21, 19, 16, 7, 26, 12, 18, 6, 11, 5, 10, 9] : List Int).map fun z => Value.int .u8 z).toArray
  let h7 := put h6 5 (([0, 1, 56, 2, 57, 49, 28, 3, 61, 58, 42, 50, 38, 29, 17, 4, 62, 47, 59, 36, 45, 43, 51, 22, 53, 39, 33, 30, 24, 18, 12, 5, 63, 55, 48, 27, 60, 41, 37, 16, 46, 35, 44, 21, 52, 32, 23, 11, 54, 26, 40, 15, 34, 20, 31, 10, 25, 14, 19, 9, 13, 8, 7, 6] : List Int).map fun z => Value.int .u8 z).toArray
  let h8 := h7.push (.cells #[.string ⟨#[118, 97, 108, 117, 101, 32, 111, 117, 116, 32, 111, 102, 32, 114, 97, 110, 103, 101]⟩] 148 (0, 0))
  let h9 := h8.push (.cells #[.string ⟨#[105, 110, 118, 97, 108, 105, 100, 32, 115, 121, 110, 116, 97, 120]⟩] 148 (0, 0))
  { w0 with heap := h9 }
theorem tab_of {W : World} (h : W.ShapedOpen Tryz.prog) : G.Tab_ W := Tryz.laysM145.s1_3 W h
theorem pow_of {W : World} (h : Lib.VarReads Tryz.prog W "internal/strconv.uint64pow10" Rows.laid_internal_strconv_uint64pow10) : G.TabP_ W := by
  obtain ⟨g, t, cs, fuel, p, h1, h2, h3, h4⟩ := h
  obtain rfl : g = 1 := Option.some.inj (h1.symm.trans (by kernel_rfl))
  obtain rfl : t = 127 := Option.some.inj (h2.symm.trans (by kernel_rfl))
  have e : (Rows.laid_internal_strconv_uint64pow10 : DataW Unit) = Lib.tabData .u64 Lib.pow10Tab := by kernel_rfl
  rw [e] at h4
  unfold G.TabP_ Lib.TabIs
  rw [h3, ← Lib.cells_of_tab Tryz.underlying127 Tryz.underlying102 (by kernel_rfl) (by kernel_rfl) h4]
theorem star : "*" ++ "errors.errorString" = "*errors.errorString" := by decide
theorem name_alone (u : TypeId) (h : Tryz.prog.typeName? 3 u = some "*errors.errorString") : u = 146 :=
  typeName_ptr_named (nm := "errors.errorString") (by rw [star]; kernel_rfl) (by kernel_rfl) (by decide) u (by rw [star]; exact h)
abbrev laidS : List (String × DataW Unit) := [("math/bits.deBruijn32tab", Rows.laid_math_bits_deBruijn32tab), ("math/bits.deBruijn64tab", Rows.laid_math_bits_deBruijn64tab), ("internal/strconv.uint64pow10", Rows.laid_internal_strconv_uint64pow10), ("unicode/utf8.acceptRanges", Rows.laid_unicode_utf8_acceptRanges), ("strconv.ErrRange", Rows.laid_strconv_ErrRange), ("strconv.ErrSyntax", Rows.laid_strconv_ErrSyntax), ("unicode/utf8.first", Rows.laid_unicode_utf8_first)]
theorem pow_laid {W : World} (hL : laidMetH Tryz.prog laidS W) : G.TabP_ W := pow_of (Lib.laidMet.reads hL (.tail _ (.tail _ (.head _))))
set_option maxRecDepth 100000 in
theorem err_at {W : World} {n : String} {text : List UInt8} {r : List (String × DataW Unit)} {g : Nat} (h : laidMet Tryz.prog ((n, .iface "*errors.errorString" (.ptr (.agg [.lit (.string text)]))) :: r) W) (hg : Tryz.prog.globalNamed n = some g) (ht : (Tryz.prog.globals[g]?).map (·.type) = some 65) : G.ErrAt g W := by
  obtain ⟨a, s, hv, -⟩ := laid_sentinel h hg ht Tryz.underlying65 name_alone Tryz.underlying146 Tryz.underlying148 rfl rfl Tryz.underlying9 (by kernel_rfl) (by kernel_rfl)
  exact ⟨_, by simpa using World.var?_cell hg hv 0, Or.inr ⟨_, _, rfl⟩⟩
set_option maxRecDepth 100000 in
theorem err_laid {W : World} (hL : laidMetH Tryz.prog laidS W) : G.TabE_ W := by
  have h4 : laidMet Tryz.prog [("strconv.ErrRange", Rows.laid_strconv_ErrRange), ("strconv.ErrSyntax", Rows.laid_strconv_ErrSyntax), ("unicode/utf8.first", Rows.laid_unicode_utf8_first)] W := laidMet.tail (laidMet.tail (laidMet.tail (laidMet.tail hL)))
  exact ⟨err_at (laidMet.tail h4) (by kernel_rfl) (by kernel_rfl), err_at h4 (by kernel_rfl) (by kernel_rfl)⟩
theorem arg_cells : Tryz.prog.cellsOf 44 = 3 := by kernel_rfl
end Go.Proofs.YtdhpcofnddkcaaaGreatDoor.E
namespace Go.Proofs.YtdhpcofnddkcaaaGreatDoor.S
open Go.RowKit Go.Proofs.YtdhpcofnddkcaaaGreatDoor.G Go.Proofs.YtdhpcofnddkcaaaGreatDoorW.PrintWords Go.Proofs.YtdhpcofnddkcaaaGreatDoorW.PrintLast Go.Proofs.YtdhpcofnddkcaaaGreatDoorW.PrintMore
set_option linter.unusedVariables false
set_option linter.unusedSimpArgs false
def toAr (a : S44) : Net.Ar := (a.f0, a.f1, a.f2)
def toSt (s : S29) : Net.St := (s.f0, s.f1, s.f2, s.f3, s.f4, s.f5, s.f6, s.f7.map toAr)
def ofAr (a : Net.Ar) : S44 := ⟨a.1, a.2.1, a.2.2⟩
def ofSt : Net.St → S29
  | (k, tag, by_, ov, ws, nm, at_, ags) => ⟨k, tag, by_, ov, ws, nm, at_, ags.map ofAr⟩
def isDig (c : UInt8) : Bool := decide (48 ≤ c.toNat) && decide (c.toNat ≤ 57)
def ahead (R : List UInt8) : List UInt8 := R.takeWhile (· != 46)
def behind (R : List UInt8) : List UInt8 := R.dropWhile (· != 46)
def numL (l : List UInt8) : Bool :=
  let R := Lib.trimPrefix l [45]
  !(ahead R).isEmpty && (ahead R).all isDig && (match behind R with | [] => decide ((ahead R).length ≤ 40) | _ :: P => !P.isEmpty && P.all isDig && decide ((ahead R).length + P.length ≤ 40))
def okA (a : Net.Ar) : Bool := if a.2.1 = 0 then true else if a.2.1 = 1 then numL (Net.lb a.2.2) else if a.2.1 = 2 then (Net.momL (Net.lb a.2.2)).isSome else false
theorem okA_kind : ∀ x, okA x = true → Net.okK x := by
  intro x h
  unfold okA at h
  split at h
  · rename_i c; exact Or.inl c
  · split at h
    · rename_i c; exact Or.inr (Or.inl c)
    · split at h
      · rename_i c; exact Or.inr (Or.inr c)
      · cases h
def script_reader_text.f (s : ByteArray) (at_ : Int) (none_ : Bool) : Option (ByteArray × ByteArray × Int × Bool) :=
  if s.size ≤ 1000000 ∧ 0 ≤ at_ ∧ at_ ≤ s.size then (if none_ = true then some (⟨#[]⟩, s, at_, true) else (match Net.rdB (Net.lb s) at_.toNat with
    | some (p, b) => some (p, s, (b : Int), false)
    | none => some (⟨#[]⟩, s, at_, true))) else none
def script_Encode.f (l : List S29) : Option (List Int × Int) :=
  if l.length ≤ 4096 then (if (Net.encS (l.map toSt)).length ≤ 1000000 ∧ (∀ s ∈ l, s.f4.length ≤ 1000000 ∧ s.f7.length ≤ 1000000 ∧ ∀ a ∈ s.f7, a.f2.size ≤ 100000) then (if (l.map toSt).all (Net.right okA) = true then some ((Net.encS (l.map toSt)).map fun c => (c.toNat : Int), 0) else some ([], 1)) else none)
  else some ([], 4)
def script_Decode.f (b : List Int) : Option (List S29 × Int × Int) :=
  if b.length ≤ 100000 then (if b.length > 262144 then some ([], 0, 4) else
    some ((Net.decR okA (Net.lb (strOfNums b)) (b.length + 1) 4096 0).1.map ofSt, ((Net.decR okA (Net.lb (strOfNums b)) (b.length + 1) 4096 0).2.1 : Int), (Net.decR okA (Net.lb (strOfNums b)) (b.length + 1) 4096 0).2.2)) else none
end Go.Proofs.YtdhpcofnddkcaaaGreatDoor.S
namespace Go.Proofs.YtdhpcofnddkcaaaGreatDoor.S
open Go.RowKit Go.Proofs.YtdhpcofnddkcaaaGreatDoor.G Go.Proofs.YtdhpcofnddkcaaaGreatDoorW.PrintWords Go.Proofs.YtdhpcofnddkcaaaGreatDoorW.PrintLast Go.Proofs.YtdhpcofnddkcaaaGreatDoorW.PrintMore
attribute [local go_sem] max2_int min2_int max_two min_two max_three min_three max_four min_four
set_option linter.unusedVariables false
set_option linter.unusedSimpArgs false
namespace Sx6
theorem cellsF3 {w : World} {g : Nat} {t : TypeId} {a0 a1 a2 : Value} (h : w.heap[g]? = some (.cells #[a0, a1, a2] t (0, 0))) : w.cell? ⟨g, 0, none⟩ = some a0 ∧ w.cell? ⟨g, 1, none⟩ = some a1 ∧ w.cell? ⟨g, 2, none⟩ = some a2 ∧ w.frozen? ⟨g, 0, none⟩ = false ∧ w.frozen? ⟨g, 1, none⟩ = false ∧ w.frozen? ⟨g, 2, none⟩ = false := ⟨(blk_cell h 0).trans rfl, (blk_cell h 1).trans rfl, (blk_cell h 2).trans rfl, blk_frozen h 0, blk_frozen h 1, blk_frozen h 2⟩
theorem cellsF5 {w : World} {g : Nat} {t : TypeId} {a0 a1 a2 a3 a4 : Value} (h : w.heap[g]? = some (.cells #[a0, a1, a2, a3, a4] t (0, 0))) : w.cell? ⟨g, 0, none⟩ = some a0 ∧ w.cell? ⟨g, 1, none⟩ = some a1 ∧ w.cell? ⟨g, 2, none⟩ = some a2 ∧ w.cell? ⟨g, 3, none⟩ = some a3 ∧ w.cell? ⟨g, 4, none⟩ = some a4 ∧ w.frozen? ⟨g, 0, none⟩ = false ∧ w.frozen? ⟨g, 1, none⟩ = false ∧ w.frozen? ⟨g, 2, none⟩ = false ∧ w.frozen? ⟨g, 3, none⟩ = false ∧ w.frozen? ⟨g, 4, none⟩ = false := ⟨(blk_cell h 0).trans rfl, (blk_cell h 1).trans rfl, (blk_cell h 2).trans rfl, (blk_cell h 3).trans rfl, (blk_cell h 4).trans rfl, blk_frozen h 0, blk_frozen h 1, blk_frozen h 2, blk_frozen h 3, blk_frozen h 4⟩
theorem cellsF12 {w : World} {g : Nat} {t : TypeId} {a0 a1 a2 a3 a4 a5 a6 a7 a8 a9 a10 a11 : Value} (h : w.heap[g]? = some (.cells #[a0, a1, a2, a3, a4, a5, a6, a7, a8, a9, a10, a11] t (0, 0))) : w.cell? ⟨g, 0, none⟩ = some a0 ∧ w.cell? ⟨g, 1, none⟩ = some a1 ∧ w.cell? ⟨g, 2, none⟩ = some a2 ∧ w.cell? ⟨g, 3, none⟩ = some a3 ∧ w.cell? ⟨g, 4, none⟩ = some a4 ∧ w.cell? ⟨g, 5, none⟩ = some a5 ∧ w.cell? ⟨g, 6, none⟩ = some a6 ∧ w.cell? ⟨g, 7, none⟩ = some a7 ∧ w.cell? ⟨g, 8, none⟩ = some a8 ∧ w.cell? ⟨g, 9, none⟩ = some a9 ∧ w.cell? ⟨g, 10, none⟩ = some a10 ∧ w.cell? ⟨g, 11, none⟩ = some a11 ∧ w.frozen? ⟨g, 0, none⟩ = false ∧ w.frozen? ⟨g, 1, none⟩ = false ∧ w.frozen? ⟨g, 2, none⟩ = false ∧ w.frozen? ⟨g, 3, none⟩ = false ∧ w.frozen? ⟨g, 4, none⟩ = false ∧ w.frozen? ⟨g, 5, none⟩ = false ∧ w.frozen? ⟨g, 6, none⟩ = false ∧ w.frozen? ⟨g, 7, none⟩ = false ∧ w.frozen? ⟨g, 8, none⟩ = false ∧ w.frozen? ⟨g, 9, none⟩ = false ∧ w.frozen? ⟨g, 10, none⟩ = false ∧ w.frozen? ⟨g, 11, none⟩ = false := ⟨(blk_cell h 0).trans rfl, (blk_cell h 1).trans rfl, (blk_cell h 2).trans rfl, (blk_cell h 3).trans rfl, (blk_cell h 4).trans rfl, (blk_cell h 5).trans rfl, (blk_cell h 6).trans rfl, (blk_cell h 7).trans rfl, (blk_cell h 8).trans rfl, (blk_cell h 9).trans rfl, (blk_cell h 10).trans rfl, (blk_cell h 11).trans rfl, blk_frozen h 0, blk_frozen h 1, blk_frozen h 2, blk_frozen h 3, blk_frozen h 4, blk_frozen h 5, blk_frozen h 6, blk_frozen h 7, blk_frozen h 8, blk_frozen h 9, blk_frozen h 10, blk_frozen h 11⟩
theorem q0_ {p_ : Prop} (h_ : p_ := by repeat (first | (with_reducible first | exact HB.out | apply below_alloc | apply pw_below_drewN | apply below_drew1) | exact HB.out)) : p_ := h_
theorem q1_ {p_ : Prop} (h_ : p_ := by repeat (first | (with_reducible first | exact HB.out | apply below_alloc | apply pw_below_drewN | apply below_drew1 | refine below_set ?_ GE124.out) | exact HB.out)) : p_ := h_
theorem q2_ {p_ : Prop} (h_ : p_ := by (try simp only [List.map_toArray, List.map_cons, List.map_nil]); first | done | rfl | (simp only [List.length_drop, List.length_take]; rfl)) : p_ := h_
theorem q3_ {p_ : Prop} (h_ : p_ := by (with_reducible repeat (first | refine blk_drewN ?_ _ | refine blk_drew ?_ | refine blk_alloc ?_ _)); exact BK124.out) : p_ := h_
theorem q4_ {p_ : Prop} (h_ : p_ := by (with_reducible repeat (first | refine blk_drewN ?_ _ | refine blk_drew ?_ | refine blk_alloc ?_ _)); refine blk_put (cs := #[.bool false, .string (⟨#[]⟩ : ByteArray), .int .i64 0]) ?_ 2 _ rfl; (with_reducible repeat (first | refine blk_drewN ?_ _ | refine blk_drew ?_ | refine blk_alloc ?_ _)); refine blk_put (cs := #[.bool false, .string (⟨#[]⟩ : ByteArray), .int .i64 0]) ?_ 1 _ rfl; (with_reducible repeat (first | refine blk_drewN ?_ _ | refine blk_drew ?_ | refine blk_alloc ?_ _)); refine blk_put (cs := #[.bool false, .string (⟨#[]⟩ : ByteArray), .int .i64 0]) ?_ 0 _ rfl; (with_reducible repeat (first | refine blk_drewN ?_ _ | refine blk_drew ?_ | refine blk_alloc ?_ _)); exact BK124.out) : p_ := h_
theorem q5_ {p_ : Prop} (h_ : p_ := by first | rfl | (simp [errW_none, errW_some] <;> rfl) | (simp [*, errW_none, errW_some] <;> rfl)) : p_ := h_
theorem q6_ {p_ : Prop} (h_ : p_ := by rw [hg]; exact (below_size q0_)) : p_ := h_
theorem q7_ {p_ : Prop} (h_ : p_ := by repeat (first | (with_reducible first | exact HB.out | apply below_alloc | apply pw_below_drewN | apply below_drew1 | refine below_set ?_ GE121.out) | exact HB.out)) : p_ := h_
theorem q8_ {p_ : Prop} (h_ : p_ := by (with_reducible repeat (first | refine blk_drewN ?_ _ | refine blk_drew ?_ | refine blk_alloc ?_ _)); exact BK139.out) : p_ := h_
theorem q9_ {p_ : Prop} (h_ : p_ := by repeat (first | (with_reducible first | exact HB.out | apply below_alloc | apply pw_below_drewN | apply below_drew1 | refine below_set ?_ GE139.out) | exact HB.out)) : p_ := h_
theorem q10_ {p_ : Prop} (h_ : p_ := by (with_reducible repeat (first | refine blk_drewN ?_ _ | refine blk_drew ?_ | refine blk_alloc ?_ _)); exact BK121.out) : p_ := h_
theorem q11_ {p_ : Prop} (h_ : p_ := by repeat (first | (with_reducible first | exact HB.out | apply below_alloc | apply pw_below_drewN | apply below_drew1 | refine below_set ?_ GE139.out | refine below_set ?_ GE140.out) | exact HB.out)) : p_ := h_
theorem u0_ {p_ : Prop} (h_ : p_ := by first | (go_simp; done) | (go_simp; rfl)) : p_ := h_
end Sx6
open Sx6
def value_Str.f (a0 : ByteArray) : Option (Int × ByteArray × Bool × ByteArray × Int × Int × Int × Int × Bool × Bool × Int × Int) := some (0, a0, false, (⟨#[]⟩ : ByteArray), 0, 0, 0, 0, false, false, 0, 0)
set_option maxHeartbeats 8000000 in
set_option maxRecDepth 100000 in
theorem value_Str.calls (a0 : ByteArray) (r1 : Int) (r2 : ByteArray) (r3 : Bool) (r4 : ByteArray) (r5 : Int) (r6 : Int) (r7 : Int) (r8 : Int) (r9 : Bool) (r10 : Bool) (r11 : Int) (r12 : Int) (w : World) (h : value_Str.f a0 = some (r1, r2, r3, r4, r5, r6, r7, r8, r9, r10, r11, r12)) :
  Calls Tryz.prog 26 #[.string a0] w fun e w' => e = .returned (.agg #[.int .i64 r1, .string r2, .bool r3, .string r4, .int .i64 r5, .int .i64 r6, .int .i64 r7, .int .i64 r8, .bool r9, .bool r10, .int .i64 r11, .int .i64 r12]) ∧ Below w.heap.size w w' := by
 have hu51 := Tryz.underlying51
 have HB := Aside0.mk (Below.refl w.heap.size w)
 have H : (some (0, a0, false, (⟨#[]⟩ : ByteArray), 0, 0, 0, 0, false, false, 0, 0)) = some (r1, r2, r3, r4, r5, r6, r7, r8, r9, r10, r11, r12) := h
 clear h
 simp only [Option.some.injEq, Prod.mk.injEq] at H
 obtain ⟨rfl, rfl, rfl, rfl, rfl, rfl, rfl, rfl, rfl, rfl, rfl, rfl⟩ := H
 go_enter Tryz.func26, Tryz.ntmps26
 go_wp2_with (first | ((with_reducible refine gate_dst (N := 2) rfl ?_); refine box_event ?hg (N := 2) ?hd (cs := #[.int .i64 0, .string (⟨#[]⟩ : ByteArray), .bool false, .string (⟨#[]⟩ : ByteArray), .int .i64 0, .int .i64 0, .int .i64 0, .int .i64 0, .bool false, .bool false, .int .i64 0, .int .i64 0]) (t := 51) ?hr ?_; (case hd => rfl); (case hg => rfl); (case hr => exact u0_); intro gb119 hg w2 hbox hb; have BK119 := Aside0.mk (hbox); have GW119 := Aside0.mk ((q6_ : w.heap.size ≤ gb119)); have GE119 := Aside0.mk ((q6_ : w.heap.size ≤ gb119)); replace HB := Aside0.mk (below_step q0_ hb); clear hb hbox hg; obtain ⟨hcz3_0, hcz3_1, hcz3_2, hcz3_3, hcz3_4, hcz3_5, hcz3_6, hcz3_7, hcz3_8, hcz3_9, hcz3_10, hcz3_11, hfz3_0, hfz3_1, hfz3_2, hfz3_3, hfz3_4, hfz3_5, hfz3_6, hfz3_7, hfz3_8, hfz3_9, hfz3_10, hfz3_11⟩ := cellsF12 BK119.out))
 refine bodyPost_ret (results_cell_row rfl _ _ gb119 51 #[.int .i64 0, .string a0, .bool false, .string (⟨#[]⟩ : ByteArray), .int .i64 0, .int .i64 0, .int .i64 0, .int .i64 0, .bool false, .bool false, .int .i64 0, .int .i64 0] (0, 0) _ rfl (by (with_reducible repeat (first | refine blk_drewN ?_ _ | refine blk_drew ?_ | refine blk_alloc ?_ _)); refine blk_put (cs := #[.int .i64 0, .string a0, .bool false, .string (⟨#[]⟩ : ByteArray), .int .i64 0, .int .i64 0, .int .i64 0, .int .i64 0, .bool false, .bool false, .int .i64 0, .int .i64 0]) ?_ 11 _ rfl; (with_reducible repeat (first | refine blk_drewN ?_ _ | refine blk_drew ?_ | refine blk_alloc ?_ _)); refine blk_put (cs := #[.int .i64 0, .string a0, .bool false, .string (⟨#[]⟩ : ByteArray), .int .i64 0, .int .i64 0, .int .i64 0, .int .i64 0, .bool false, .bool false, .int .i64 0, .int .i64 0]) ?_ 10 _ rfl; (with_reducible repeat (first | refine blk_drewN ?_ _ | refine blk_drew ?_ | refine blk_alloc ?_ _)); refine blk_put (cs := #[.int .i64 0, .string a0, .bool false, .string (⟨#[]⟩ : ByteArray), .int .i64 0, .int .i64 0, .int .i64 0, .int .i64 0, .bool false, .bool false, .int .i64 0, .int .i64 0]) ?_ 9 _ rfl; (with_reducible repeat (first | refine blk_drewN ?_ _ | refine blk_drew ?_ | refine blk_alloc ?_ _)); refine blk_put (cs := #[.int .i64 0, .string a0, .bool false, .string (⟨#[]⟩ : ByteArray), .int .i64 0, .int .i64 0, .int .i64 0, .int .i64 0, .bool false, .bool false, .int .i64 0, .int .i64 0]) ?_ 8 _ rfl; (with_reducible repeat (first | refine blk_drewN ?_ _ | refine blk_drew ?_ | refine blk_alloc ?_ _)); refine blk_put (cs := #[.int .i64 0, .string a0, .bool false, .string (⟨#[]⟩ : ByteArray), .int .i64 0, .int .i64 0, .int .i64 0, .int .i64 0, .bool false, .bool false, .int .i64 0, .int .i64 0]) ?_ 7 _ rfl; (with_reducible repeat (first | refine blk_drewN ?_ _ | refine blk_drew ?_ | refine blk_alloc ?_ _)); refine blk_put (cs := #[.int .i64 0, .string a0, .bool false, .string (⟨#[]⟩ : ByteArray), .int .i64 0, .int .i64 0, .int .i64 0, .int .i64 0, .bool false, .bool false, .int .i64 0, .int .i64 0]) ?_ 6 _ rfl; (with_reducible repeat (first | refine blk_drewN ?_ _ | refine blk_drew ?_ | refine blk_alloc ?_ _)); refine blk_put (cs := #[.int .i64 0, .string a0, .bool false, .string (⟨#[]⟩ : ByteArray), .int .i64 0, .int .i64 0, .int .i64 0, .int .i64 0, .bool false, .bool false, .int .i64 0, .int .i64 0]) ?_ 5 _ rfl; (with_reducible repeat (first | refine blk_drewN ?_ _ | refine blk_drew ?_ | refine blk_alloc ?_ _)); refine blk_put (cs := #[.int .i64 0, .string a0, .bool false, .string (⟨#[]⟩ : ByteArray), .int .i64 0, .int .i64 0, .int .i64 0, .int .i64 0, .bool false, .bool false, .int .i64 0, .int .i64 0]) ?_ 4 _ rfl; (with_reducible repeat (first | refine blk_drewN ?_ _ | refine blk_drew ?_ | refine blk_alloc ?_ _)); refine blk_put (cs := #[.int .i64 0, .string a0, .bool false, .string (⟨#[]⟩ : ByteArray), .int .i64 0, .int .i64 0, .int .i64 0, .int .i64 0, .bool false, .bool false, .int .i64 0, .int .i64 0]) ?_ 3 _ rfl; (with_reducible repeat (first | refine blk_drewN ?_ _ | refine blk_drew ?_ | refine blk_alloc ?_ _)); refine blk_put (cs := #[.int .i64 0, .string a0, .bool false, .string (⟨#[]⟩ : ByteArray), .int .i64 0, .int .i64 0, .int .i64 0, .int .i64 0, .bool false, .bool false, .int .i64 0, .int .i64 0]) ?_ 2 _ rfl; (with_reducible repeat (first | refine blk_drewN ?_ _ | refine blk_drew ?_ | refine blk_alloc ?_ _)); refine blk_put (cs := #[.int .i64 0, .string (⟨#[]⟩ : ByteArray), .bool false, .string (⟨#[]⟩ : ByteArray), .int .i64 0, .int .i64 0, .int .i64 0, .int .i64 0, .bool false, .bool false, .int .i64 0, .int .i64 0]) ?_ 1 _ rfl; (with_reducible repeat (first | refine blk_drewN ?_ _ | refine blk_drew ?_ | refine blk_alloc ?_ _)); refine blk_put (cs := #[.int .i64 0, .string (⟨#[]⟩ : ByteArray), .bool false, .string (⟨#[]⟩ : ByteArray), .int .i64 0, .int .i64 0, .int .i64 0, .int .i64 0, .bool false, .bool false, .int .i64 0, .int .i64 0]) ?_ 0 _ rfl; (with_reducible repeat (first | refine blk_drewN ?_ _ | refine blk_drew ?_ | refine blk_alloc ?_ _)); exact BK119.out) Tryz.underlying51 rfl (by kernel_rfl)) rfl ?_
 exact ⟨q5_, (by repeat (first | (with_reducible first | exact HB.out | apply below_alloc | apply pw_below_drewN | apply below_drew1 | refine below_set ?_ GE119.out) | exact HB.out))⟩
def dec_isDigits.f (a0 : ByteArray) : Option (Bool) := if a0.toList = ([] : List UInt8) then (some false) else ((strings_Trim.f a0 (⟨#[48, 49, 50, 51, 52, 53, 54, 55, 56, 57]⟩ : ByteArray)).bind fun t120 => (some (t120.toList == ([] : List UInt8))))
set_option maxHeartbeats 8000000 in
set_option maxRecDepth 100000 in
theorem dec_isDigits.calls (a0 : ByteArray) (r : Bool) (w : World) (h : dec_isDigits.f a0 = some r) :
  Calls Tryz.prog 40 #[.string a0] w fun e w' => e = .returned (.bool r) ∧ Below w.heap.size w w' := by
 have HB := Aside0.mk (Below.refl w.heap.size w)
 have H : (if a0.toList = ([] : List UInt8) then (some false) else ((strings_Trim.f a0 (⟨#[48, 49, 50, 51, 52, 53, 54, 55, 56, 57]⟩ : ByteArray)).bind fun t120 => (some (t120.toList == ([] : List UInt8))))) = some r := h
 clear h
 by_cases c2 : a0.toList = ([] : List UInt8)
 ·rw [if_pos c2] at H
  have c2b0 : (a0.toList == ([] : List UInt8)) = true := beq_iff_eq.mpr c2
  have c2b1 : (a0.toList != ([] : List UInt8)) = false := bne_eq_false_iff_eq.mpr c2
  clear c2
  obtain rfl := Option.some.inj H
  go_enter Tryz.func40, Tryz.ntmps40
  go_wp2
  go_ret
  exact ⟨q5_, q0_⟩
 ·rw [if_neg c2] at H
  have c2b0 : (a0.toList == ([] : List UInt8)) = false := beq_eq_false_iff_ne.mpr c2
  have c2b1 : (a0.toList != ([] : List UInt8)) = true := bne_iff_ne.mpr c2
  replace H := Option.bind_eq_some_iff.mp H
  obtain ⟨t120, A30, H⟩ := H
  replace H : (some (t120.toList == ([] : List UInt8))) = some r := H
  have A3 := Aside0.mk A30
  clear A30
  obtain rfl := Option.some.inj H
  go_enter Tryz.func40, Tryz.ntmps40
  go_wp2_with (first | (go_at_call 52; (with_reducible refine (strings_Trim.calls a0 (⟨#[48, 49, 50, 51, 52, 53, 54, 55, 56, 57]⟩ : ByteArray) t120 _ A3.out).mono ?_); rintro e w4 ⟨rfl, hb⟩; replace HB := Aside0.mk (below_step q0_ hb); (try clear hb); (try clear hb2); (try clear hk); (try clear hi)))
  go_ret
  exact ⟨q5_, q0_⟩
def dec_make0.f (a0 : Bool) (a1 : ByteArray) (a2 : Int) : Option (Bool × ByteArray × Int) := (strings_TrimLeft.f a1 (⟨#[48]⟩ : ByteArray)).bind fun t122 => (if (wrap64 ((wrap64 (a2 + 1)) - (t122.size : Int))) > 0 then ((strings_Repeat.f (⟨#[48]⟩ : ByteArray) (wrap64 ((wrap64 (a2 + 1)) - (t122.size : Int)))).bind fun t123 => (if t123.size + t122.size ≤ 9223372036854775807 then (some (a0, t123 ++ t122, a2)) else (none))) else (some (a0, t122, a2)))
set_option maxHeartbeats 8000000 in
set_option maxRecDepth 100000 in
theorem dec_make0.calls (a0 : Bool) (a1 : ByteArray) (a2 : Int) (r1 : Bool) (r2 : ByteArray) (r3 : Int) (w : World) (h : dec_make0.f a0 a1 a2 = some (r1, r2, r3)) :
  Calls Tryz.prog 41 #[.bool a0, .string a1, .int .i64 a2] w fun e w' => e = .returned (.agg #[.bool r1, .string r2, .int .i64 r3]) ∧ Below w.heap.size w w' := by
 have hu46 := Tryz.underlying46
 have HB := Aside0.mk (Below.refl w.heap.size w)
 have H : ((strings_TrimLeft.f a1 (⟨#[48]⟩ : ByteArray)).bind fun t122 => (if (wrap64 ((wrap64 (a2 + 1)) - (t122.size : Int))) > 0 then ((strings_Repeat.f (⟨#[48]⟩ : ByteArray) (wrap64 ((wrap64 (a2 + 1)) - (t122.size : Int)))).bind fun t123 => (if t123.size + t122.size ≤ 9223372036854775807 then (some (a0, t123 ++ t122, a2)) else (none))) else (some (a0, t122, a2)))) = some (r1, r2, r3) := h
 clear h
 replace H := Option.bind_eq_some_iff.mp H
 obtain ⟨t122, A40, H⟩ := H
 replace H : (if (wrap64 ((wrap64 (a2 + 1)) - (t122.size : Int))) > 0 then ((strings_Repeat.f (⟨#[48]⟩ : ByteArray) (wrap64 ((wrap64 (a2 + 1)) - (t122.size : Int)))).bind fun t123 => (if t123.size + t122.size ≤ 9223372036854775807 then (some (a0, t123 ++ t122, a2)) else (none))) else (some (a0, t122, a2))) = some (r1, r2, r3) := H
 have A4 := Aside0.mk A40
 clear A40
 by_cases c5 : (wrap64 ((wrap64 (a2 + 1)) - (t122.size : Int))) > 0
 ·rw [if_pos c5] at H
  have c5b0 : decide (0 < (wrap64 ((wrap64 (a2 + 1)) - (t122.size : Int)))) = true := decide_eq_true c5
  clear c5
  replace H := Option.bind_eq_some_iff.mp H
  obtain ⟨t123, A60, H⟩ := H
  replace H : (if t123.size + t122.size ≤ 9223372036854775807 then (some (a0, t123 ++ t122, a2)) else (none)) = some (r1, r2, r3) := H
  have A6 := Aside0.mk A60
  clear A60
  by_cases c7 : t123.size + t122.size ≤ 9223372036854775807
  ·rw [if_pos c7] at H
   try simp only [show wrap64 ((t123.size : Int) + (t122.size : Int)) = (t123.size : Int) + (t122.size : Int) from by unfold wrap64; omega] at *
   have c7b0 := eq_true c7
   have c7b1 : decide (t123.size + t122.size ≤ 9223372036854775807) = true := decide_eq_true c7
   try have c7b2 : (9223372036854775807 < t123.size + t122.size) = False := eq_false (Nat.not_lt.2 c7)
   simp only [Option.some.injEq, Prod.mk.injEq] at H
   obtain ⟨rfl, rfl, rfl⟩ := H
   go_enter Tryz.func41, Tryz.ntmps41
   go_wp2_with (first | ((with_reducible refine gate_dst (N := 6) rfl ?_); refine box_event ?hg (N := 6) ?hd (cs := #[.bool false, .string (⟨#[]⟩ : ByteArray), .int .i64 0]) (t := 46) ?hr ?_; (case hd => rfl); (case hg => rfl); (case hr => exact u0_); intro gb121 hg w8 hbox hb; have BK121 := Aside0.mk (hbox); have GW121 := Aside0.mk ((q6_ : w.heap.size ≤ gb121)); have GE121 := Aside0.mk ((q6_ : w.heap.size ≤ gb121)); replace HB := Aside0.mk (below_step q0_ hb); clear hb hbox hg) | ((with_reducible refine gate_callee (f := 53) rfl ?_); refine goesL_ (some 9) rfl rfl Tryz.func53 (by kernel_rfl) rfl #[.string a1, .string (⟨#[48]⟩ : ByteArray)] rfl q2_ ?_; (with_reducible refine (strings_TrimLeft.calls a1 (⟨#[48]⟩ : ByteArray) t122 _ A4.out).mono ?_); rintro e w9 ⟨rfl, hb⟩; refine ⟨_, rfl, ?_⟩; replace BK121 := Aside0.mk (blk_below (g := gb121) (o := .cells #[.bool false, .string (⟨#[]⟩ : ByteArray), .int .i64 0] 46 (0, 0)) q10_ hb); replace HB := Aside0.mk (below_step q7_ hb); (try clear hb); (try clear hb2); (try clear hk); (try clear hi)) | ((with_reducible refine gate_callee (f := 54) rfl ?_); refine goesL_ (some 18) rfl rfl Tryz.func54 (by kernel_rfl) rfl #[.string (⟨#[48]⟩ : ByteArray), .int .i64 (wrap64 ((wrap64 (a2 + 1)) - (t122.size : Int)))] rfl q2_ ?_; (with_reducible refine (strings_Repeat.calls (⟨#[48]⟩ : ByteArray) (wrap64 ((wrap64 (a2 + 1)) - (t122.size : Int))) t123 _ A6.out).mono ?_); rintro e w10 ⟨rfl, hb⟩; refine ⟨_, rfl, ?_⟩; replace BK121 := Aside0.mk (blk_below (g := gb121) (o := .cells #[.bool false, .string (⟨#[]⟩ : ByteArray), .int .i64 0] 46 (0, 0)) q10_ hb); replace HB := Aside0.mk (below_step q7_ hb); (try clear hb); (try clear hb2); (try clear hk); (try clear hi); obtain ⟨hcz11_0, hcz11_1, hcz11_2, hfz11_0, hfz11_1, hfz11_2⟩ := cellsF3 BK121.out))
   refine bodyPost_ret (results_cell_row rfl _ _ gb121 46 #[.bool a0, .string (t123 ++ t122), .int .i64 a2] (0, 0) _ rfl (by (with_reducible repeat (first | refine blk_drewN ?_ _ | refine blk_drew ?_ | refine blk_alloc ?_ _)); refine blk_put (cs := #[.bool a0, .string (t123 ++ t122), .int .i64 0]) ?_ 2 _ rfl; (with_reducible repeat (first | refine blk_drewN ?_ _ | refine blk_drew ?_ | refine blk_alloc ?_ _)); refine blk_put (cs := #[.bool a0, .string (⟨#[]⟩ : ByteArray), .int .i64 0]) ?_ 1 _ rfl; (with_reducible repeat (first | refine blk_drewN ?_ _ | refine blk_drew ?_ | refine blk_alloc ?_ _)); refine blk_put (cs := #[.bool false, .string (⟨#[]⟩ : ByteArray), .int .i64 0]) ?_ 0 _ rfl; (with_reducible repeat (first | refine blk_drewN ?_ _ | refine blk_drew ?_ | refine blk_alloc ?_ _)); exact BK121.out) Tryz.underlying46 rfl (by kernel_rfl)) rfl ?_
   exact ⟨q5_, q7_⟩
  ·rw [if_neg c7] at H
   exact absurd H (by simp)
 ·rw [if_neg c5] at H
  have c5b0 : decide (0 < (wrap64 ((wrap64 (a2 + 1)) - (t122.size : Int)))) = false := decide_eq_false c5
  clear c5
  simp only [Option.some.injEq, Prod.mk.injEq] at H
  obtain ⟨rfl, rfl, rfl⟩ := H
  go_enter Tryz.func41, Tryz.ntmps41
  go_wp2_with (first | ((with_reducible refine gate_dst (N := 6) rfl ?_); refine box_event ?hg (N := 6) ?hd (cs := #[.bool false, .string (⟨#[]⟩ : ByteArray), .int .i64 0]) (t := 46) ?hr ?_; (case hd => rfl); (case hg => rfl); (case hr => exact u0_); intro gb121 hg w12 hbox hb; have BK121 := Aside0.mk (hbox); have GW121 := Aside0.mk ((q6_ : w.heap.size ≤ gb121)); have GE121 := Aside0.mk ((q6_ : w.heap.size ≤ gb121)); replace HB := Aside0.mk (below_step q0_ hb); clear hb hbox hg) | ((with_reducible refine gate_callee (f := 53) rfl ?_); refine goesL_ (some 9) rfl rfl Tryz.func53 (by kernel_rfl) rfl #[.string a1, .string (⟨#[48]⟩ : ByteArray)] rfl q2_ ?_; (with_reducible refine (strings_TrimLeft.calls a1 (⟨#[48]⟩ : ByteArray) t122 _ A4.out).mono ?_); rintro e w13 ⟨rfl, hb⟩; refine ⟨_, rfl, ?_⟩; replace BK121 := Aside0.mk (blk_below (g := gb121) (o := .cells #[.bool false, .string (⟨#[]⟩ : ByteArray), .int .i64 0] 46 (0, 0)) q10_ hb); replace HB := Aside0.mk (below_step q7_ hb); (try clear hb); (try clear hb2); (try clear hk); (try clear hi); obtain ⟨hcz14_0, hcz14_1, hcz14_2, hfz14_0, hfz14_1, hfz14_2⟩ := cellsF3 BK121.out))
  refine bodyPost_ret (results_cell_row rfl _ _ gb121 46 #[.bool a0, .string t122, .int .i64 a2] (0, 0) _ rfl (by (with_reducible repeat (first | refine blk_drewN ?_ _ | refine blk_drew ?_ | refine blk_alloc ?_ _)); refine blk_put (cs := #[.bool a0, .string t122, .int .i64 0]) ?_ 2 _ rfl; (with_reducible repeat (first | refine blk_drewN ?_ _ | refine blk_drew ?_ | refine blk_alloc ?_ _)); refine blk_put (cs := #[.bool a0, .string (⟨#[]⟩ : ByteArray), .int .i64 0]) ?_ 1 _ rfl; (with_reducible repeat (first | refine blk_drewN ?_ _ | refine blk_drew ?_ | refine blk_alloc ?_ _)); refine blk_put (cs := #[.bool false, .string (⟨#[]⟩ : ByteArray), .int .i64 0]) ?_ 0 _ rfl; (with_reducible repeat (first | refine blk_drewN ?_ _ | refine blk_drew ?_ | refine blk_alloc ?_ _)); exact BK121.out) Tryz.underlying46 rfl (by kernel_rfl)) rfl ?_
  exact ⟨q5_, q7_⟩
def dec_Parse.f (a0 : ByteArray) : Option (Bool × ByteArray × Int × Bool) := (strings_CutPrefix.f a0 (⟨#[45]⟩ : ByteArray)).bind fun bt125 => ((strings_Cut.f bt125.1 (⟨#[46]⟩ : ByteArray)).bind fun bt127 => ((dec_isDigits.f bt127.1).bind fun t130 => (if t130 = true then (if bt127.2.2 = true then ((dec_isDigits.f bt127.2.1).bind fun t131 => (if t131 = true then (if (wrap64 ((bt127.1.size : Int) + (bt127.2.1.size : Int))) > 40 then (some (false, (⟨#[]⟩ : ByteArray), 0, false)) else (if bt127.1.size + bt127.2.1.size ≤ 9223372036854775807 then ((dec_make0.f bt125.2 (bt127.1 ++ bt127.2.1) (bt127.2.1.size : Int)).bind fun bt132 => (some (bt132.1, bt132.2.1, bt132.2.2, true))) else (none))) else (some (false, (⟨#[]⟩ : ByteArray), 0, false)))) else (if (wrap64 ((bt127.1.size : Int) + (bt127.2.1.size : Int))) > 40 then (some (false, (⟨#[]⟩ : ByteArray), 0, false)) else (if bt127.1.size + bt127.2.1.size ≤ 9223372036854775807 then ((dec_make0.f bt125.2 (bt127.1 ++ bt127.2.1) (bt127.2.1.size : Int)).bind fun bt135 => (some (bt135.1, bt135.2.1, bt135.2.2, true))) else (none)))) else (some (false, (⟨#[]⟩ : ByteArray), 0, false)))))
set_option maxHeartbeats 8000000 in
set_option maxRecDepth 100000 in
theorem dec_Parse.calls (a0 : ByteArray) (r1 : Bool) (r2 : ByteArray) (r3 : Int) (r4 : Bool) (w : World) (h : dec_Parse.f a0 = some (r1, r2, r3, r4)) (HT0_ : Tab_ w := by exact Tab_.step HT0_ (by repeat (first | (with_reducible first | exact HB.out | apply below_alloc | apply pw_below_drewN | apply below_drew1 | refine below_set ?_ (Aside0.out (by assumption))) | exact HB.out))) :
  Calls Tryz.prog 27 #[.string a0] w fun e w' => e = .returned (.tuple #[.agg #[.bool r1, .string r2, .int .i64 r3], .bool r4]) ∧ Below w.heap.size w w' := by
 have hu46 := Tryz.underlying46
 have HB := Aside0.mk (Below.refl w.heap.size w)
 have H : ((strings_CutPrefix.f a0 (⟨#[45]⟩ : ByteArray)).bind fun bt125 => ((strings_Cut.f bt125.1 (⟨#[46]⟩ : ByteArray)).bind fun bt127 => ((dec_isDigits.f bt127.1).bind fun t130 => (if t130 = true then (if bt127.2.2 = true then ((dec_isDigits.f bt127.2.1).bind fun t131 => (if t131 = true then (if (wrap64 ((bt127.1.size : Int) + (bt127.2.1.size : Int))) > 40 then (some (false, (⟨#[]⟩ : ByteArray), 0, false)) else (if bt127.1.size + bt127.2.1.size ≤ 9223372036854775807 then ((dec_make0.f bt125.2 (bt127.1 ++ bt127.2.1) (bt127.2.1.size : Int)).bind fun bt132 => (some (bt132.1, bt132.2.1, bt132.2.2, true))) else (none))) else (some (false, (⟨#[]⟩ : ByteArray), 0, false)))) else (if (wrap64 ((bt127.1.size : Int) + (bt127.2.1.size : Int))) > 40 then (some (false, (⟨#[]⟩ : ByteArray), 0, false)) else (if bt127.1.size + bt127.2.1.size ≤ 9223372036854775807 then ((dec_make0.f bt125.2 (bt127.1 ++ bt127.2.1) (bt127.2.1.size : Int)).bind fun bt135 => (some (bt135.1, bt135.2.1, bt135.2.2, true))) else (none)))) else (some (false, (⟨#[]⟩ : ByteArray), 0, false)))))) = some (r1, r2, r3, r4) := h
 clear h
 replace H := Option.bind_eq_some_iff.mp H
 obtain ⟨⟨t125, t126⟩, A20, H⟩ := H
 replace H : ((strings_Cut.f t125 (⟨#[46]⟩ : ByteArray)).bind fun bt127 => ((dec_isDigits.f bt127.1).bind fun t130 => (if t130 = true then (if bt127.2.2 = true then ((dec_isDigits.f bt127.2.1).bind fun t131 => (if t131 = true then (if (wrap64 ((bt127.1.size : Int) + (bt127.2.1.size : Int))) > 40 then (some (false, (⟨#[]⟩ : ByteArray), 0, false)) else (if bt127.1.size + bt127.2.1.size ≤ 9223372036854775807 then ((dec_make0.f t126 (bt127.1 ++ bt127.2.1) (bt127.2.1.size : Int)).bind fun bt132 => (some (bt132.1, bt132.2.1, bt132.2.2, true))) else (none))) else (some (false, (⟨#[]⟩ : ByteArray), 0, false)))) else (if (wrap64 ((bt127.1.size : Int) + (bt127.2.1.size : Int))) > 40 then (some (false, (⟨#[]⟩ : ByteArray), 0, false)) else (if bt127.1.size + bt127.2.1.size ≤ 9223372036854775807 then ((dec_make0.f t126 (bt127.1 ++ bt127.2.1) (bt127.2.1.size : Int)).bind fun bt135 => (some (bt135.1, bt135.2.1, bt135.2.2, true))) else (none)))) else (some (false, (⟨#[]⟩ : ByteArray), 0, false))))) = some (r1, r2, r3, r4) := H
 have A2 := Aside0.mk A20
 clear A20
 replace H := Option.bind_eq_some_iff.mp H
 obtain ⟨⟨t127, t128, t129⟩, A30, H⟩ := H
 replace H : ((dec_isDigits.f t127).bind fun t130 => (if t130 = true then (if t129 = true then ((dec_isDigits.f t128).bind fun t131 => (if t131 = true then (if (wrap64 ((t127.size : Int) + (t128.size : Int))) > 40 then (some (false, (⟨#[]⟩ : ByteArray), 0, false)) else (if t127.size + t128.size ≤ 9223372036854775807 then ((dec_make0.f t126 (t127 ++ t128) (t128.size : Int)).bind fun bt132 => (some (bt132.1, bt132.2.1, bt132.2.2, true))) else (none))) else (some (false, (⟨#[]⟩ : ByteArray), 0, false)))) else (if (wrap64 ((t127.size : Int) + (t128.size : Int))) > 40 then (some (false, (⟨#[]⟩ : ByteArray), 0, false)) else (if t127.size + t128.size ≤ 9223372036854775807 then ((dec_make0.f t126 (t127 ++ t128) (t128.size : Int)).bind fun bt135 => (some (bt135.1, bt135.2.1, bt135.2.2, true))) else (none)))) else (some (false, (⟨#[]⟩ : ByteArray), 0, false)))) = some (r1, r2, r3, r4) := H
 have A3 := Aside0.mk A30
 clear A30
 replace H := Option.bind_eq_some_iff.mp H
 obtain ⟨t130, A40, H⟩ := H
 replace H : (if t130 = true then (if t129 = true then ((dec_isDigits.f t128).bind fun t131 => (if t131 = true then (if (wrap64 ((t127.size : Int) + (t128.size : Int))) > 40 then (some (false, (⟨#[]⟩ : ByteArray), 0, false)) else (if t127.size + t128.size ≤ 9223372036854775807 then ((dec_make0.f t126 (t127 ++ t128) (t128.size : Int)).bind fun bt132 => (some (bt132.1, bt132.2.1, bt132.2.2, true))) else (none))) else (some (false, (⟨#[]⟩ : ByteArray), 0, false)))) else (if (wrap64 ((t127.size : Int) + (t128.size : Int))) > 40 then (some (false, (⟨#[]⟩ : ByteArray), 0, false)) else (if t127.size + t128.size ≤ 9223372036854775807 then ((dec_make0.f t126 (t127 ++ t128) (t128.size : Int)).bind fun bt135 => (some (bt135.1, bt135.2.1, bt135.2.2, true))) else (none)))) else (some (false, (⟨#[]⟩ : ByteArray), 0, false))) = some (r1, r2, r3, r4) := H
 have A4 := Aside0.mk A40
 clear A40
 by_cases c5 : t130 = true
 ·subst c5
  have H1 : (if t129 = true then ((dec_isDigits.f t128).bind fun t131 => (if t131 = true then (if (wrap64 ((t127.size : Int) + (t128.size : Int))) > 40 then (some (false, (⟨#[]⟩ : ByteArray), 0, false)) else (if t127.size + t128.size ≤ 9223372036854775807 then ((dec_make0.f t126 (t127 ++ t128) (t128.size : Int)).bind fun bt132 => (some (bt132.1, bt132.2.1, bt132.2.2, true))) else (none))) else (some (false, (⟨#[]⟩ : ByteArray), 0, false)))) else (if (wrap64 ((t127.size : Int) + (t128.size : Int))) > 40 then (some (false, (⟨#[]⟩ : ByteArray), 0, false)) else (if t127.size + t128.size ≤ 9223372036854775807 then ((dec_make0.f t126 (t127 ++ t128) (t128.size : Int)).bind fun bt135 => (some (bt135.1, bt135.2.1, bt135.2.2, true))) else (none)))) = some (r1, r2, r3, r4) := by rw [if_pos rfl] at H; exact H
  clear H
  have H := H1
  clear H1
  by_cases c6 : t129 = true
  ·subst c6
   have H1 : ((dec_isDigits.f t128).bind fun t131 => (if t131 = true then (if (wrap64 ((t127.size : Int) + (t128.size : Int))) > 40 then (some (false, (⟨#[]⟩ : ByteArray), 0, false)) else (if t127.size + t128.size ≤ 9223372036854775807 then ((dec_make0.f t126 (t127 ++ t128) (t128.size : Int)).bind fun bt132 => (some (bt132.1, bt132.2.1, bt132.2.2, true))) else (none))) else (some (false, (⟨#[]⟩ : ByteArray), 0, false)))) = some (r1, r2, r3, r4) := by rw [if_pos rfl] at H; exact H
   clear H
   have H := H1
   clear H1
   replace H := Option.bind_eq_some_iff.mp H
   obtain ⟨t131, A70, H⟩ := H
   replace H : (if t131 = true then (if (wrap64 ((t127.size : Int) + (t128.size : Int))) > 40 then (some (false, (⟨#[]⟩ : ByteArray), 0, false)) else (if t127.size + t128.size ≤ 9223372036854775807 then ((dec_make0.f t126 (t127 ++ t128) (t128.size : Int)).bind fun bt132 => (some (bt132.1, bt132.2.1, bt132.2.2, true))) else (none))) else (some (false, (⟨#[]⟩ : ByteArray), 0, false))) = some (r1, r2, r3, r4) := H
   have A7 := Aside0.mk A70
   clear A70
   by_cases c8 : t131 = true
   ·subst c8
    have H1 : (if (wrap64 ((t127.size : Int) + (t128.size : Int))) > 40 then (some (false, (⟨#[]⟩ : ByteArray), 0, false)) else (if t127.size + t128.size ≤ 9223372036854775807 then ((dec_make0.f t126 (t127 ++ t128) (t128.size : Int)).bind fun bt132 => (some (bt132.1, bt132.2.1, bt132.2.2, true))) else (none))) = some (r1, r2, r3, r4) := by rw [if_pos rfl] at H; exact H
    clear H
    have H := H1
    clear H1
    by_cases c9 : (wrap64 ((t127.size : Int) + (t128.size : Int))) > 40
    ·rw [if_pos c9] at H
     have c9b0 : decide (40 < (wrap64 ((t127.size : Int) + (t128.size : Int)))) = true := decide_eq_true c9
     clear c9
     simp only [Option.some.injEq, Prod.mk.injEq] at H
     obtain ⟨rfl, rfl, rfl, rfl⟩ := H
     go_enter Tryz.func27, Tryz.ntmps27
     go_wp2_with (first | ((with_reducible refine gate_dst (N := 2) rfl ?_); (try (refine gate_guard (by rfl) ?_; dsimp only)); refine box_event ?hg (N := 2) ?hd (cs := #[.bool false, .string (⟨#[]⟩ : ByteArray), .int .i64 0]) (t := 46) ?hr ?_; (case hd => rfl); (case hg => rfl); (case hr => exact u0_); intro gb124 hg w10 hbox hb; have BK124 := Aside0.mk (hbox); have GW124 := Aside0.mk ((q6_ : w.heap.size ≤ gb124)); have GE124 := Aside0.mk ((q6_ : w.heap.size ≤ gb124)); replace HB := Aside0.mk (below_step q0_ hb); clear hb hbox hg) | ((with_reducible refine gate_callee (f := 38) rfl ?_); refine goesL_ (some 11) rfl rfl Tryz.func38 (by kernel_rfl) rfl #[.string a0, .string (⟨#[45]⟩ : ByteArray)] rfl q2_ ?_; (with_reducible refine (strings_CutPrefix.calls a0 (⟨#[45]⟩ : ByteArray) t125 t126 _ A2.out).mono ?_); rintro e w11 ⟨rfl, hb⟩; refine ⟨_, rfl, ?_⟩; replace BK124 := Aside0.mk (blk_below (g := gb124) (o := .cells #[.bool false, .string (⟨#[]⟩ : ByteArray), .int .i64 0] 46 (0, 0)) q3_ hb); replace HB := Aside0.mk (below_step q1_ hb); (try clear hb); (try clear hb2); (try clear hk); (try clear hi)) | ((with_reducible refine gate_callee (f := 39) rfl ?_); refine goesL_ (some 16) rfl rfl Tryz.func39 (by kernel_rfl) rfl #[.string t125, .string (⟨#[46]⟩ : ByteArray)] rfl q2_ ?_; (with_reducible refine (strings_Cut.calls t125 (⟨#[46]⟩ : ByteArray) t127 t128 true _ A3.out).mono ?_); rintro e w12 ⟨rfl, hb⟩; refine ⟨_, rfl, ?_⟩; replace BK124 := Aside0.mk (blk_below (g := gb124) (o := .cells #[.bool false, .string (⟨#[]⟩ : ByteArray), .int .i64 0] 46 (0, 0)) q3_ hb); replace HB := Aside0.mk (below_step q1_ hb); (try clear hb); (try clear hb2); (try clear hk); (try clear hi)) | ((with_reducible refine gate_callee (f := 40) rfl ?_); refine goesL_ (some 21) rfl rfl Tryz.func40 (by kernel_rfl) rfl #[.string t127] rfl q2_ ?_; (with_reducible refine (dec_isDigits.calls t127 true _ A4.out).mono ?_); rintro e w13 ⟨rfl, hb⟩; refine ⟨_, rfl, ?_⟩; replace BK124 := Aside0.mk (blk_below (g := gb124) (o := .cells #[.bool false, .string (⟨#[]⟩ : ByteArray), .int .i64 0] 46 (0, 0)) q3_ hb); replace HB := Aside0.mk (below_step q1_ hb); (try clear hb); (try clear hb2); (try clear hk); (try clear hi)) | (go_at_call 40; (with_reducible refine (dec_isDigits.calls t128 true _ A7.out).mono ?_); rintro e w14 ⟨rfl, hb⟩; replace BK124 := Aside0.mk (blk_below (g := gb124) (o := .cells #[.bool false, .string (⟨#[]⟩ : ByteArray), .int .i64 0] 46 (0, 0)) q3_ hb); replace HB := Aside0.mk (below_step q1_ hb); (try clear hb); (try clear hb2); (try clear hk); (try clear hi); obtain ⟨hcz15_0, hcz15_1, hcz15_2, hfz15_0, hfz15_1, hfz15_2⟩ := cellsF3 BK124.out))
     refine bodyPost_ret (results_ct rfl _ _ gb124 46 #[.bool false, .string (⟨#[]⟩ : ByteArray), .int .i64 0] (0, 0) _ rfl q4_ Tryz.underlying46 rfl (by kernel_rfl)) rfl ?_
     exact ⟨q5_, q1_⟩
    ·rw [if_neg c9] at H
     have c9b0 : decide (40 < (wrap64 ((t127.size : Int) + (t128.size : Int)))) = false := decide_eq_false c9
     clear c9
     by_cases c16 : t127.size + t128.size ≤ 9223372036854775807
     ·rw [if_pos c16] at H
      try simp only [show wrap64 ((t127.size : Int) + (t128.size : Int)) = (t127.size : Int) + (t128.size : Int) from by unfold wrap64; omega] at *
      have c16b0 := eq_true c16
      have c16b1 : decide (t127.size + t128.size ≤ 9223372036854775807) = true := decide_eq_true c16
      try have c16b2 : (9223372036854775807 < t127.size + t128.size) = False := eq_false (Nat.not_lt.2 c16)
      replace H := Option.bind_eq_some_iff.mp H
      obtain ⟨⟨t132, t133, t134⟩, A170, H⟩ := H
      replace H : (some (t132, t133, t134, true)) = some (r1, r2, r3, r4) := H
      have A17 := Aside0.mk A170
      clear A170
      simp only [Option.some.injEq, Prod.mk.injEq] at H
      obtain ⟨rfl, rfl, rfl, rfl⟩ := H
      go_enter Tryz.func27, Tryz.ntmps27
      go_wp2_with (first | ((with_reducible refine gate_dst (N := 2) rfl ?_); (try (refine gate_guard (by rfl) ?_; dsimp only)); refine box_event ?hg (N := 2) ?hd (cs := #[.bool false, .string (⟨#[]⟩ : ByteArray), .int .i64 0]) (t := 46) ?hr ?_; (case hd => rfl); (case hg => rfl); (case hr => exact u0_); intro gb124 hg w18 hbox hb; have BK124 := Aside0.mk (hbox); have GW124 := Aside0.mk ((q6_ : w.heap.size ≤ gb124)); have GE124 := Aside0.mk ((q6_ : w.heap.size ≤ gb124)); replace HB := Aside0.mk (below_step q0_ hb); clear hb hbox hg) | ((with_reducible refine gate_callee (f := 38) rfl ?_); refine goesL_ (some 11) rfl rfl Tryz.func38 (by kernel_rfl) rfl #[.string a0, .string (⟨#[45]⟩ : ByteArray)] rfl q2_ ?_; (with_reducible refine (strings_CutPrefix.calls a0 (⟨#[45]⟩ : ByteArray) t125 t126 _ A2.out).mono ?_); rintro e w19 ⟨rfl, hb⟩; refine ⟨_, rfl, ?_⟩; replace BK124 := Aside0.mk (blk_below (g := gb124) (o := .cells #[.bool false, .string (⟨#[]⟩ : ByteArray), .int .i64 0] 46 (0, 0)) q3_ hb); replace HB := Aside0.mk (below_step q1_ hb); (try clear hb); (try clear hb2); (try clear hk); (try clear hi)) | ((with_reducible refine gate_callee (f := 39) rfl ?_); refine goesL_ (some 16) rfl rfl Tryz.func39 (by kernel_rfl) rfl #[.string t125, .string (⟨#[46]⟩ : ByteArray)] rfl q2_ ?_; (with_reducible refine (strings_Cut.calls t125 (⟨#[46]⟩ : ByteArray) t127 t128 true _ A3.out).mono ?_); rintro e w20 ⟨rfl, hb⟩; refine ⟨_, rfl, ?_⟩; replace BK124 := Aside0.mk (blk_below (g := gb124) (o := .cells #[.bool false, .string (⟨#[]⟩ : ByteArray), .int .i64 0] 46 (0, 0)) q3_ hb); replace HB := Aside0.mk (below_step q1_ hb); (try clear hb); (try clear hb2); (try clear hk); (try clear hi)) | ((with_reducible refine gate_callee (f := 40) rfl ?_); refine goesL_ (some 21) rfl rfl Tryz.func40 (by kernel_rfl) rfl #[.string t127] rfl q2_ ?_; (with_reducible refine (dec_isDigits.calls t127 true _ A4.out).mono ?_); rintro e w21 ⟨rfl, hb⟩; refine ⟨_, rfl, ?_⟩; replace BK124 := Aside0.mk (blk_below (g := gb124) (o := .cells #[.bool false, .string (⟨#[]⟩ : ByteArray), .int .i64 0] 46 (0, 0)) q3_ hb); replace HB := Aside0.mk (below_step q1_ hb); (try clear hb); (try clear hb2); (try clear hk); (try clear hi)) | (go_at_call 40; (with_reducible refine (dec_isDigits.calls t128 true _ A7.out).mono ?_); rintro e w22 ⟨rfl, hb⟩; replace BK124 := Aside0.mk (blk_below (g := gb124) (o := .cells #[.bool false, .string (⟨#[]⟩ : ByteArray), .int .i64 0] 46 (0, 0)) q3_ hb); replace HB := Aside0.mk (below_step q1_ hb); (try clear hb); (try clear hb2); (try clear hk); (try clear hi)) | ((with_reducible refine gate_callee (f := 41) rfl ?_); refine goesL_ (some 46) rfl rfl Tryz.func41 (by kernel_rfl) rfl #[.bool t126, .string (t127 ++ t128), .int .i64 (t128.size : Int)] rfl q2_ ?_; (with_reducible refine (dec_make0.calls t126 (t127 ++ t128) (t128.size : Int) t132 t133 t134 _ A17.out).mono ?_); rintro e w23 ⟨rfl, hb⟩; refine ⟨_, rfl, ?_⟩; replace BK124 := Aside0.mk (blk_below (g := gb124) (o := .cells #[.bool false, .string (⟨#[]⟩ : ByteArray), .int .i64 0] 46 (0, 0)) q3_ hb); replace HB := Aside0.mk (below_step q1_ hb); (try clear hb); (try clear hb2); (try clear hk); (try clear hi); obtain ⟨hcz24_0, hcz24_1, hcz24_2, hfz24_0, hfz24_1, hfz24_2⟩ := cellsF3 BK124.out))
      refine bodyPost_ret (results_ct rfl _ _ gb124 46 #[.bool t132, .string t133, .int .i64 t134] (0, 0) _ rfl (by (with_reducible repeat (first | refine blk_drewN ?_ _ | refine blk_drew ?_ | refine blk_alloc ?_ _)); refine blk_put (cs := #[.bool t132, .string t133, .int .i64 0]) ?_ 2 _ rfl; (with_reducible repeat (first | refine blk_drewN ?_ _ | refine blk_drew ?_ | refine blk_alloc ?_ _)); refine blk_put (cs := #[.bool t132, .string (⟨#[]⟩ : ByteArray), .int .i64 0]) ?_ 1 _ rfl; (with_reducible repeat (first | refine blk_drewN ?_ _ | refine blk_drew ?_ | refine blk_alloc ?_ _)); refine blk_put (cs := #[.bool false, .string (⟨#[]⟩ : ByteArray), .int .i64 0]) ?_ 0 _ rfl; (with_reducible repeat (first | refine blk_drewN ?_ _ | refine blk_drew ?_ | refine blk_alloc ?_ _)); exact BK124.out) Tryz.underlying46 rfl (by kernel_rfl)) rfl ?_
      exact ⟨q5_, q1_⟩
     ·rw [if_neg c16] at H
      exact absurd H (by simp)
   ·replace c8 := Bool.eq_false_iff.mpr c8
    subst c8
    have H1 : (some (false, (⟨#[]⟩ : ByteArray), 0, false)) = some (r1, r2, r3, r4) := by rw [if_neg (show ¬ (false = true) by decide)] at H; exact H
    clear H
    have H := H1
    clear H1
    simp only [Option.some.injEq, Prod.mk.injEq] at H
    obtain ⟨rfl, rfl, rfl, rfl⟩ := H
    go_enter Tryz.func27, Tryz.ntmps27
    go_wp2_with (first | ((with_reducible refine gate_dst (N := 2) rfl ?_); (try (refine gate_guard (by rfl) ?_; dsimp only)); refine box_event ?hg (N := 2) ?hd (cs := #[.bool false, .string (⟨#[]⟩ : ByteArray), .int .i64 0]) (t := 46) ?hr ?_; (case hd => rfl); (case hg => rfl); (case hr => exact u0_); intro gb124 hg w25 hbox hb; have BK124 := Aside0.mk (hbox); have GW124 := Aside0.mk ((q6_ : w.heap.size ≤ gb124)); have GE124 := Aside0.mk ((q6_ : w.heap.size ≤ gb124)); replace HB := Aside0.mk (below_step q0_ hb); clear hb hbox hg) | ((with_reducible refine gate_callee (f := 38) rfl ?_); refine goesL_ (some 11) rfl rfl Tryz.func38 (by kernel_rfl) rfl #[.string a0, .string (⟨#[45]⟩ : ByteArray)] rfl q2_ ?_; (with_reducible refine (strings_CutPrefix.calls a0 (⟨#[45]⟩ : ByteArray) t125 t126 _ A2.out).mono ?_); rintro e w26 ⟨rfl, hb⟩; refine ⟨_, rfl, ?_⟩; replace BK124 := Aside0.mk (blk_below (g := gb124) (o := .cells #[.bool false, .string (⟨#[]⟩ : ByteArray), .int .i64 0] 46 (0, 0)) q3_ hb); replace HB := Aside0.mk (below_step q1_ hb); (try clear hb); (try clear hb2); (try clear hk); (try clear hi)) | ((with_reducible refine gate_callee (f := 39) rfl ?_); refine goesL_ (some 16) rfl rfl Tryz.func39 (by kernel_rfl) rfl #[.string t125, .string (⟨#[46]⟩ : ByteArray)] rfl q2_ ?_; (with_reducible refine (strings_Cut.calls t125 (⟨#[46]⟩ : ByteArray) t127 t128 true _ A3.out).mono ?_); rintro e w27 ⟨rfl, hb⟩; refine ⟨_, rfl, ?_⟩; replace BK124 := Aside0.mk (blk_below (g := gb124) (o := .cells #[.bool false, .string (⟨#[]⟩ : ByteArray), .int .i64 0] 46 (0, 0)) q3_ hb); replace HB := Aside0.mk (below_step q1_ hb); (try clear hb); (try clear hb2); (try clear hk); (try clear hi)) | ((with_reducible refine gate_callee (f := 40) rfl ?_); refine goesL_ (some 21) rfl rfl Tryz.func40 (by kernel_rfl) rfl #[.string t127] rfl q2_ ?_; (with_reducible refine (dec_isDigits.calls t127 true _ A4.out).mono ?_); rintro e w28 ⟨rfl, hb⟩; refine ⟨_, rfl, ?_⟩; replace BK124 := Aside0.mk (blk_below (g := gb124) (o := .cells #[.bool false, .string (⟨#[]⟩ : ByteArray), .int .i64 0] 46 (0, 0)) q3_ hb); replace HB := Aside0.mk (below_step q1_ hb); (try clear hb); (try clear hb2); (try clear hk); (try clear hi)) | (go_at_call 40; (with_reducible refine (dec_isDigits.calls t128 false _ A7.out).mono ?_); rintro e w29 ⟨rfl, hb⟩; replace BK124 := Aside0.mk (blk_below (g := gb124) (o := .cells #[.bool false, .string (⟨#[]⟩ : ByteArray), .int .i64 0] 46 (0, 0)) q3_ hb); replace HB := Aside0.mk (below_step q1_ hb); (try clear hb); (try clear hb2); (try clear hk); (try clear hi); obtain ⟨hcz30_0, hcz30_1, hcz30_2, hfz30_0, hfz30_1, hfz30_2⟩ := cellsF3 BK124.out))
    refine bodyPost_ret (results_ct rfl _ _ gb124 46 #[.bool false, .string (⟨#[]⟩ : ByteArray), .int .i64 0] (0, 0) _ rfl q4_ Tryz.underlying46 rfl (by kernel_rfl)) rfl ?_
    exact ⟨q5_, q1_⟩
  ·replace c6 := Bool.eq_false_iff.mpr c6
   subst c6
   have H1 : (if (wrap64 ((t127.size : Int) + (t128.size : Int))) > 40 then (some (false, (⟨#[]⟩ : ByteArray), 0, false)) else (if t127.size + t128.size ≤ 9223372036854775807 then ((dec_make0.f t126 (t127 ++ t128) (t128.size : Int)).bind fun bt135 => (some (bt135.1, bt135.2.1, bt135.2.2, true))) else (none))) = some (r1, r2, r3, r4) := by rw [if_neg (show ¬ (false = true) by decide)] at H; exact H
   clear H
   have H := H1
   clear H1
   by_cases c31 : (wrap64 ((t127.size : Int) + (t128.size : Int))) > 40
   ·rw [if_pos c31] at H
    have c31b0 : decide (40 < (wrap64 ((t127.size : Int) + (t128.size : Int)))) = true := decide_eq_true c31
    clear c31
    simp only [Option.some.injEq, Prod.mk.injEq] at H
    obtain ⟨rfl, rfl, rfl, rfl⟩ := H
    go_enter Tryz.func27, Tryz.ntmps27
    go_wp2_with (first | ((with_reducible refine gate_dst (N := 2) rfl ?_); (try (refine gate_guard (by rfl) ?_; dsimp only)); refine box_event ?hg (N := 2) ?hd (cs := #[.bool false, .string (⟨#[]⟩ : ByteArray), .int .i64 0]) (t := 46) ?hr ?_; (case hd => rfl); (case hg => rfl); (case hr => exact u0_); intro gb124 hg w32 hbox hb; have BK124 := Aside0.mk (hbox); have GW124 := Aside0.mk ((q6_ : w.heap.size ≤ gb124)); have GE124 := Aside0.mk ((q6_ : w.heap.size ≤ gb124)); replace HB := Aside0.mk (below_step q0_ hb); clear hb hbox hg) | ((with_reducible refine gate_callee (f := 38) rfl ?_); refine goesL_ (some 11) rfl rfl Tryz.func38 (by kernel_rfl) rfl #[.string a0, .string (⟨#[45]⟩ : ByteArray)] rfl q2_ ?_; (with_reducible refine (strings_CutPrefix.calls a0 (⟨#[45]⟩ : ByteArray) t125 t126 _ A2.out).mono ?_); rintro e w33 ⟨rfl, hb⟩; refine ⟨_, rfl, ?_⟩; replace BK124 := Aside0.mk (blk_below (g := gb124) (o := .cells #[.bool false, .string (⟨#[]⟩ : ByteArray), .int .i64 0] 46 (0, 0)) q3_ hb); replace HB := Aside0.mk (below_step q1_ hb); (try clear hb); (try clear hb2); (try clear hk); (try clear hi)) | ((with_reducible refine gate_callee (f := 39) rfl ?_); refine goesL_ (some 16) rfl rfl Tryz.func39 (by kernel_rfl) rfl #[.string t125, .string (⟨#[46]⟩ : ByteArray)] rfl q2_ ?_; (with_reducible refine (strings_Cut.calls t125 (⟨#[46]⟩ : ByteArray) t127 t128 false _ A3.out).mono ?_); rintro e w34 ⟨rfl, hb⟩; refine ⟨_, rfl, ?_⟩; replace BK124 := Aside0.mk (blk_below (g := gb124) (o := .cells #[.bool false, .string (⟨#[]⟩ : ByteArray), .int .i64 0] 46 (0, 0)) q3_ hb); replace HB := Aside0.mk (below_step q1_ hb); (try clear hb); (try clear hb2); (try clear hk); (try clear hi)) | ((with_reducible refine gate_callee (f := 40) rfl ?_); refine goesL_ (some 21) rfl rfl Tryz.func40 (by kernel_rfl) rfl #[.string t127] rfl q2_ ?_; (with_reducible refine (dec_isDigits.calls t127 true _ A4.out).mono ?_); rintro e w35 ⟨rfl, hb⟩; refine ⟨_, rfl, ?_⟩; replace BK124 := Aside0.mk (blk_below (g := gb124) (o := .cells #[.bool false, .string (⟨#[]⟩ : ByteArray), .int .i64 0] 46 (0, 0)) q3_ hb); replace HB := Aside0.mk (below_step q1_ hb); (try clear hb); (try clear hb2); (try clear hk); (try clear hi); obtain ⟨hcz36_0, hcz36_1, hcz36_2, hfz36_0, hfz36_1, hfz36_2⟩ := cellsF3 BK124.out))
    refine bodyPost_ret (results_ct rfl _ _ gb124 46 #[.bool false, .string (⟨#[]⟩ : ByteArray), .int .i64 0] (0, 0) _ rfl q4_ Tryz.underlying46 rfl (by kernel_rfl)) rfl ?_
    exact ⟨q5_, q1_⟩
   ·rw [if_neg c31] at H
    have c31b0 : decide (40 < (wrap64 ((t127.size : Int) + (t128.size : Int)))) = false := decide_eq_false c31
    clear c31
    by_cases c37 : t127.size + t128.size ≤ 9223372036854775807
    ·rw [if_pos c37] at H
     try simp only [show wrap64 ((t127.size : Int) + (t128.size : Int)) = (t127.size : Int) + (t128.size : Int) from by unfold wrap64; omega] at *
     have c37b0 := eq_true c37
     have c37b1 : decide (t127.size + t128.size ≤ 9223372036854775807) = true := decide_eq_true c37
     try have c37b2 : (9223372036854775807 < t127.size + t128.size) = False := eq_false (Nat.not_lt.2 c37)
     replace H := Option.bind_eq_some_iff.mp H
     obtain ⟨⟨t135, t136, t137⟩, A380, H⟩ := H
     replace H : (some (t135, t136, t137, true)) = some (r1, r2, r3, r4) := H
     have A38 := Aside0.mk A380
     clear A380
     simp only [Option.some.injEq, Prod.mk.injEq] at H
     obtain ⟨rfl, rfl, rfl, rfl⟩ := H
     go_enter Tryz.func27, Tryz.ntmps27
     go_wp2_with (first | ((with_reducible refine gate_dst (N := 2) rfl ?_); (try (refine gate_guard (by rfl) ?_; dsimp only)); refine box_event ?hg (N := 2) ?hd (cs := #[.bool false, .string (⟨#[]⟩ : ByteArray), .int .i64 0]) (t := 46) ?hr ?_; (case hd => rfl); (case hg => rfl); (case hr => exact u0_); intro gb124 hg w39 hbox hb; have BK124 := Aside0.mk (hbox); have GW124 := Aside0.mk ((q6_ : w.heap.size ≤ gb124)); have GE124 := Aside0.mk ((q6_ : w.heap.size ≤ gb124)); replace HB := Aside0.mk (below_step q0_ hb); clear hb hbox hg) | ((with_reducible refine gate_callee (f := 38) rfl ?_); refine goesL_ (some 11) rfl rfl Tryz.func38 (by kernel_rfl) rfl #[.string a0, .string (⟨#[45]⟩ : ByteArray)] rfl q2_ ?_; (with_reducible refine (strings_CutPrefix.calls a0 (⟨#[45]⟩ : ByteArray) t125 t126 _ A2.out).mono ?_); rintro e w40 ⟨rfl, hb⟩; refine ⟨_, rfl, ?_⟩; replace BK124 := Aside0.mk (blk_below (g := gb124) (o := .cells #[.bool false, .string (⟨#[]⟩ : ByteArray), .int .i64 0] 46 (0, 0)) q3_ hb); replace HB := Aside0.mk (below_step q1_ hb); (try clear hb); (try clear hb2); (try clear hk); (try clear hi)) | ((with_reducible refine gate_callee (f := 39) rfl ?_); refine goesL_ (some 16) rfl rfl Tryz.func39 (by kernel_rfl) rfl #[.string t125, .string (⟨#[46]⟩ : ByteArray)] rfl q2_ ?_; (with_reducible refine (strings_Cut.calls t125 (⟨#[46]⟩ : ByteArray) t127 t128 false _ A3.out).mono ?_); rintro e w41 ⟨rfl, hb⟩; refine ⟨_, rfl, ?_⟩; replace BK124 := Aside0.mk (blk_below (g := gb124) (o := .cells #[.bool false, .string (⟨#[]⟩ : ByteArray), .int .i64 0] 46 (0, 0)) q3_ hb); replace HB := Aside0.mk (below_step q1_ hb); (try clear hb); (try clear hb2); (try clear hk); (try clear hi)) | ((with_reducible refine gate_callee (f := 40) rfl ?_); refine goesL_ (some 21) rfl rfl Tryz.func40 (by kernel_rfl) rfl #[.string t127] rfl q2_ ?_; (with_reducible refine (dec_isDigits.calls t127 true _ A4.out).mono ?_); rintro e w42 ⟨rfl, hb⟩; refine ⟨_, rfl, ?_⟩; replace BK124 := Aside0.mk (blk_below (g := gb124) (o := .cells #[.bool false, .string (⟨#[]⟩ : ByteArray), .int .i64 0] 46 (0, 0)) q3_ hb); replace HB := Aside0.mk (below_step q1_ hb); (try clear hb); (try clear hb2); (try clear hk); (try clear hi)) | ((with_reducible refine gate_callee (f := 41) rfl ?_); refine goesL_ (some 46) rfl rfl Tryz.func41 (by kernel_rfl) rfl #[.bool t126, .string (t127 ++ t128), .int .i64 (t128.size : Int)] rfl q2_ ?_; (with_reducible refine (dec_make0.calls t126 (t127 ++ t128) (t128.size : Int) t135 t136 t137 _ A38.out).mono ?_); rintro e w43 ⟨rfl, hb⟩; refine ⟨_, rfl, ?_⟩; replace BK124 := Aside0.mk (blk_below (g := gb124) (o := .cells #[.bool false, .string (⟨#[]⟩ : ByteArray), .int .i64 0] 46 (0, 0)) q3_ hb); replace HB := Aside0.mk (below_step q1_ hb); (try clear hb); (try clear hb2); (try clear hk); (try clear hi); obtain ⟨hcz44_0, hcz44_1, hcz44_2, hfz44_0, hfz44_1, hfz44_2⟩ := cellsF3 BK124.out))
     refine bodyPost_ret (results_ct rfl _ _ gb124 46 #[.bool t135, .string t136, .int .i64 t137] (0, 0) _ rfl (by (with_reducible repeat (first | refine blk_drewN ?_ _ | refine blk_drew ?_ | refine blk_alloc ?_ _)); refine blk_put (cs := #[.bool t135, .string t136, .int .i64 0]) ?_ 2 _ rfl; (with_reducible repeat (first | refine blk_drewN ?_ _ | refine blk_drew ?_ | refine blk_alloc ?_ _)); refine blk_put (cs := #[.bool t135, .string (⟨#[]⟩ : ByteArray), .int .i64 0]) ?_ 1 _ rfl; (with_reducible repeat (first | refine blk_drewN ?_ _ | refine blk_drew ?_ | refine blk_alloc ?_ _)); refine blk_put (cs := #[.bool false, .string (⟨#[]⟩ : ByteArray), .int .i64 0]) ?_ 0 _ rfl; (with_reducible repeat (first | refine blk_drewN ?_ _ | refine blk_drew ?_ | refine blk_alloc ?_ _)); exact BK124.out) Tryz.underlying46 rfl (by kernel_rfl)) rfl ?_
     exact ⟨q5_, q1_⟩
    ·rw [if_neg c37] at H
     exact absurd H (by simp)
 ·replace c5 := Bool.eq_false_iff.mpr c5
  subst c5
  have H1 : (some (false, (⟨#[]⟩ : ByteArray), 0, false)) = some (r1, r2, r3, r4) := by rw [if_neg (show ¬ (false = true) by decide)] at H; exact H
  clear H
  have H := H1
  clear H1
  simp only [Option.some.injEq, Prod.mk.injEq] at H
  obtain ⟨rfl, rfl, rfl, rfl⟩ := H
  go_enter Tryz.func27, Tryz.ntmps27
  go_wp2_with (first | ((with_reducible refine gate_dst (N := 2) rfl ?_); (try (refine gate_guard (by rfl) ?_; dsimp only)); refine box_event ?hg (N := 2) ?hd (cs := #[.bool false, .string (⟨#[]⟩ : ByteArray), .int .i64 0]) (t := 46) ?hr ?_; (case hd => rfl); (case hg => rfl); (case hr => exact u0_); intro gb124 hg w45 hbox hb; have BK124 := Aside0.mk (hbox); have GW124 := Aside0.mk ((q6_ : w.heap.size ≤ gb124)); have GE124 := Aside0.mk ((q6_ : w.heap.size ≤ gb124)); replace HB := Aside0.mk (below_step q0_ hb); clear hb hbox hg) | ((with_reducible refine gate_callee (f := 38) rfl ?_); refine goesL_ (some 11) rfl rfl Tryz.func38 (by kernel_rfl) rfl #[.string a0, .string (⟨#[45]⟩ : ByteArray)] rfl q2_ ?_; (with_reducible refine (strings_CutPrefix.calls a0 (⟨#[45]⟩ : ByteArray) t125 t126 _ A2.out).mono ?_); rintro e w46 ⟨rfl, hb⟩; refine ⟨_, rfl, ?_⟩; replace BK124 := Aside0.mk (blk_below (g := gb124) (o := .cells #[.bool false, .string (⟨#[]⟩ : ByteArray), .int .i64 0] 46 (0, 0)) q3_ hb); replace HB := Aside0.mk (below_step q1_ hb); (try clear hb); (try clear hb2); (try clear hk); (try clear hi)) | ((with_reducible refine gate_callee (f := 39) rfl ?_); refine goesL_ (some 16) rfl rfl Tryz.func39 (by kernel_rfl) rfl #[.string t125, .string (⟨#[46]⟩ : ByteArray)] rfl q2_ ?_; (with_reducible refine (strings_Cut.calls t125 (⟨#[46]⟩ : ByteArray) t127 t128 t129 _ A3.out).mono ?_); rintro e w47 ⟨rfl, hb⟩; refine ⟨_, rfl, ?_⟩; replace BK124 := Aside0.mk (blk_below (g := gb124) (o := .cells #[.bool false, .string (⟨#[]⟩ : ByteArray), .int .i64 0] 46 (0, 0)) q3_ hb); replace HB := Aside0.mk (below_step q1_ hb); (try clear hb); (try clear hb2); (try clear hk); (try clear hi)) | ((with_reducible refine gate_callee (f := 40) rfl ?_); refine goesL_ (some 21) rfl rfl Tryz.func40 (by kernel_rfl) rfl #[.string t127] rfl q2_ ?_; (with_reducible refine (dec_isDigits.calls t127 false _ A4.out).mono ?_); rintro e w48 ⟨rfl, hb⟩; refine ⟨_, rfl, ?_⟩; replace BK124 := Aside0.mk (blk_below (g := gb124) (o := .cells #[.bool false, .string (⟨#[]⟩ : ByteArray), .int .i64 0] 46 (0, 0)) q3_ hb); replace HB := Aside0.mk (below_step q1_ hb); (try clear hb); (try clear hb2); (try clear hk); (try clear hi); obtain ⟨hcz49_0, hcz49_1, hcz49_2, hfz49_0, hfz49_1, hfz49_2⟩ := cellsF3 BK124.out))
  refine bodyPost_ret (results_ct rfl _ _ gb124 46 #[.bool false, .string (⟨#[]⟩ : ByteArray), .int .i64 0] (0, 0) _ rfl q4_ Tryz.underlying46 rfl (by kernel_rfl)) rfl ?_
  exact ⟨q5_, q1_⟩
def number_Default.f  : Option (Int × Int × Int × Bool × Bool) := some (1, 0, 3, false, false)
set_option maxHeartbeats 8000000 in
set_option maxRecDepth 100000 in
theorem number_Default.calls  (r1 : Int) (r2 : Int) (r3 : Int) (r4 : Bool) (r5 : Bool) (w : World) (h : number_Default.f  = some (r1, r2, r3, r4, r5)) :
  Calls Tryz.prog 42 #[] w fun e w' => e = .returned (.agg #[.int .i64 r1, .int .i64 r2, .int .i64 r3, .bool r4, .bool r5]) ∧ Below w.heap.size w w' := by
 have hu48 := Tryz.underlying48
 have HB := Aside0.mk (Below.refl w.heap.size w)
 have H : (some (1, 0, 3, false, false)) = some (r1, r2, r3, r4, r5) := h
 clear h
 simp only [Option.some.injEq, Prod.mk.injEq] at H
 obtain ⟨rfl, rfl, rfl, rfl, rfl⟩ := H
 go_enter Tryz.func42, Tryz.ntmps42
 go_wp2_with (first | ((with_reducible refine gate_dst (N := 0) rfl ?_); refine box_event ?hg (N := 0) ?hd (cs := #[.int .i64 0, .int .i64 0, .int .i64 0, .bool false, .bool false]) (t := 48) ?hr ?_; (case hd => rfl); (case hg => rfl); (case hr => exact u0_); intro gb138 hg w1 hbox hb; have BK138 := Aside0.mk (hbox); have GW138 := Aside0.mk ((q6_ : w.heap.size ≤ gb138)); have GE138 := Aside0.mk ((q6_ : w.heap.size ≤ gb138)); replace HB := Aside0.mk (below_step q0_ hb); clear hb hbox hg; obtain ⟨hcz2_0, hcz2_1, hcz2_2, hcz2_3, hcz2_4, hfz2_0, hfz2_1, hfz2_2, hfz2_3, hfz2_4⟩ := cellsF5 BK138.out))
 refine bodyPost_ret (results_cell_row rfl _ _ gb138 48 #[.int .i64 1, .int .i64 0, .int .i64 3, .bool false, .bool false] (0, 0) _ rfl (by (with_reducible repeat (first | refine blk_drewN ?_ _ | refine blk_drew ?_ | refine blk_alloc ?_ _)); refine blk_put (cs := #[.int .i64 1, .int .i64 0, .int .i64 3, .bool false, .bool false]) ?_ 4 _ rfl; (with_reducible repeat (first | refine blk_drewN ?_ _ | refine blk_drew ?_ | refine blk_alloc ?_ _)); refine blk_put (cs := #[.int .i64 1, .int .i64 0, .int .i64 3, .bool false, .bool false]) ?_ 3 _ rfl; (with_reducible repeat (first | refine blk_drewN ?_ _ | refine blk_drew ?_ | refine blk_alloc ?_ _)); refine blk_put (cs := #[.int .i64 1, .int .i64 0, .int .i64 0, .bool false, .bool false]) ?_ 2 _ rfl; (with_reducible repeat (first | refine blk_drewN ?_ _ | refine blk_drew ?_ | refine blk_alloc ?_ _)); refine blk_put (cs := #[.int .i64 1, .int .i64 0, .int .i64 0, .bool false, .bool false]) ?_ 1 _ rfl; (with_reducible repeat (first | refine blk_drewN ?_ _ | refine blk_drew ?_ | refine blk_alloc ?_ _)); refine blk_put (cs := #[.int .i64 0, .int .i64 0, .int .i64 0, .bool false, .bool false]) ?_ 0 _ rfl; (with_reducible repeat (first | refine blk_drewN ?_ _ | refine blk_drew ?_ | refine blk_alloc ?_ _)); exact BK138.out) Tryz.underlying48 rfl (by kernel_rfl)) rfl ?_
 exact ⟨q5_, (by repeat (first | (with_reducible first | exact HB.out | apply below_alloc | apply pw_below_drewN | apply below_drew1 | refine below_set ?_ GE138.out) | exact HB.out))⟩
def value_Num.f (a0_0 : Bool) (a0_1 : ByteArray) (a0_2 : Int) : Option (Int × ByteArray × Bool × ByteArray × Int × Int × Int × Int × Bool × Bool × Int × Int) := (number_Default.f).bind fun bt141 => (some (1, (⟨#[]⟩ : ByteArray), a0_0, a0_1, a0_2, bt141.1, bt141.2.1, bt141.2.2.1, bt141.2.2.2.1, bt141.2.2.2.2, 0, 0))
set_option maxHeartbeats 8000000 in
set_option maxRecDepth 100000 in
theorem value_Num.calls (a0_0 : Bool) (a0_1 : ByteArray) (a0_2 : Int) (r1 : Int) (r2 : ByteArray) (r3 : Bool) (r4 : ByteArray) (r5 : Int) (r6 : Int) (r7 : Int) (r8 : Int) (r9 : Bool) (r10 : Bool) (r11 : Int) (r12 : Int) (w : World) (h : value_Num.f a0_0 a0_1 a0_2 = some (r1, r2, r3, r4, r5, r6, r7, r8, r9, r10, r11, r12)) :
  Calls Tryz.prog 28 #[.agg #[.bool a0_0, .string a0_1, .int .i64 a0_2]] w fun e w' => e = .returned (.agg #[.int .i64 r1, .string r2, .bool r3, .string r4, .int .i64 r5, .int .i64 r6, .int .i64 r7, .int .i64 r8, .bool r9, .bool r10, .int .i64 r11, .int .i64 r12]) ∧ Below w.heap.size w w' := by
 have hu46 := Tryz.underlying46
 have hu51 := Tryz.underlying51
 have HB := Aside0.mk (Below.refl w.heap.size w)
 have H : ((number_Default.f).bind fun bt141 => (some (1, (⟨#[]⟩ : ByteArray), a0_0, a0_1, a0_2, bt141.1, bt141.2.1, bt141.2.2.1, bt141.2.2.2.1, bt141.2.2.2.2, 0, 0))) = some (r1, r2, r3, r4, r5, r6, r7, r8, r9, r10, r11, r12) := h
 clear h
 replace H := Option.bind_eq_some_iff.mp H
 obtain ⟨⟨t141, t142, t143, t144, t145⟩, A20, H⟩ := H
 replace H : (some (1, (⟨#[]⟩ : ByteArray), a0_0, a0_1, a0_2, t141, t142, t143, t144, t145, 0, 0)) = some (r1, r2, r3, r4, r5, r6, r7, r8, r9, r10, r11, r12) := H
 have A2 := Aside0.mk A20
 clear A20
 simp only [Option.some.injEq, Prod.mk.injEq] at H
 obtain ⟨rfl, rfl, rfl, rfl, rfl, rfl, rfl, rfl, rfl, rfl, rfl, rfl⟩ := H
 go_enter Tryz.func28, Tryz.ntmps28
 try go_wp2_with (first | ((with_reducible refine gate_dst (N := 1) rfl ?_); refine box_event ?hg (N := 1) ?hd (cs := #[.bool a0_0, .string a0_1, .int .i64 a0_2]) (t := 46) ?hr ?_; (case hd => rfl); (case hg => rfl); (case hr => exact u0_); intro gb139 hg w3 hbox hb; have BK139 := Aside0.mk (hbox); have GW139 := Aside0.mk ((q6_ : w.heap.size ≤ gb139)); have GE139 := Aside0.mk ((q6_ : w.heap.size ≤ gb139)); replace HB := Aside0.mk (below_step q0_ hb); clear hb hbox hg) | ((with_reducible refine gate_dst (N := 2) rfl ?_); refine box_event ?hg (N := 2) ?hd (cs := #[.int .i64 0, .string (⟨#[]⟩ : ByteArray), .bool false, .string (⟨#[]⟩ : ByteArray), .int .i64 0, .int .i64 0, .int .i64 0, .int .i64 0, .bool false, .bool false, .int .i64 0, .int .i64 0]) (t := 51) ?hr ?_; (case hd => rfl); (case hg => rfl); (case hr => exact u0_); intro gb140 hg w4 hbox hb; have BK140 := Aside0.mk (hbox); have GW140 := Aside0.mk (((by rw [hg]; exact (below_size q9_)) : w.heap.size ≤ gb140)); have GE140 := Aside0.mk (((by rw [hg]; exact (below_size q9_)) : w.heap.size ≤ gb140)); replace HB := Aside0.mk (below_step q9_ hb); have NB139_140 := Aside0.mk (((by rw [hg]; exact Nat.ne_of_lt (blk_lt (g := gb139) (o := .cells #[.bool a0_0, .string a0_1, .int .i64 a0_2] 46 (0, 0)) q8_)) : gb139 ≠ gb140)); have NB140_139 := Aside0.mk (((by rw [hg]; exact Nat.ne_of_gt (blk_lt (g := gb139) (o := .cells #[.bool a0_0, .string a0_1, .int .i64 a0_2] 46 (0, 0)) q8_)) : gb140 ≠ gb139)); replace BK139 := Aside0.mk (blk_below (g := gb139) (o := .cells #[.bool a0_0, .string a0_1, .int .i64 a0_2] 46 (0, 0)) q8_ hb); clear hb hbox hg))
 replace BK139 := Aside0.mk (blk_drew BK139.out)
 replace BK140 := Aside0.mk (blk_drew BK140.out)
 replace HB := Aside0.mk (below_drew1 HB.out)
 refine start_ (n := 4) (S := fun w' => w'.cell? ⟨gb139, 0, none⟩ = some (.bool a0_0) ∧ w'.cell? ⟨gb139, 1, none⟩ = some (.string a0_1) ∧ w'.cell? ⟨gb139, 2, none⟩ = some (.int .i64 a0_2)) (ds := []) #[false, false, false, false] (by kernel_rfl) rfl rfl ⟨(blk_cell BK139.out 0).trans rfl, (blk_cell BK139.out 1).trans rfl, (blk_cell BK139.out 2).trans rfl⟩ (fun hHeld => ?_)
 generalize w4.drew = w5 at BK139 BK140 HB hHeld ⊢
 refine take_ (i := 0) (N := some 3) (v := ?_) (a' := ?_) #[true, false, false, false] rfl rfl (by kernel_rfl) (fun _ _ _ h => h) (Or.inl ⟨(by rfl), ?_⟩) hHeld ?_ ?_
 rotate_left
 ·rintro w' ⟨s0, s1, s2⟩
  go_simp
  with_reducible rfl
 rotate_left
 ·simp only [Act.put, List.setIfInBounds_toArray, List.set_cons_zero, List.set_cons_succ, i64_w, i32_w]
  rfl
 refine one_ (i := 1) (N := some 4) #[true, true, false, false] rfl rfl (by kernel_rfl) (by decide) (fun K hK => ?_)
 refine goes_ Tryz.func42 (by kernel_rfl) rfl #[] (by rfl) rfl rfl q2_ ?_
 with_reducible refine (number_Default.calls  t141 t142 t143 t144 t145 _ A2.out).mono ?_
 rintro e w6 ⟨rfl, hb⟩
 refine ⟨_, rfl, ?_⟩
 replace BK139 := Aside0.mk (blk_below (g := gb139) (o := .cells #[.bool a0_0, .string a0_1, .int .i64 a0_2] 46 (0, 0)) q8_ hb)
 replace BK140 := Aside0.mk (blk_below (g := gb140) (o := .cells #[.int .i64 0, .string (⟨#[]⟩ : ByteArray), .bool false, .string (⟨#[]⟩ : ByteArray), .int .i64 0, .int .i64 0, .int .i64 0, .int .i64 0, .bool false, .bool false, .int .i64 0, .int .i64 0] 51 (0, 0)) (by (with_reducible repeat (first | refine blk_drewN ?_ _ | refine blk_drew ?_ | refine blk_alloc ?_ _)); exact BK140.out) hb)
 replace HB := Aside0.mk (below_step q11_ hb)
 (try clear hb)
 (try clear hb2)
 (try clear hk)
 (try clear hi)
 refine hK.out _ _ ⟨(blk_cell BK139.out 0).trans rfl, (blk_cell BK139.out 1).trans rfl, (blk_cell BK139.out 2).trans rfl⟩ (fun hHeld => ?_)
 clear hK K
 refine norm_ (a' := ?_) ?_ ?_
 rotate_left
 ·show Act.put _ (some 4) _ = _
  simp only [Act.put, List.setIfInBounds_toArray, List.set_cons_zero, List.set_cons_succ, i64_w, i32_w]
  rfl
 refine pure_ (i := 2) (N := some 5) (v := ?_) (a' := ?_) #[true, true, true, false] rfl rfl (by kernel_rfl) (fun _ _ _ h => h) (Or.inl ⟨(by rfl), ?_⟩) ?_ ?_
 rotate_left
 ·intro w'
  go_simp
  with_reducible rfl
 rotate_left
 ·simp only [Act.put, List.setIfInBounds_toArray, List.set_cons_zero, List.set_cons_succ, i64_w, i32_w]
  rfl
 refine one_ (i := 3) (N := none) #[true, true, true, true] rfl rfl (by kernel_rfl) (by decide) (fun K hK => ?_)
 have hs7 : w6.cell? ⟨gb140, 0, none⟩ = some (.int .i64 0) := (blk_cell BK140.out 0).trans rfl
 have hfs7 := blk_frozen BK140.out 0
 have hns7_0 := NB139_140.out
 have hms7_0 := NB140_139.out
 have hs8 : w6.cell? ⟨gb140, 1, none⟩ = some (.string (⟨#[]⟩ : ByteArray)) := (blk_cell BK140.out 1).trans rfl
 have hfs8 := blk_frozen BK140.out 1
 have hns8_0 := NB139_140.out
 have hms8_0 := NB140_139.out
 have hs9 : w6.cell? ⟨gb140, 2, none⟩ = some (.bool false) := (blk_cell BK140.out 2).trans rfl
 have hfs9 := blk_frozen BK140.out 2
 have hns9_0 := NB139_140.out
 have hms9_0 := NB140_139.out
 have hs10 : w6.cell? ⟨gb140, 3, none⟩ = some (.string (⟨#[]⟩ : ByteArray)) := (blk_cell BK140.out 3).trans rfl
 have hfs10 := blk_frozen BK140.out 3
 have hns10_0 := NB139_140.out
 have hms10_0 := NB140_139.out
 have hs11 : w6.cell? ⟨gb140, 4, none⟩ = some (.int .i64 0) := (blk_cell BK140.out 4).trans rfl
 have hfs11 := blk_frozen BK140.out 4
 have hns11_0 := NB139_140.out
 have hms11_0 := NB140_139.out
 have hs12 : w6.cell? ⟨gb140, 5, none⟩ = some (.int .i64 0) := (blk_cell BK140.out 5).trans rfl
 have hfs12 := blk_frozen BK140.out 5
 have hns12_0 := NB139_140.out
 have hms12_0 := NB140_139.out
 have hs13 : w6.cell? ⟨gb140, 6, none⟩ = some (.int .i64 0) := (blk_cell BK140.out 6).trans rfl
 have hfs13 := blk_frozen BK140.out 6
 have hns13_0 := NB139_140.out
 have hms13_0 := NB140_139.out
 have hs14 : w6.cell? ⟨gb140, 7, none⟩ = some (.int .i64 0) := (blk_cell BK140.out 7).trans rfl
 have hfs14 := blk_frozen BK140.out 7
 have hns14_0 := NB139_140.out
 have hms14_0 := NB140_139.out
 have hs15 : w6.cell? ⟨gb140, 8, none⟩ = some (.bool false) := (blk_cell BK140.out 8).trans rfl
 have hfs15 := blk_frozen BK140.out 8
 have hns15_0 := NB139_140.out
 have hms15_0 := NB140_139.out
 have hs16 : w6.cell? ⟨gb140, 9, none⟩ = some (.bool false) := (blk_cell BK140.out 9).trans rfl
 have hfs16 := blk_frozen BK140.out 9
 have hns16_0 := NB139_140.out
 have hms16_0 := NB140_139.out
 have hs17 : w6.cell? ⟨gb140, 10, none⟩ = some (.int .i64 0) := (blk_cell BK140.out 10).trans rfl
 have hfs17 := blk_frozen BK140.out 10
 have hns17_0 := NB139_140.out
 have hms17_0 := NB140_139.out
 have hs18 : w6.cell? ⟨gb140, 11, none⟩ = some (.int .i64 0) := (blk_cell BK140.out 11).trans rfl
 have hfs18 := blk_frozen BK140.out 11
 have hns18_0 := NB139_140.out
 have hms18_0 := NB140_139.out
 refine skip_ (w1 := ?_) (by rfl) rfl ?_ ?_
 rotate_left
 ·go_simp
  rfl
 refine hK.out _ _ ⟨((cell_far (p := ⟨gb140, _, none⟩) NB139_140.out _).trans (((cell_far (p := ⟨gb140, _, none⟩) NB139_140.out _).trans (((cell_far (p := ⟨gb140, _, none⟩) NB139_140.out _).trans (((cell_far (p := ⟨gb140, _, none⟩) NB139_140.out _).trans (((cell_far (p := ⟨gb140, _, none⟩) NB139_140.out _).trans (((cell_far (p := ⟨gb140, _, none⟩) NB139_140.out _).trans (((cell_far (p := ⟨gb140, _, none⟩) NB139_140.out _).trans (((cell_far (p := ⟨gb140, _, none⟩) NB139_140.out _).trans (((cell_far (p := ⟨gb140, _, none⟩) NB139_140.out _).trans (((cell_far (p := ⟨gb140, _, none⟩) NB139_140.out _).trans (((cell_far (p := ⟨gb140, _, none⟩) NB139_140.out _).trans (((cell_far (p := ⟨gb140, _, none⟩) NB139_140.out _).trans (hHeld.1)))))))))))))))))))))))), ((cell_far (p := ⟨gb140, _, none⟩) NB139_140.out _).trans (((cell_far (p := ⟨gb140, _, none⟩) NB139_140.out _).trans (((cell_far (p := ⟨gb140, _, none⟩) NB139_140.out _).trans (((cell_far (p := ⟨gb140, _, none⟩) NB139_140.out _).trans (((cell_far (p := ⟨gb140, _, none⟩) NB139_140.out _).trans (((cell_far (p := ⟨gb140, _, none⟩) NB139_140.out _).trans (((cell_far (p := ⟨gb140, _, none⟩) NB139_140.out _).trans (((cell_far (p := ⟨gb140, _, none⟩) NB139_140.out _).trans (((cell_far (p := ⟨gb140, _, none⟩) NB139_140.out _).trans (((cell_far (p := ⟨gb140, _, none⟩) NB139_140.out _).trans (((cell_far (p := ⟨gb140, _, none⟩) NB139_140.out _).trans (((cell_far (p := ⟨gb140, _, none⟩) NB139_140.out _).trans (hHeld.2.1)))))))))))))))))))))))), ((cell_far (p := ⟨gb140, _, none⟩) NB139_140.out _).trans (((cell_far (p := ⟨gb140, _, none⟩) NB139_140.out _).trans (((cell_far (p := ⟨gb140, _, none⟩) NB139_140.out _).trans (((cell_far (p := ⟨gb140, _, none⟩) NB139_140.out _).trans (((cell_far (p := ⟨gb140, _, none⟩) NB139_140.out _).trans (((cell_far (p := ⟨gb140, _, none⟩) NB139_140.out _).trans (((cell_far (p := ⟨gb140, _, none⟩) NB139_140.out _).trans (((cell_far (p := ⟨gb140, _, none⟩) NB139_140.out _).trans (((cell_far (p := ⟨gb140, _, none⟩) NB139_140.out _).trans (((cell_far (p := ⟨gb140, _, none⟩) NB139_140.out _).trans (((cell_far (p := ⟨gb140, _, none⟩) NB139_140.out _).trans (((cell_far (p := ⟨gb140, _, none⟩) NB139_140.out _).trans (hHeld.2.2))))))))))))))))))))))))⟩ (fun hHeld => ?_)
 clear hK K
 refine done_ (by kernel_rfl) ?_
 try go_wp2
 refine bodyPost_ret (results_cell_row rfl _ _ gb140 51 #[.int .i64 1, .string (⟨#[]⟩ : ByteArray), .bool a0_0, .string a0_1, .int .i64 a0_2, .int .i64 t141, .int .i64 t142, .int .i64 t143, .bool t144, .bool t145, .int .i64 0, .int .i64 0] (0, 0) _ rfl (by (with_reducible repeat (first | refine blk_drewN ?_ _ | refine blk_drew ?_ | refine blk_alloc ?_ _)); refine blk_put (cs := #[.int .i64 1, .string (⟨#[]⟩ : ByteArray), .bool a0_0, .string a0_1, .int .i64 a0_2, .int .i64 t141, .int .i64 t142, .int .i64 t143, .bool t144, .bool t145, .int .i64 0, .int .i64 0]) ?_ 11 _ rfl; (with_reducible repeat (first | refine blk_drewN ?_ _ | refine blk_drew ?_ | refine blk_alloc ?_ _)); refine blk_put (cs := #[.int .i64 1, .string (⟨#[]⟩ : ByteArray), .bool a0_0, .string a0_1, .int .i64 a0_2, .int .i64 t141, .int .i64 t142, .int .i64 t143, .bool t144, .bool t145, .int .i64 0, .int .i64 0]) ?_ 10 _ rfl; (with_reducible repeat (first | refine blk_drewN ?_ _ | refine blk_drew ?_ | refine blk_alloc ?_ _)); refine blk_put (cs := #[.int .i64 1, .string (⟨#[]⟩ : ByteArray), .bool a0_0, .string a0_1, .int .i64 a0_2, .int .i64 t141, .int .i64 t142, .int .i64 t143, .bool t144, .bool false, .int .i64 0, .int .i64 0]) ?_ 9 _ rfl; (with_reducible repeat (first | refine blk_drewN ?_ _ | refine blk_drew ?_ | refine blk_alloc ?_ _)); refine blk_put (cs := #[.int .i64 1, .string (⟨#[]⟩ : ByteArray), .bool a0_0, .string a0_1, .int .i64 a0_2, .int .i64 t141, .int .i64 t142, .int .i64 t143, .bool false, .bool false, .int .i64 0, .int .i64 0]) ?_ 8 _ rfl; (with_reducible repeat (first | refine blk_drewN ?_ _ | refine blk_drew ?_ | refine blk_alloc ?_ _)); refine blk_put (cs := #[.int .i64 1, .string (⟨#[]⟩ : ByteArray), .bool a0_0, .string a0_1, .int .i64 a0_2, .int .i64 t141, .int .i64 t142, .int .i64 0, .bool false, .bool false, .int .i64 0, .int .i64 0]) ?_ 7 _ rfl; (with_reducible repeat (first | refine blk_drewN ?_ _ | refine blk_drew ?_ | refine blk_alloc ?_ _)); refine blk_put (cs := #[.int .i64 1, .string (⟨#[]⟩ : ByteArray), .bool a0_0, .string a0_1, .int .i64 a0_2, .int .i64 t141, .int .i64 0, .int .i64 0, .bool false, .bool false, .int .i64 0, .int .i64 0]) ?_ 6 _ rfl; (with_reducible repeat (first | refine blk_drewN ?_ _ | refine blk_drew ?_ | refine blk_alloc ?_ _)); refine blk_put (cs := #[.int .i64 1, .string (⟨#[]⟩ : ByteArray), .bool a0_0, .string a0_1, .int .i64 a0_2, .int .i64 0, .int .i64 0, .int .i64 0, .bool false, .bool false, .int .i64 0, .int .i64 0]) ?_ 5 _ rfl; (with_reducible repeat (first | refine blk_drewN ?_ _ | refine blk_drew ?_ | refine blk_alloc ?_ _)); refine blk_put (cs := #[.int .i64 1, .string (⟨#[]⟩ : ByteArray), .bool a0_0, .string a0_1, .int .i64 0, .int .i64 0, .int .i64 0, .int .i64 0, .bool false, .bool false, .int .i64 0, .int .i64 0]) ?_ 4 _ rfl; (with_reducible repeat (first | refine blk_drewN ?_ _ | refine blk_drew ?_ | refine blk_alloc ?_ _)); refine blk_put (cs := #[.int .i64 1, .string (⟨#[]⟩ : ByteArray), .bool a0_0, .string (⟨#[]⟩ : ByteArray), .int .i64 0, .int .i64 0, .int .i64 0, .int .i64 0, .bool false, .bool false, .int .i64 0, .int .i64 0]) ?_ 3 _ rfl; (with_reducible repeat (first | refine blk_drewN ?_ _ | refine blk_drew ?_ | refine blk_alloc ?_ _)); refine blk_put (cs := #[.int .i64 1, .string (⟨#[]⟩ : ByteArray), .bool false, .string (⟨#[]⟩ : ByteArray), .int .i64 0, .int .i64 0, .int .i64 0, .int .i64 0, .bool false, .bool false, .int .i64 0, .int .i64 0]) ?_ 2 _ rfl; (with_reducible repeat (first | refine blk_drewN ?_ _ | refine blk_drew ?_ | refine blk_alloc ?_ _)); refine blk_put (cs := #[.int .i64 1, .string (⟨#[]⟩ : ByteArray), .bool false, .string (⟨#[]⟩ : ByteArray), .int .i64 0, .int .i64 0, .int .i64 0, .int .i64 0, .bool false, .bool false, .int .i64 0, .int .i64 0]) ?_ 1 _ rfl; (with_reducible repeat (first | refine blk_drewN ?_ _ | refine blk_drew ?_ | refine blk_alloc ?_ _)); refine blk_put (cs := #[.int .i64 0, .string (⟨#[]⟩ : ByteArray), .bool false, .string (⟨#[]⟩ : ByteArray), .int .i64 0, .int .i64 0, .int .i64 0, .int .i64 0, .bool false, .bool false, .int .i64 0, .int .i64 0]) ?_ 0 _ rfl; (with_reducible repeat (first | refine blk_drewN ?_ _ | refine blk_drew ?_ | refine blk_alloc ?_ _)); exact BK140.out) Tryz.underlying51 rfl (by kernel_rfl)) rfl ?_
 exact ⟨q5_, q11_⟩
def value_At.f (a0 : Int) : Option (Int × ByteArray × Bool × ByteArray × Int × Int × Int × Int × Bool × Bool × Int × Int) := some (2, (⟨#[]⟩ : ByteArray), false, (⟨#[]⟩ : ByteArray), 0, 0, 0, 0, false, false, a0, 0)
set_option maxHeartbeats 8000000 in
set_option maxRecDepth 100000 in
theorem value_At.calls (a0 : Int) (r1 : Int) (r2 : ByteArray) (r3 : Bool) (r4 : ByteArray) (r5 : Int) (r6 : Int) (r7 : Int) (r8 : Int) (r9 : Bool) (r10 : Bool) (r11 : Int) (r12 : Int) (w : World) (h : value_At.f a0 = some (r1, r2, r3, r4, r5, r6, r7, r8, r9, r10, r11, r12)) :
  Calls Tryz.prog 30 #[.int .i64 a0] w fun e w' => e = .returned (.agg #[.int .i64 r1, .string r2, .bool r3, .string r4, .int .i64 r5, .int .i64 r6, .int .i64 r7, .int .i64 r8, .bool r9, .bool r10, .int .i64 r11, .int .i64 r12]) ∧ Below w.heap.size w w' := by
 have hu51 := Tryz.underlying51
 have HB := Aside0.mk (Below.refl w.heap.size w)
 have H : (some (2, (⟨#[]⟩ : ByteArray), false, (⟨#[]⟩ : ByteArray), 0, 0, 0, 0, false, false, a0, 0)) = some (r1, r2, r3, r4, r5, r6, r7, r8, r9, r10, r11, r12) := h
 clear h
 simp only [Option.some.injEq, Prod.mk.injEq] at H
 obtain ⟨rfl, rfl, rfl, rfl, rfl, rfl, rfl, rfl, rfl, rfl, rfl, rfl⟩ := H
 go_enter Tryz.func30, Tryz.ntmps30
 go_wp2_with (first | ((with_reducible refine gate_dst (N := 2) rfl ?_); refine box_event ?hg (N := 2) ?hd (cs := #[.int .i64 0, .string (⟨#[]⟩ : ByteArray), .bool false, .string (⟨#[]⟩ : ByteArray), .int .i64 0, .int .i64 0, .int .i64 0, .int .i64 0, .bool false, .bool false, .int .i64 0, .int .i64 0]) (t := 51) ?hr ?_; (case hd => rfl); (case hg => rfl); (case hr => exact u0_); intro gb146 hg w2 hbox hb; have BK146 := Aside0.mk (hbox); have GW146 := Aside0.mk ((q6_ : w.heap.size ≤ gb146)); have GE146 := Aside0.mk ((q6_ : w.heap.size ≤ gb146)); replace HB := Aside0.mk (below_step q0_ hb); clear hb hbox hg; obtain ⟨hcz3_0, hcz3_1, hcz3_2, hcz3_3, hcz3_4, hcz3_5, hcz3_6, hcz3_7, hcz3_8, hcz3_9, hcz3_10, hcz3_11, hfz3_0, hfz3_1, hfz3_2, hfz3_3, hfz3_4, hfz3_5, hfz3_6, hfz3_7, hfz3_8, hfz3_9, hfz3_10, hfz3_11⟩ := cellsF12 BK146.out))
 refine bodyPost_ret (results_cell_row rfl _ _ gb146 51 #[.int .i64 2, .string (⟨#[]⟩ : ByteArray), .bool false, .string (⟨#[]⟩ : ByteArray), .int .i64 0, .int .i64 0, .int .i64 0, .int .i64 0, .bool false, .bool false, .int .i64 a0, .int .i64 0] (0, 0) _ rfl (by (with_reducible repeat (first | refine blk_drewN ?_ _ | refine blk_drew ?_ | refine blk_alloc ?_ _)); refine blk_put (cs := #[.int .i64 2, .string (⟨#[]⟩ : ByteArray), .bool false, .string (⟨#[]⟩ : ByteArray), .int .i64 0, .int .i64 0, .int .i64 0, .int .i64 0, .bool false, .bool false, .int .i64 a0, .int .i64 0]) ?_ 11 _ rfl; (with_reducible repeat (first | refine blk_drewN ?_ _ | refine blk_drew ?_ | refine blk_alloc ?_ _)); refine blk_put (cs := #[.int .i64 2, .string (⟨#[]⟩ : ByteArray), .bool false, .string (⟨#[]⟩ : ByteArray), .int .i64 0, .int .i64 0, .int .i64 0, .int .i64 0, .bool false, .bool false, .int .i64 0, .int .i64 0]) ?_ 10 _ rfl; (with_reducible repeat (first | refine blk_drewN ?_ _ | refine blk_drew ?_ | refine blk_alloc ?_ _)); refine blk_put (cs := #[.int .i64 2, .string (⟨#[]⟩ : ByteArray), .bool false, .string (⟨#[]⟩ : ByteArray), .int .i64 0, .int .i64 0, .int .i64 0, .int .i64 0, .bool false, .bool false, .int .i64 0, .int .i64 0]) ?_ 9 _ rfl; (with_reducible repeat (first | refine blk_drewN ?_ _ | refine blk_drew ?_ | refine blk_alloc ?_ _)); refine blk_put (cs := #[.int .i64 2, .string (⟨#[]⟩ : ByteArray), .bool false, .string (⟨#[]⟩ : ByteArray), .int .i64 0, .int .i64 0, .int .i64 0, .int .i64 0, .bool false, .bool false, .int .i64 0, .int .i64 0]) ?_ 8 _ rfl; (with_reducible repeat (first | refine blk_drewN ?_ _ | refine blk_drew ?_ | refine blk_alloc ?_ _)); refine blk_put (cs := #[.int .i64 2, .string (⟨#[]⟩ : ByteArray), .bool false, .string (⟨#[]⟩ : ByteArray), .int .i64 0, .int .i64 0, .int .i64 0, .int .i64 0, .bool false, .bool false, .int .i64 0, .int .i64 0]) ?_ 7 _ rfl; (with_reducible repeat (first | refine blk_drewN ?_ _ | refine blk_drew ?_ | refine blk_alloc ?_ _)); refine blk_put (cs := #[.int .i64 2, .string (⟨#[]⟩ : ByteArray), .bool false, .string (⟨#[]⟩ : ByteArray), .int .i64 0, .int .i64 0, .int .i64 0, .int .i64 0, .bool false, .bool false, .int .i64 0, .int .i64 0]) ?_ 6 _ rfl; (with_reducible repeat (first | refine blk_drewN ?_ _ | refine blk_drew ?_ | refine blk_alloc ?_ _)); refine blk_put (cs := #[.int .i64 2, .string (⟨#[]⟩ : ByteArray), .bool false, .string (⟨#[]⟩ : ByteArray), .int .i64 0, .int .i64 0, .int .i64 0, .int .i64 0, .bool false, .bool false, .int .i64 0, .int .i64 0]) ?_ 5 _ rfl; (with_reducible repeat (first | refine blk_drewN ?_ _ | refine blk_drew ?_ | refine blk_alloc ?_ _)); refine blk_put (cs := #[.int .i64 2, .string (⟨#[]⟩ : ByteArray), .bool false, .string (⟨#[]⟩ : ByteArray), .int .i64 0, .int .i64 0, .int .i64 0, .int .i64 0, .bool false, .bool false, .int .i64 0, .int .i64 0]) ?_ 4 _ rfl; (with_reducible repeat (first | refine blk_drewN ?_ _ | refine blk_drew ?_ | refine blk_alloc ?_ _)); refine blk_put (cs := #[.int .i64 2, .string (⟨#[]⟩ : ByteArray), .bool false, .string (⟨#[]⟩ : ByteArray), .int .i64 0, .int .i64 0, .int .i64 0, .int .i64 0, .bool false, .bool false, .int .i64 0, .int .i64 0]) ?_ 3 _ rfl; (with_reducible repeat (first | refine blk_drewN ?_ _ | refine blk_drew ?_ | refine blk_alloc ?_ _)); refine blk_put (cs := #[.int .i64 2, .string (⟨#[]⟩ : ByteArray), .bool false, .string (⟨#[]⟩ : ByteArray), .int .i64 0, .int .i64 0, .int .i64 0, .int .i64 0, .bool false, .bool false, .int .i64 0, .int .i64 0]) ?_ 2 _ rfl; (with_reducible repeat (first | refine blk_drewN ?_ _ | refine blk_drew ?_ | refine blk_alloc ?_ _)); refine blk_put (cs := #[.int .i64 2, .string (⟨#[]⟩ : ByteArray), .bool false, .string (⟨#[]⟩ : ByteArray), .int .i64 0, .int .i64 0, .int .i64 0, .int .i64 0, .bool false, .bool false, .int .i64 0, .int .i64 0]) ?_ 1 _ rfl; (with_reducible repeat (first | refine blk_drewN ?_ _ | refine blk_drew ?_ | refine blk_alloc ?_ _)); refine blk_put (cs := #[.int .i64 0, .string (⟨#[]⟩ : ByteArray), .bool false, .string (⟨#[]⟩ : ByteArray), .int .i64 0, .int .i64 0, .int .i64 0, .int .i64 0, .bool false, .bool false, .int .i64 0, .int .i64 0]) ?_ 0 _ rfl; (with_reducible repeat (first | refine blk_drewN ?_ _ | refine blk_drew ?_ | refine blk_alloc ?_ _)); exact BK146.out) Tryz.underlying51 rfl (by kernel_rfl)) rfl ?_
 exact ⟨q5_, (by repeat (first | (with_reducible first | exact HB.out | apply below_alloc | apply pw_below_drewN | apply below_drew1 | refine below_set ?_ GE146.out) | exact HB.out))⟩
end Go.Proofs.YtdhpcofnddkcaaaGreatDoor.S
namespace Go.Proofs.YtdhpcofnddkcaaaGreatDoor.S
open Go.RowKit Go.Proofs.YtdhpcofnddkcaaaGreatDoor.G Go.Proofs.YtdhpcofnddkcaaaGreatDoorW.PrintWords Go.Proofs.YtdhpcofnddkcaaaGreatDoorW.PrintLast Go.Proofs.YtdhpcofnddkcaaaGreatDoorW.PrintMore
attribute [local go_sem] max2_int min2_int max_two min_two max_three min_three max_four min_four
set_option linter.unusedVariables false
set_option linter.unusedSimpArgs false
def polyglotlaw02_digit.f (a0 : Int) : Option (Bool) := if a0 ≥ 48 then (some (decide (a0 ≤ 57))) else (some false)
set_option maxHeartbeats 8000000 in
set_option maxRecDepth 100000 in
theorem polyglotlaw02_digit.calls (a0 : Int) (r : Bool) (w : World) (h : polyglotlaw02_digit.f a0 = some r) :
    Calls Tryz.prog 45 #[.int .u8 a0] w fun e w' => e = .returned (.bool r) ∧ Drawn0 w w' := by
  have H : (if a0 ≥ 48 then (some (decide (a0 ≤ 57))) else (some false)) = some r := h
  clear h
  by_cases c2 : a0 ≥ 48
  · rw [if_pos c2] at H
    have c2b0 : decide (48 ≤ a0) = true := decide_eq_true c2
    clear c2
    obtain rfl := Option.some.inj H
    go_enter Tryz.func45, Tryz.ntmps45
    go_wp2
    go_ret
    exact ⟨by first | rfl | (simp; done) | (simp [*]; done), by repeat (first | exact Drawn0.refl _ | apply Drawn0.step)⟩
  · rw [if_neg c2] at H
    have c2b0 : decide (48 ≤ a0) = false := decide_eq_false c2
    clear c2
    obtain rfl := Option.some.inj H
    go_enter Tryz.func45, Tryz.ntmps45
    go_wp2
    go_ret
    exact ⟨by first | rfl | (simp; done) | (simp [*]; done), by repeat (first | exact Drawn0.refl _ | apply Drawn0.step)⟩
end Go.Proofs.YtdhpcofnddkcaaaGreatDoor.S
