/- What dec.Parse and the law's Parse tell: the same; DecParses' pure statement. -/
import Derived.Test.YtonjkoeacedaiaaDoorSx4
import Derived.Test.YtonjkoeacedaiaaDoorDintpure
import Derived.Test.YtonjkoeacedaiaaDoorDstrip
import Derived.Lib.IndexMore
import Derived.Lib.IndexLaws
namespace Go.Proofs.YtonjkoeacedaiaaDoor.S
open Go.RowKit Go.Proofs.YtonjkoeacedaiaaDoor Go.Proofs.YtonjkoeacedaiaaDoor.G Go.Proofs.YtonjkoeacedaiaaDoor.U Go.Proofs.YtonjkoeacedaiaaDoor.R Go.Proofs.YtonjkoeacedaiaaDoor.PU Go.Proofs.YtonjkoeacedaiaaDoorW.PrintWords
set_option linter.unusedVariables false
set_option linter.unusedSimpArgs false

/-! ### the law's scan -/
def scan : List UInt8 → List UInt8 → Int → Nat → Option (List UInt8 × Int)
  | [], acc, pt, _ => some (acc, pt)
  | c :: t, acc, pt, i => if isDig c = true then scan t (acc ++ [c]) pt (i + 1) else if c = 46 ∧ pt < 0 ∧ 0 < i ∧ t ≠ [] then scan t acc i (i + 1) else none
theorem scan_behind : ∀ (t acc : List UInt8) (pt : Int) (i : Nat), 0 ≤ pt → scan t acc pt i = if digs t = true then some (acc ++ t, pt) else none
  | [], acc, pt, i, h => by simp [scan, digs]
  | c :: t, acc, pt, i, h => by
    unfold scan
    by_cases hc : isDig c = true
    · rw [if_pos hc, scan_behind t _ pt _ h]
      simp [digs, hc]
    · rw [if_neg hc, if_neg (by omega), if_neg (by simp [digs, hc])]
def ahead (R : List UInt8) : List UInt8 := R.takeWhile (· != 46)
def behind (R : List UInt8) : List UInt8 := R.dropWhile (· != 46)
theorem dig_ne {c : UInt8} (h : isDig c = true) : (c != 46) = true := by
  rw [bne_iff_ne]
  rintro rfl
  exact absurd h (by decide)
theorem scan_ahead : ∀ (t acc : List UInt8) (i : Nat), scan t acc (-1) i = match behind t with
    | [] => if digs t = true then some (acc ++ t, -1) else none
    | _ :: P => if digs (ahead t) = true ∧ 0 < i + (ahead t).length ∧ P ≠ [] ∧ digs P = true then some (acc ++ ahead t ++ P, ((i + (ahead t).length : Nat) : Int)) else none
  | [], acc, i => by simp [scan, behind, digs]
  | c :: t, acc, i => by
    unfold scan
    by_cases hc : isDig c = true
    · have h1 : behind (c :: t) = behind t := by unfold behind; rw [List.dropWhile_cons, if_pos (dig_ne hc)]
      have h2 : ahead (c :: t) = c :: ahead t := by unfold ahead; rw [List.takeWhile_cons, if_pos (dig_ne hc)]
      rw [if_pos hc, scan_ahead t, h1, h2]
      cases hb : behind t with
      | nil => simp [digs, hc]
      | cons z P =>
        have e : digs (c :: ahead t) = digs (ahead t) := by simp [digs, hc]
        simp only [e, List.length_cons]
        by_cases hq : digs (ahead t) = true ∧ 0 < i + 1 + (ahead t).length ∧ P ≠ [] ∧ digs P = true
        · rw [if_pos hq, if_pos ⟨hq.1, by omega, hq.2.2⟩]
          simp
          omega
        · rw [if_neg hq, if_neg (fun h => hq ⟨h.1, by omega, h.2.2⟩)]
    · rw [if_neg hc]
      by_cases h46 : c = 46
      · subst h46
        have h1 : behind (46 :: t) = 46 :: t := by unfold behind; rw [List.dropWhile_cons, if_neg (by decide)]
        have h2 : ahead (46 :: t) = [] := by unfold ahead; rw [List.takeWhile_cons, if_neg (by decide)]
        rw [h1, h2]
        by_cases hq : 0 < i ∧ t ≠ []
        · rw [if_pos ⟨rfl, by decide, hq.1, hq.2⟩, scan_behind _ _ _ _ (by omega)]
          by_cases hd : digs t = true
          · rw [if_pos hd]
            show _ = if _ then _ else _
            rw [if_pos ⟨rfl, by simp; exact hq.1, hq.2, hd⟩]
            simp
          · rw [if_neg hd]
            show _ = if _ then _ else _
            rw [if_neg (fun h => hd h.2.2.2)]
        · rw [if_neg (fun h => hq ⟨h.2.2.1, h.2.2.2⟩)]
          show _ = if _ then _ else _
          rw [if_neg (fun h => hq ⟨by simpa using h.2.1, h.2.2.1⟩)]
      · rw [if_neg (fun h => h46 h.1)]
        have hne : (c != 46) = true := by rw [bne_iff_ne]; exact h46
        have h1 : behind (c :: t) = behind t := by unfold behind; rw [List.dropWhile_cons, if_pos hne]
        have h2 : ahead (c :: t) = c :: ahead t := by unfold ahead; rw [List.takeWhile_cons, if_pos hne]
        rw [h1, h2]
        cases hb : behind t with
        | nil => rw [if_neg (by simp [digs, hc])]
        | cons z P =>
          show _ = if _ then _ else _
          rw [if_neg (fun h => hc (by have := h.1; simp [digs] at this; exact this.1))]
/-- The digits and how many stand behind the point. -/
def parseL (R : List UInt8) : Option (List UInt8 × Nat) := match behind R with
  | [] => if R ≠ [] ∧ digs R = true ∧ R.length ≤ 40 then some (R, 0) else none
  | _ :: P => if digs (ahead R) = true ∧ ahead R ≠ [] ∧ P ≠ [] ∧ digs P = true ∧ (ahead R ++ P).length ≤ 40 then some (ahead R ++ P, P.length) else none
def parseV (neg : Bool) (R : List UInt8) : Bool × ByteArray × Int × Bool := match parseL R with
  | none => (false, ⟨#[]⟩, 0, false)
  | some (D, sc) => (neg, ⟨(stripTo (sc + 1) D).toArray⟩, (sc : Int), true)
theorem ahead_behind (R : List UInt8) : R = ahead R ++ behind R := (List.takeWhile_append_dropWhile).symm
theorem behind_head {R P : List UInt8} {z : UInt8} (h : behind R = z :: P) : z = 46 := by
  have := List.head?_dropWhile_not (fun x : UInt8 => x != 46) R
  rw [show R.dropWhile (fun x => x != 46) = z :: P from h] at this
  simpa using this
theorem ahead_not (R : List UInt8) : ∀ c ∈ ahead R, c ≠ 46 := fun c hc => by
  have := List.all_eq_true.1 (List.all_takeWhile (p := fun x : UInt8 => x != 46) (l := R)) c hc
  simpa using this

theorem l1_strip (neg : Bool) (sc : Nat) (hsc : sc ≤ 1000) : ∀ (n : Nat) (D : ByteArray), D.size ≤ n → D.size ≤ 1000 → ∃ k, polyglotlaw02_Parse.l1 k neg D (sc : Int) = some (neg, ⟨(stripTo (sc + 1) (bl D)).toArray⟩, (sc : Int), true) := by
  intro n
  induction n with
  | zero =>
    intro D hn hD
    have h0 : bl D = [] := List.eq_nil_of_length_eq_zero (by rw [← sz]; omega)
    refine ⟨1, ?_⟩
    rw [polyglotlaw02_Parse.l1, w64 _ (by omega) (by omega), if_neg (by omega), h0]
    congr 2
    exact congrArg (fun x => (x, ((sc : Int), true))) (ba_ext (by rw [h0]; rfl))
  | succ n ih =>
    intro D hn hD
    cases hb : bl D with
    | nil =>
      refine ⟨1, ?_⟩
      have hz : D.size = 0 := by rw [sz, hb]; rfl
      rw [polyglotlaw02_Parse.l1, w64 _ (by omega) (by omega), if_neg (by omega)]
      congr 2
      exact congrArg (fun x => (x, ((sc : Int), true))) (ba_ext (by rw [hb]; rfl))
    | cons c t =>
      have hz : D.size = t.length + 1 := by rw [sz, hb]; rfl
      have hb0 : bt D 0 = c.toNat := bt_nat D 0 c (by rw [hb]; rfl)
      have hself : (⟨(c :: t).toArray⟩ : ByteArray) = D := ba_ext (by rw [hb])
      unfold stripTo
      by_cases h1 : sc + 1 < t.length + 1
      · by_cases h2 : c = 48
        · rw [if_pos ⟨h1, h2⟩]
          have e : bl (D.extract 1 D.size) = t := by rw [bl_ext, hb, List.drop_one, List.tail_cons, List.take_of_length_le (by omega)]
          obtain ⟨k, hk⟩ := ih (D.extract 1 D.size) (by rw [sz, e]; omega) (by rw [sz, e]; omega)
          refine ⟨k + 1, ?_⟩
          rw [polyglotlaw02_Parse.l1, w64 _ (by omega) (by omega), if_pos (by omega), if_pos (by omega), hb0, if_pos (by rw [h2]; rfl), if_pos (by omega), hk, e]
        · rw [if_neg (fun h => h2 h.2), hself]
          refine ⟨1, ?_⟩
          rw [polyglotlaw02_Parse.l1, w64 _ (by omega) (by omega), if_pos (by omega), if_pos (by omega), hb0, if_neg (fun h => h2 (UInt8.toNat_inj.1 (by show c.toNat = 48; omega)))]
      · rw [if_neg (fun h => h1 h.1), hself]
        refine ⟨1, ?_⟩
        rw [polyglotlaw02_Parse.l1, w64 _ (by omega) (by omega), if_neg (by omega)]
theorem law_end (R : ByteArray) (hR : R.size ≤ 200) (neg : Bool) (acc : ByteArray) (ha : acc.size ≤ 200) (pt : Int) (h0 : pt = -1 ∨ 0 ≤ pt ∧ pt < R.size) :
    ∃ k, polyglotlaw02_Parse.l0 k R neg acc pt (R.size : Int) = some (if acc.size = 0 ∨ 40 < acc.size then (false, ⟨#[]⟩, 0, false) else (neg, ⟨(stripTo ((if pt < 0 then 0 else (R.size : Int) - 1 - pt).toNat + 1) (bl acc)).toArray⟩, (if pt < 0 then 0 else (R.size : Int) - 1 - pt), true)) := by
  by_cases hz : acc.size = 0
  · refine ⟨2, ?_⟩
    rw [polyglotlaw02_Parse.l0, if_neg (by omega), if_pos (by omega), polyglotlaw02_Parse.j3, if_pos rfl, if_pos (Or.inl hz)]
  · by_cases h40 : 40 < acc.size
    · refine ⟨2, ?_⟩
      rw [polyglotlaw02_Parse.l0, if_neg (by omega), if_neg (by omega), polyglotlaw02_Parse.j3, if_pos (by simp; omega), if_pos (Or.inr h40)]
    · rw [if_neg (by omega)]
      rcases h0 with rfl | ⟨h0, h1⟩
      · obtain ⟨k, hk⟩ := l1_strip neg 0 (by omega) acc.size acc (Nat.le_refl _) (by omega)
        refine ⟨k + 3, ?_⟩
        rw [polyglotlaw02_Parse.l0, if_neg (by omega), if_neg (by omega), polyglotlaw02_Parse.j3, if_neg (by simp; omega), if_neg (by decide), polyglotlaw02_Parse.j4]
        exact hk
      · obtain ⟨sc, hsc⟩ := Int.eq_ofNat_of_zero_le (show 0 ≤ (R.size : Int) - 1 - pt by omega)
        rw [if_neg (by omega), hsc, Int.toNat_natCast]
        obtain ⟨k, hk⟩ := l1_strip neg sc (by omega) acc.size acc (Nat.le_refl _) (by omega)
        refine ⟨k + 3, ?_⟩
        rw [polyglotlaw02_Parse.l0, if_neg (by omega), if_neg (by omega), polyglotlaw02_Parse.j3, if_neg (by simp; omega), if_pos (by omega), polyglotlaw02_Parse.j4, w64 ((R.size : Int) - 1) (by omega) (by omega), w64 _ (by omega) (by omega), hsc]
        exact hk
theorem law_scan (R : ByteArray) (hR : R.size ≤ 200) (neg : Bool) : ∀ (t : List UInt8) (acc : ByteArray) (pt : Int) (i : Nat), bl R = (bl R).take i ++ t → i + t.length = R.size → acc.size ≤ i → (pt = -1 ∨ 0 ≤ pt ∧ pt < i) →
    ∃ k, polyglotlaw02_Parse.l0 k R neg acc pt (i : Int) = some (match scan t (bl acc) pt i with
      | none => (false, ⟨#[]⟩, 0, false)
      | some (a, p) => if a.length = 0 ∨ 40 < a.length then (false, ⟨#[]⟩, 0, false) else (neg, ⟨(stripTo ((if p < 0 then 0 else (R.size : Int) - 1 - p).toNat + 1) a).toArray⟩, (if p < 0 then 0 else (R.size : Int) - 1 - p), true))
  | [], acc, pt, i, hb, hi, ha, hp => by
    have e : i = R.size := by simpa using hi
    subst e
    obtain ⟨k, hk⟩ := law_end R hR neg acc (by omega) pt hp
    refine ⟨k, ?_⟩
    rw [hk]
    unfold scan
    rw [sz acc]
  | c :: t, acc, pt, i, hb, hi, ha, hp => by
    rw [List.length_cons] at hi
    have hil : i < R.size := by omega
    have hc : (bl R)[i]? = some c := by
      rw [hb, List.getElem?_append_right (by rw [List.length_take]; omega), List.length_take, ← sz, Nat.min_eq_left (by omega), Nat.sub_self]
      rfl
    have hdr : (bl R).drop i = c :: t := by
      rw [hb, List.drop_append_of_le_length (by rw [List.length_take, ← sz]; omega), List.drop_eq_nil_of_le (by rw [List.length_take]; omega)]
      rfl
    have htk : bl R = (bl R).take (i + 1) ++ t := by
      have h1 : (bl R).drop (i + 1) = t := by rw [show (bl R).drop (i + 1) = ((bl R).drop i).drop 1 by rw [List.drop_drop], hdr]; rfl
      rw [← h1, List.take_append_drop]
    have hbt := bt_nat R i c hc
    have hw : wrap64 ((i : Int) + 1) = ((i + 1 : Nat) : Int) := by rw [w64 _ (by omega) (by omega)]; simp
    unfold scan
    by_cases hg : isDig c = true
    · rw [if_pos hg]
      have e : bl (R.extract i (i + 1)) = [c] := by rw [bl_ext, hdr]; simp
      obtain ⟨k, hk⟩ := law_scan R hR neg t (acc ++ R.extract i (i + 1)) pt (i + 1) htk (by omega) (by rw [sz_app, sz (R.extract i (i + 1)), e]; simp; omega) (by omega)
      refine ⟨k + 1, ?_⟩
      rw [polyglotlaw02_Parse.l0, if_pos (by omega), if_pos (by omega), hbt, digit_f, Option.bind_some, if_pos hg, hw, if_pos (by omega), if_pos (by omega), Int.toNat_natCast, Int.toNat_natCast, if_pos (by rw [sz (R.extract i (i + 1)), e]; simp; omega), hk, bl_app, e]
    · rw [if_neg hg]
      by_cases hq : c = 46 ∧ pt < 0 ∧ 0 < i ∧ t ≠ []
      · rw [if_pos hq]
        have htl : 0 < t.length := List.length_pos_iff.2 hq.2.2.2
        obtain ⟨k, hk⟩ := law_scan R hR neg t acc (i : Int) (i + 1) htk (by omega) (by omega) (Or.inr ⟨by omega, by omega⟩)
        refine ⟨k + 1, ?_⟩
        rw [polyglotlaw02_Parse.l0, if_pos (by omega), if_pos (by omega), hbt, digit_f, Option.bind_some, if_neg hg, if_pos (by rw [hq.1]; rfl), if_pos hq.2.1, if_pos (by omega), hw, if_pos (by omega), hk]
      · rw [if_neg hq]
        refine ⟨1, ?_⟩
        rw [polyglotlaw02_Parse.l0, if_pos (by omega), if_pos (by omega), hbt, digit_f, Option.bind_some, if_neg hg]
        by_cases h46 : (c.toNat : Int) = 46
        · have hc46 : c = 46 := UInt8.toNat_inj.1 (by show c.toNat = 46; omega)
          rw [if_pos h46]
          by_cases hp0 : pt < 0
          · rw [if_pos hp0]
            by_cases hi0 : 0 < i
            · rw [if_pos (by omega), hw, if_neg]
              intro hlt
              apply hq
              refine ⟨hc46, hp0, hi0, ?_⟩
              rintro rfl
              simp at hi
              omega
            · rw [if_neg (by omega)]
          · rw [if_neg hp0]
        · rw [if_neg h46]
theorem scan_parse (R : ByteArray) (neg : Bool) (hR : R.size ≤ 200) : (match scan (bl R) [] (-1) 0 with
      | none => ((false, ⟨#[]⟩, 0, false) : Bool × ByteArray × Int × Bool)
      | some (a, p) => if a.length = 0 ∨ 40 < a.length then (false, ⟨#[]⟩, 0, false) else (neg, ⟨(stripTo ((if p < 0 then 0 else (R.size : Int) - 1 - p).toNat + 1) a).toArray⟩, (if p < 0 then 0 else (R.size : Int) - 1 - p), true)) = parseV neg (bl R) := by
  rw [scan_ahead]
  unfold parseV parseL
  cases hb : behind (bl R) with
  | nil =>
    by_cases hd : digs (bl R) = true
    · rw [if_pos hd]
      show (if _ then _ else _) = _
      rw [List.nil_append]
      by_cases hq : bl R ≠ [] ∧ digs (bl R) = true ∧ (bl R).length ≤ 40
      · have := List.length_pos_iff.2 hq.1
        rw [if_pos hq, if_neg (by omega)]
        rfl
      · rw [if_neg hq, if_pos]
        by_cases h0 : (bl R).length = 0
        · exact Or.inl h0
        · right
          have h1 : bl R ≠ [] := by intro h; rw [h] at h0; exact h0 rfl
          have : ¬ (bl R).length ≤ 40 := fun h => hq ⟨h1, hd, h⟩
          omega
    · rw [if_neg hd, if_neg (fun h => hd h.2.1)]
  | cons z P =>
    simp only [List.nil_append, Nat.zero_add]
    have hz := behind_head hb
    subst hz
    have hsp := ahead_behind (bl R)
    rw [hb] at hsp
    have hlen : R.size = (ahead (bl R)).length + 1 + P.length := by rw [sz]; conv => lhs; rw [hsp]
                                                                    simp; omega
    by_cases hq : digs (ahead (bl R)) = true ∧ 0 < (ahead (bl R)).length ∧ P ≠ [] ∧ digs P = true
    · rw [if_pos hq]
      have hne : ahead (bl R) ≠ [] := List.length_pos_iff.1 hq.2.1
      have hsc : (R.size : Int) - 1 - ((ahead (bl R)).length : Int) = (P.length : Int) := by omega
      show (if _ then _ else _) = _
      by_cases h40 : (ahead (bl R) ++ P).length ≤ 40
      · rw [if_neg (show ¬ ((ahead (bl R) ++ P).length = 0 ∨ 40 < (ahead (bl R) ++ P).length) by rw [List.length_append] at h40 ⊢; omega), if_neg (show ¬ (((ahead (bl R)).length : Int) < 0) by omega), hsc]
        rw [if_pos (show digs (ahead (bl R)) = true ∧ ahead (bl R) ≠ [] ∧ P ≠ [] ∧ digs P = true ∧ (ahead (bl R) ++ P).length ≤ 40 from ⟨hq.1, hne, hq.2.2.1, hq.2.2.2, h40⟩)]
        rfl
      · rw [if_pos (show (ahead (bl R) ++ P).length = 0 ∨ 40 < (ahead (bl R) ++ P).length from Or.inr (by omega)), if_neg (fun h => h40 h.2.2.2.2)]
    · rw [if_neg hq, if_neg (fun h => hq ⟨h.1, List.length_pos_iff.2 h.2.1, h.2.2.1, h.2.2.2.1⟩)]

/-- The law's Parse. -/
def negOf (s : ByteArray) : Bool := Lib.hasPrefix (bl s) [45]
def restOf (s : ByteArray) : List UInt8 := Lib.trimPrefix (bl s) [45]
theorem lawParse_ok (s : ByteArray) (hs : s.size ≤ 200) : ∃ k, polyglotlaw02_Parse.f k s = some (parseV (negOf s) (restOf s)) := by
  have hfin : ∀ (R : ByteArray) (neg : Bool), R.size ≤ 200 → ∃ k, polyglotlaw02_Parse.j1 k R neg = some (parseV neg (bl R)) := fun R neg hR => by
    obtain ⟨k, hk⟩ := law_scan R hR neg (bl R) ⟨#[]⟩ (-1) 0 (by simp) (by rw [← sz]; omega) (by decide) (Or.inl rfl)
    refine ⟨k + 1, ?_⟩
    rw [polyglotlaw02_Parse.j1, ← scan_parse R neg hR]
    exact hk
  cases hb : bl s with
  | nil =>
    have hz : s.size = 0 := by rw [sz, hb]; rfl
    obtain ⟨k, hk⟩ := hfin s false hs
    refine ⟨k + 1, ?_⟩
    unfold polyglotlaw02_Parse.f
    rw [if_neg (by omega), polyglotlaw02_Parse.j0, if_neg (by decide), hk]
    unfold negOf restOf
    rw [hb]; rfl
  | cons c t =>
    have hz : s.size = t.length + 1 := by rw [sz, hb]; rfl
    have hb0 : bt s 0 = c.toNat := bt_nat s 0 c (by rw [hb]; rfl)
    unfold polyglotlaw02_Parse.f
    by_cases h45 : c = 45
    · have e : bl (s.extract 1 s.size) = t := by rw [bl_ext, hb, List.drop_one, List.tail_cons, List.take_of_length_le (by omega)]
      obtain ⟨k, hk⟩ := hfin (s.extract 1 s.size) true (by rw [sz, e]; omega)
      refine ⟨k + 1, ?_⟩
      rw [if_pos (by omega), if_pos (by omega), hb0, h45]
      rw [show (((45 : UInt8).toNat : Int) == 45) = true from rfl, polyglotlaw02_Parse.j0, if_pos rfl, if_pos (by omega), hk, e]
      unfold negOf restOf
      rw [hb, h45]; rfl
    · have hn : ((c.toNat : Int) == 45) = false := by
        rw [beq_eq_false_iff_ne]
        intro h
        exact h45 (UInt8.toNat_inj.1 (by show c.toNat = 45; omega))
      obtain ⟨k, hk⟩ := hfin s false hs
      refine ⟨k + 1, ?_⟩
      have hp : Lib.hasPrefix (c :: t) [45] = false := by
        show ((45 == c) && List.isPrefixOf [] t) = false
        rw [show ((45 : UInt8) == c) = false by rw [beq_eq_false_iff_ne]; exact fun h => h45 h.symm]; rfl
      rw [if_pos (by omega), if_pos (by omega), hb0, hn, polyglotlaw02_Parse.j0, if_neg (by decide), hk]
      unfold negOf restOf Lib.trimPrefix
      rw [hb, hp]; rfl
end Go.Proofs.YtonjkoeacedaiaaDoor.S
