/- PluralOf's pure statement: the languages. -/
import Derived.Test.YtonjkoeacedaiaaDoorDplofpure
namespace Go.Proofs.YtonjkoeacedaiaaDoor.H
open Go.RowKit Go.Proofs.YtonjkoeacedaiaaDoor Go.Proofs.YtonjkoeacedaiaaDoor.P4 Go.Proofs.YtonjkoeacedaiaaDoorW.PrintWords
set_option linter.unusedVariables false
set_option linter.unusedSimpArgs false

theorem mem_mk (lang : ByteArray) (F : List (List UInt8)) : Lib.containsS (F.map mkB) lang = decide (lang.toList ∈ F) := by
  rw [Bool.eq_iff_iff, Lib.containsS_iff, decide_eq_true_iff, List.mem_map, Lib.toList_data]
  constructor
  · rintro ⟨l, hl, rfl⟩; exact hl
  · intro h; exact ⟨_, h, by cases lang; rfl⟩
theorem pick_eq (lang : ByteArray) (L : List UInt8) (v : Int) (b : Bool) : pick lang (table L v b) =
    if lang.toList ∈ ([[101, 110], [100, 101], [110, 108], [115, 118]] : List (List UInt8)) then enC L v else if lang.toList ∈ ([[102, 114]] : List (List UInt8)) then frC L else if lang.toList ∈ ([[101, 115]] : List (List UInt8)) then esC L b
    else if lang.toList ∈ ([[112, 108]] : List (List UInt8)) then polC L v else if lang.toList ∈ ([[114, 117]] : List (List UInt8)) then rusC L v else if lang.toList ∈ ([[99, 115]] : List (List UInt8)) then czeC L v else if lang.toList ∈ ([[97, 114]] : List (List UInt8)) then araC L b else 0 := by
  have e : table L v b = [([[101, 110], [100, 101], [110, 108], [115, 118]], enC L v), ([[102, 114]], frC L), ([[101, 115]], esC L b), ([[112, 108]], polC L v), ([[114, 117]], rusC L v), ([[99, 115]], czeC L v), ([[97, 114]], araC L b)] := by kernel_rfl
  rw [e]
  simp only [pick, mem_mk, decide_eq_true_iff]
theorem slav_eq {L : List UInt8} {l : Int} {m : Bool} (P : Parts L l m) : slavB L = (decide (l % 10 ≥ 2) && decide (l % 10 ≤ 4) && (decide (l < 12) || decide (l > 14))) := by
  unfold slavB inB
  rw [P.one, P.two, Bool.eq_iff_iff]
  simp
theorem law_of (k : Nat) (lang : ByteArray) (n : Bool) (d : ByteArray) (v : Nat) (L : List UInt8) (l : Int) (m b : Bool) (P : Parts L l m) (hp : polyglotlaw04_parts.f n d v = some (l, m, b)) :
    polyglotlaw04_Of.f (k + 10) lang n d v = some (pick lang (table L v b)) := by
  have hs := slav_eq P
  obtain ⟨s, hsl⟩ : ∃ s, slavB L = s := ⟨_, rfl⟩
  have lo := P.lo
  have hi := P.hi
  have tm : Int.tmod l 10 = l % 10 := Int.tmod_eq_emod_of_nonneg lo
  have hx : polyglotlaw04_Of.f (k + 10) lang n d v = polyglotlaw04_Of.j0 (k + 10) lang l m b v s := by
    unfold polyglotlaw04_Of.f
    rw [hp, Option.bind_some, ← hsl, hs]
    dsimp only
    rw [tm]
    by_cases h1 : l % 10 ≥ 2
    · rw [if_pos h1]
      by_cases h2 : l % 10 ≤ 4
      · rw [if_pos h2]
        by_cases h3 : l < 12
        · rw [if_pos h3]; simp [h1, h2, h3]
        · rw [if_neg h3]; simp [h1, h2, h3]
      · rw [if_neg h2]; simp [h2]
    · rw [if_neg h1]; simp [h1]
  rw [hx, pick_eq]
  clear hx hp hs
  have hv : (0 : Int) ≤ v := by omega
  generalize (v : Int) = u at *
  unfold enC frC esC polC rusC czeC araC inB
  have f4 := P.few
  unfold inB at f4
  rw [hsl, P.none, P.is1, P.is2, f4, P.one, P.two]
  clear f4 hsl
  have hu : u = 0 ∨ 0 < u := by omega
  by_cases e : lang.toList = [101, 110]
  · simp [polyglotlaw04_Of.j0, polyglotlaw04_Of.j1, e]
    cases m <;> by_cases g0 : u = 0 <;> by_cases g1 : l = 1 <;> simp [g0, g1]
  have e101110 := Lib.hid e; clear e
  by_cases e : lang.toList = [100, 101]
  · simp [polyglotlaw04_Of.j0, polyglotlaw04_Of.j1, e]
    cases m <;> by_cases g0 : u = 0 <;> by_cases g1 : l = 1 <;> simp [g0, g1]
  have e100101 := Lib.hid e; clear e
  by_cases e : lang.toList = [110, 108]
  · simp [polyglotlaw04_Of.j0, polyglotlaw04_Of.j1, e]
    cases m <;> by_cases g0 : u = 0 <;> by_cases g1 : l = 1 <;> simp [g0, g1]
  have e110108 := Lib.hid e; clear e
  by_cases e : lang.toList = [115, 118]
  · simp [polyglotlaw04_Of.j0, polyglotlaw04_Of.j1, e]
    cases m <;> by_cases g0 : u = 0 <;> by_cases g1 : l = 1 <;> simp [g0, g1]
  have e115118 := Lib.hid e; clear e
  by_cases e : lang.toList = [102, 114]
  · simp [polyglotlaw04_Of.j0, polyglotlaw04_Of.j1, e]
    rcases (show l = 0 ∨ l = 1 ∨ 1 < l by omega) with rfl | rfl | h
    · cases m <;> simp
    · cases m <;> simp
    · cases m <;> simp [show ¬ l ≤ 1 by omega, show l ≠ 0 by omega, show l ≠ 1 by omega]
  have e102 := Lib.hid e; clear e
  by_cases e : lang.toList = [101, 115]
  · simp [polyglotlaw04_Of.j0, polyglotlaw04_Of.j1, e]
    cases m <;> cases b <;> by_cases g1 : l = 1 <;> simp [g1]
  have e101 := Lib.hid e; clear e
  by_cases e : lang.toList = [112, 108]
  · simp [polyglotlaw04_Of.j0, polyglotlaw04_Of.j1, polyglotlaw04_Of.j2, polyglotlaw04_Of.j3, e]
    rcases hu with rfl | hu
    · cases m <;> cases s <;> by_cases g1 : l = 1 <;> simp [g1]
    · simp [hu, show u ≠ 0 by omega]
  have e112 := Lib.hid e; clear e
  by_cases e : lang.toList = [114, 117]
  · simp [polyglotlaw04_Of.j0, polyglotlaw04_Of.j1, polyglotlaw04_Of.j2, polyglotlaw04_Of.j3, e, tm]
    rcases hu with rfl | hu
    · cases m <;> cases s <;> by_cases g1 : l % 10 = 1 <;> by_cases g2 : l = 11 <;> simp [g1, g2]
    · simp [hu, show u ≠ 0 by omega]
  have e114 := Lib.hid e; clear e
  by_cases e : lang.toList = [99, 115]
  · simp [polyglotlaw04_Of.j0, polyglotlaw04_Of.j1, polyglotlaw04_Of.j2, polyglotlaw04_Of.j4, e]
    rcases hu with rfl | hu
    · cases m <;> by_cases g1 : l = 1 <;> by_cases g2 : 2 ≤ l <;> by_cases g3 : l ≤ 4 <;> simp [g1, g2, g3]
    · simp [hu, show u ≠ 0 by omega]
  have e99 := Lib.hid e; clear e
  by_cases e : lang.toList = [97, 114]
  · simp [polyglotlaw04_Of.j0, polyglotlaw04_Of.j1, polyglotlaw04_Of.j2, e]
    cases b with
    | false => simp
    | true =>
      cases m with
      | true =>
        simp [polyglotlaw04_Of.j5, polyglotlaw04_Of.j6]
        by_cases g1 : 3 ≤ l <;> by_cases g2 : l ≤ 10 <;> by_cases g3 : 11 ≤ l <;> simp [g1, g2, g3, hi] <;> omega
      | false =>
        rcases (show l = 0 ∨ l = 1 ∨ l = 2 ∨ 2 < l by omega) with rfl | rfl | rfl | h
        · rfl
        · rfl
        · rfl
        · simp [polyglotlaw04_Of.j5, polyglotlaw04_Of.j6, show ¬ l ≤ 2 by omega, show l ≠ 0 by omega, show l ≠ 1 by omega, show l ≠ 2 by omega, show 3 ≤ l by omega]
          by_cases g2 : l ≤ 10 <;> by_cases g3 : 11 ≤ l <;> simp [g2, g3, hi] <;> omega
  simp [polyglotlaw04_Of.j0, polyglotlaw04_Of.j1, polyglotlaw04_Of.j2, e101110.out, e100101.out, e110108.out, e115118.out, e102.out, e101.out, e112.out, e114.out, e99.out, e]
theorem law_rank (k : Nat) (lang : ByteArray) (n : Bool) (d : ByteArray) (v : Nat) (L : List UInt8) (l : Int) (m b : Bool) (P : Parts L l m) (hp : polyglotlaw04_parts.f n d v = some (l, m, b)) :
    polyglotlaw04_Rank.f (k + 10) lang n d v = some (rankC lang L b) := by
  have lo := P.lo
  have hi := P.hi
  have tm : Int.tmod l 10 = l % 10 := Int.tmod_eq_emod_of_nonneg lo
  unfold polyglotlaw04_Rank.f
  rw [hp, Option.bind_some]
  unfold rankC inB
  rw [P.is1, P.one, P.two]
  by_cases e1 : lang.toList = [102, 114]
  · simp [polyglotlaw04_Rank.j0, polyglotlaw04_Rank.j1, e1]
    cases b <;> cases m <;> by_cases g1 : l = 1 <;> simp [g1]
  · by_cases e2 : lang.toList = [101, 110]
    · simp [polyglotlaw04_Rank.j0, polyglotlaw04_Rank.j1, e2, tm]
      cases b with
      | false => simp
      | true =>
        by_cases g1 : 11 ≤ l <;> by_cases g2 : l ≤ 13 <;> simp [g1, g2, rankT]
        all_goals
          by_cases r1 : l % 10 = 1 <;> by_cases r2 : l % 10 = 2 <;> by_cases r3 : l % 10 = 3 <;> simp [r1, r2, r3]
    · simp [polyglotlaw04_Rank.j0, polyglotlaw04_Rank.j1, e1, e2]
theorem pluralOf_pure (lang : ByteArray) (n : Bool) (d : ByteArray) (v : Int) (h0 : -9223372036854775808 ≤ v) (h1 : v ≤ 9223372036854775807) (hs : d.size ≤ 4611686018427387904) : ∃ k, polyglotlaw04_PluralOf.f k lang n d v = some true := by
  refine ⟨10, ?_⟩
  unfold polyglotlaw04_PluralOf.f
  rw [show polyglotlaw04_head.f = some true from rfl, Option.bind_some, if_pos rfl]
  have hR : polyglotlaw02_Right.f n d v = some (rightC d v) := by
    unfold polyglotlaw02_Right.f
    rw [if_pos ⟨h0, h1, hs⟩]
  rw [hR, Option.bind_some]
  by_cases hr : rightC d v = true
  · rw [if_pos hr]
    unfold rightC at hr
    by_cases hc : v < 0 ∨ (d.size : Int) ≤ v ∨ 60 < d.size
    · rw [if_pos hc] at hr; cases hr
    · rw [if_neg hc, Bool.and_eq_true] at hr
      obtain ⟨k, rfl⟩ := Int.eq_ofNat_of_zero_le (show 0 ≤ v by omega)
      have hl : d.data.toList.length = d.size := (Lib.size_eq d).symm
      have hd : ∀ c ∈ d.data.toList, 48 ≤ c.toNat ∧ c.toNat ≤ 57 := fun c hc => by
        have := List.all_eq_true.1 hr.1 c hc
        have h2 : (48 : Int) ≤ c.toNat ∧ (c.toNat : Int) ≤ 57 := by simpa [digB] using this
        omega
      have hall : (d.data.toList.all fun c => decide (48 ≤ c.toNat) && decide (c.toNat ≤ 57)) = true := List.all_eq_true.2 fun c hc => by simpa using hd c hc
      have hD : digOk d k = true := by
        unfold digOk
        rw [hall]
        simp
        omega
      have hF : fixOk d k = true := by
        unfold fixOk
        rw [hall]
        simp
        omega
      obtain ⟨P, hw⟩ := parts_ok d.data.toList k (by omega) (by omega) hd
      rw [hl] at P hw
      have hp : polyglotlaw04_parts.f n d k = some (10 * fixD d.data.toList (d.size - k) d.size 98 + fixD d.data.toList (d.size - k) d.size 99, moreB (fixD d.data.toList (d.size - k) d.size) 200, wholeB (fixD d.data.toList (d.size - k) d.size) 200) := by
        unfold polyglotlaw04_parts.f
        rw [if_pos hF, Int.toNat_natCast]
      have o1 : plural_Of.f lang n d k = some (ofC lang d k) := by
        unfold plural_Of.f
        rw [if_pos hD, Int.toNat_natCast]
      have o2 : plural_Rank.f lang n d k = some (rkC lang d k) := by
        unfold plural_Rank.f
        rw [if_pos hD, Int.toNat_natCast]
      have l1 := law_of 0 lang n d k _ _ _ _ P hp
      have l2 := law_rank 0 lang n d k _ _ _ _ P hp
      rw [Nat.zero_add] at l1 l2
      rw [hw] at l1 l2
      rw [o1, Option.bind_some, l1, Option.bind_some, o2, l2]
      show (if ofC lang d k = ofC lang d k then some (rkC lang d k == rkC lang d k) else some false) = some true
      rw [if_pos rfl, beq_self_eq_true]
  · rw [if_neg hr]
theorem pluralOf_walk (lang : ByteArray) (n : Bool) (d : ByteArray) (v : Int) (w : World) (h0 : -9223372036854775808 ≤ v) (h1 : v ≤ 9223372036854775807) (hs : d.size ≤ 4611686018427387904) (hT : Asc w) :
    Calls Tryd.prog 3 #[.string lang, .agg #[.bool n, .string d, .int .i64 v]] w fun e w' => e = .returned (.bool true) ∧ Below w.heap.size w w' := by
  obtain ⟨k, hk⟩ := pluralOf_pure lang n d v h0 h1 hs
  exact polyglotlaw04_PluralOf.calls k lang n d v true w hk hT
end Go.Proofs.YtonjkoeacedaiaaDoor.H
