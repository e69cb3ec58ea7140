-- PRINTED by print.py (a twelfth state) out of the translation. Not trusted: Lean checks it.
import Derived.Test.YtaijjabbkmdcdaaDoorQx0
namespace Go.Proofs.YtaijjabbkmdcdaaDoor.Q
open Go.RowKit Go.Proofs.YtaijjabbkmdcdaaDoor.G Go.Proofs.YtaijjabbkmdcdaaDoorW.PrintWords Go.Proofs.YtaijjabbkmdcdaaDoorW.PrintLast Go.Proofs.YtaijjabbkmdcdaaDoorW.PrintMore
attribute [local go_sem] max2_int min2_int max_two min_two max_three min_three max_four min_four   -- for this text's walks alone
set_option linter.unusedVariables false
set_option linter.unusedSimpArgs false

/-! ### polyglotlaw01_TextQuotes: function 5 -/
mutual
def polyglotlaw01_TextQuotes.j0 : Nat → ByteArray → ByteArray → Bool → Option (Bool)
  | 0, _, _, _ => none
  | k + 1, x0, x1, x25 => if x25 = true then (some true) else ((polyglotlaw01_Signs.f x0).bind fun bt102 => ((polyglotlaw01_Signs.f x1).bind fun bt106 => (if bt102.2 = true then (polyglotlaw01_TextQuotes.j1 k x0 x1 bt102.1 (!bt106.2)) else (polyglotlaw01_TextQuotes.j1 k x0 x1 bt102.1 true))))
def polyglotlaw01_TextQuotes.j1 : Nat → ByteArray → ByteArray → List ByteArray → Bool → Option (Bool)
  | 0, _, _, _, _ => none
  | k + 1, x0, x1, x5, x41 => if x41 = true then (some true) else (polyglotlaw01_TextQuotes.l0 k x0 x1 (⟨#[34]⟩ : ByteArray) x5 (x5.length : Int) 0)
def polyglotlaw01_TextQuotes.l0 : Nat → ByteArray → ByteArray → ByteArray → List ByteArray → Int → Int → Option (Bool)
  | 0, _, _, _, _, _, _ => none
  | k + 1, x0, x1, x9, x42, x43, x44 => if x44 < x43 then (if 0 ≤ x44 then (if x44 < (x42.length : Int) then (if (rdOf ByteArray.empty x42 x44).toList = ([34] : List UInt8) then (polyglotlaw01_TextQuotes.j3 k x0 x1 x9 (rdOf ByteArray.empty x42 x44) x42 x43 x44 true) else (polyglotlaw01_TextQuotes.j3 k x0 x1 x9 (rdOf ByteArray.empty x42 x44) x42 x43 x44 ((rdOf ByteArray.empty x42 x44).toList == ([92] : List UInt8)))) else (none)) else (none)) else ((text_Quote.f x0).bind fun t110 => (if t110.size + x1.size ≤ 9223372036854775807 then ((text_Unquote.f (t110 ++ x1)).bind fun bt111 => (if x9.size + 1 ≤ 9223372036854775807 then (if t110.toList = (x9 ++ (⟨#[34]⟩ : ByteArray)).toList then (if bt111.2.2 = true then (if bt111.1.toList = x0.toList then (some (bt111.2.1 == (t110.size : Int))) else (some false)) else (some false)) else (some false)) else (none))) else (none)))
def polyglotlaw01_TextQuotes.j3 : Nat → ByteArray → ByteArray → ByteArray → ByteArray → List ByteArray → Int → Int → Bool → Option (Bool)
  | 0, _, _, _, _, _, _, _, _ => none
  | k + 1, x0, x1, x9, x11, x42, x43, x44, x48 => if x48 = true then (if 1 + x11.size ≤ 9223372036854775807 then (if x9.size + ((⟨#[92]⟩ : ByteArray) ++ x11).size ≤ 9223372036854775807 then (polyglotlaw01_TextQuotes.l0 k x0 x1 (x9 ++ ((⟨#[92]⟩ : ByteArray) ++ x11)) x42 x43 (wrap64 (x44 + 1))) else (none)) else (none)) else (if (Op.bytesLess x11.toList ([32] : List UInt8)) = true then ((some (([(⟨#[48]⟩ : ByteArray), (⟨#[49]⟩ : ByteArray), (⟨#[50]⟩ : ByteArray), (⟨#[51]⟩ : ByteArray), (⟨#[52]⟩ : ByteArray), (⟨#[53]⟩ : ByteArray), (⟨#[54]⟩ : ByteArray), (⟨#[55]⟩ : ByteArray)] : List ByteArray) : List ByteArray)).bind fun y115 => (if 0 < (x11.size : Int) then (if 0 ≤ (wrap64 (Int.tdiv (wrap64 (bt x11 0)) 16)) then (if (wrap64 (Int.tdiv (wrap64 (bt x11 0)) 16)) < (y115.length : Int) then (if 4 + (rdOf ByteArray.empty y115 (wrap64 (Int.tdiv (wrap64 (bt x11 0)) 16))).size ≤ 9223372036854775807 then ((some (([(⟨#[48]⟩ : ByteArray), (⟨#[49]⟩ : ByteArray), (⟨#[50]⟩ : ByteArray), (⟨#[51]⟩ : ByteArray), (⟨#[52]⟩ : ByteArray), (⟨#[53]⟩ : ByteArray), (⟨#[54]⟩ : ByteArray), (⟨#[55]⟩ : ByteArray), (⟨#[56]⟩ : ByteArray), (⟨#[57]⟩ : ByteArray), (⟨#[65]⟩ : ByteArray), (⟨#[66]⟩ : ByteArray), (⟨#[67]⟩ : ByteArray), (⟨#[68]⟩ : ByteArray), (⟨#[69]⟩ : ByteArray), (⟨#[70]⟩ : ByteArray)] : List ByteArray) : List ByteArray)).bind fun y119 => (if 0 ≤ (Int.tmod (wrap64 (bt x11 0)) 16) then (if (Int.tmod (wrap64 (bt x11 0)) 16) < (y119.length : Int) then (if ((⟨#[92, 117, 48, 48]⟩ : ByteArray) ++ (rdOf ByteArray.empty y115 (wrap64 (Int.tdiv (wrap64 (bt x11 0)) 16)))).size + (rdOf ByteArray.empty y119 (Int.tmod (wrap64 (bt x11 0)) 16)).size ≤ 9223372036854775807 then (if x9.size + (((⟨#[92, 117, 48, 48]⟩ : ByteArray) ++ (rdOf ByteArray.empty y115 (wrap64 (Int.tdiv (wrap64 (bt x11 0)) 16)))) ++ (rdOf ByteArray.empty y119 (Int.tmod (wrap64 (bt x11 0)) 16))).size ≤ 9223372036854775807 then (polyglotlaw01_TextQuotes.l0 k x0 x1 (x9 ++ (((⟨#[92, 117, 48, 48]⟩ : ByteArray) ++ (rdOf ByteArray.empty y115 (wrap64 (Int.tdiv (wrap64 (bt x11 0)) 16)))) ++ (rdOf ByteArray.empty y119 (Int.tmod (wrap64 (bt x11 0)) 16)))) x42 x43 (wrap64 (x44 + 1))) else (none)) else (none)) else (none)) else (none))) else (none)) else (none)) else (none)) else (none))) else (if x11.toList = ([127] : List UInt8) then ((some (([(⟨#[48]⟩ : ByteArray), (⟨#[49]⟩ : ByteArray), (⟨#[50]⟩ : ByteArray), (⟨#[51]⟩ : ByteArray), (⟨#[52]⟩ : ByteArray), (⟨#[53]⟩ : ByteArray), (⟨#[54]⟩ : ByteArray), (⟨#[55]⟩ : ByteArray)] : List ByteArray) : List ByteArray)).bind fun y123 => (if 0 < (x11.size : Int) then (if 0 ≤ (wrap64 (Int.tdiv (wrap64 (bt x11 0)) 16)) then (if (wrap64 (Int.tdiv (wrap64 (bt x11 0)) 16)) < (y123.length : Int) then (if 4 + (rdOf ByteArray.empty y123 (wrap64 (Int.tdiv (wrap64 (bt x11 0)) 16))).size ≤ 9223372036854775807 then ((some (([(⟨#[48]⟩ : ByteArray), (⟨#[49]⟩ : ByteArray), (⟨#[50]⟩ : ByteArray), (⟨#[51]⟩ : ByteArray), (⟨#[52]⟩ : ByteArray), (⟨#[53]⟩ : ByteArray), (⟨#[54]⟩ : ByteArray), (⟨#[55]⟩ : ByteArray), (⟨#[56]⟩ : ByteArray), (⟨#[57]⟩ : ByteArray), (⟨#[65]⟩ : ByteArray), (⟨#[66]⟩ : ByteArray), (⟨#[67]⟩ : ByteArray), (⟨#[68]⟩ : ByteArray), (⟨#[69]⟩ : ByteArray), (⟨#[70]⟩ : ByteArray)] : List ByteArray) : List ByteArray)).bind fun y127 => (if 0 ≤ (Int.tmod (wrap64 (bt x11 0)) 16) then (if (Int.tmod (wrap64 (bt x11 0)) 16) < (y127.length : Int) then (if ((⟨#[92, 117, 48, 48]⟩ : ByteArray) ++ (rdOf ByteArray.empty y123 (wrap64 (Int.tdiv (wrap64 (bt x11 0)) 16)))).size + (rdOf ByteArray.empty y127 (Int.tmod (wrap64 (bt x11 0)) 16)).size ≤ 9223372036854775807 then (if x9.size + (((⟨#[92, 117, 48, 48]⟩ : ByteArray) ++ (rdOf ByteArray.empty y123 (wrap64 (Int.tdiv (wrap64 (bt x11 0)) 16)))) ++ (rdOf ByteArray.empty y127 (Int.tmod (wrap64 (bt x11 0)) 16))).size ≤ 9223372036854775807 then (polyglotlaw01_TextQuotes.l0 k x0 x1 (x9 ++ (((⟨#[92, 117, 48, 48]⟩ : ByteArray) ++ (rdOf ByteArray.empty y123 (wrap64 (Int.tdiv (wrap64 (bt x11 0)) 16)))) ++ (rdOf ByteArray.empty y127 (Int.tmod (wrap64 (bt x11 0)) 16)))) x42 x43 (wrap64 (x44 + 1))) else (none)) else (none)) else (none)) else (none))) else (none)) else (none)) else (none)) else (none))) else (if x9.size + x11.size ≤ 9223372036854775807 then (polyglotlaw01_TextQuotes.l0 k x0 x1 (x9 ++ x11) x42 x43 (wrap64 (x44 + 1))) else (none))))
end
def polyglotlaw01_TextQuotes.f (k : Nat) (a0 : ByteArray) (a1 : ByteArray) : Option (Bool) := (polyglotlaw01_head.f).bind fun t101 => (if t101 = true then (if (a0.size : Int) > 300 then (polyglotlaw01_TextQuotes.j0 k a0 a1 true) else (polyglotlaw01_TextQuotes.j0 k a0 a1 (decide ((a1.size : Int) > 300)))) else (some false))
theorem polyglotlaw01_TextQuotes.mono_l : ∀ k, (∀ y0 y1 y2, LeO (polyglotlaw01_TextQuotes.j0 k y0 y1 y2) (polyglotlaw01_TextQuotes.j0 (k + 1) y0 y1 y2)) ∧ (∀ y0 y1 y2 y3, LeO (polyglotlaw01_TextQuotes.j1 k y0 y1 y2 y3) (polyglotlaw01_TextQuotes.j1 (k + 1) y0 y1 y2 y3)) ∧ (∀ y0 y1 y2 y3 y4 y5, LeO (polyglotlaw01_TextQuotes.l0 k y0 y1 y2 y3 y4 y5) (polyglotlaw01_TextQuotes.l0 (k + 1) y0 y1 y2 y3 y4 y5)) ∧ (∀ y0 y1 y2 y3 y4 y5 y6 y7, LeO (polyglotlaw01_TextQuotes.j3 k y0 y1 y2 y3 y4 y5 y6 y7) (polyglotlaw01_TextQuotes.j3 (k + 1) y0 y1 y2 y3 y4 y5 y6 y7))
  | 0 => ⟨fun _ _ _ r h => by simp [polyglotlaw01_TextQuotes.j0] at h, fun _ _ _ _ r h => by simp [polyglotlaw01_TextQuotes.j1] at h, fun _ _ _ _ _ _ r h => by simp [polyglotlaw01_TextQuotes.l0] at h, fun _ _ _ _ _ _ _ _ r h => by simp [polyglotlaw01_TextQuotes.j3] at h⟩
  | k + 1 => by
    obtain ⟨ih0, ih1, ih2, ih3⟩ := polyglotlaw01_TextQuotes.mono_l k
    refine ⟨?_, ?_, ?_, ?_⟩
    · intro y0 y1 y2
      unfold polyglotlaw01_TextQuotes.j0
      repeat' first
      | (with_reducible exact ih0 _ _ _)
      | (with_reducible exact ih1 _ _ _ _)
      | (with_reducible exact ih2 _ _ _ _ _ _)
      | (with_reducible exact ih3 _ _ _ _ _ _ _ _)
      | (with_reducible exact LeO.refl _)
      | (with_reducible exact LeO.none _)
      | (with_reducible refine LeO.ite ?_ ?_)
      | (with_reducible refine LeO.bind ?_ (fun _ => ?_))
      | exact ih0 _ _ _
      | exact ih1 _ _ _ _
      | exact ih2 _ _ _ _ _ _
      | exact ih3 _ _ _ _ _ _ _ _
      | exact LeO.none _
      | refine LeO.ite ?_ ?_
      | refine LeO.bind ?_ (fun _ => ?_)
    · intro y0 y1 y2 y3
      unfold polyglotlaw01_TextQuotes.j1
      repeat' first
      | (with_reducible exact ih0 _ _ _)
      | (with_reducible exact ih1 _ _ _ _)
      | (with_reducible exact ih2 _ _ _ _ _ _)
      | (with_reducible exact ih3 _ _ _ _ _ _ _ _)
      | (with_reducible exact LeO.refl _)
      | (with_reducible exact LeO.none _)
      | (with_reducible refine LeO.ite ?_ ?_)
      | (with_reducible refine LeO.bind ?_ (fun _ => ?_))
      | exact ih0 _ _ _
      | exact ih1 _ _ _ _
      | exact ih2 _ _ _ _ _ _
      | exact ih3 _ _ _ _ _ _ _ _
      | exact LeO.none _
      | refine LeO.ite ?_ ?_
      | refine LeO.bind ?_ (fun _ => ?_)
    · intro y0 y1 y2 y3 y4 y5
      unfold polyglotlaw01_TextQuotes.l0
      repeat' first
      | (with_reducible exact ih0 _ _ _)
      | (with_reducible exact ih1 _ _ _ _)
      | (with_reducible exact ih2 _ _ _ _ _ _)
      | (with_reducible exact ih3 _ _ _ _ _ _ _ _)
      | (with_reducible exact LeO.refl _)
      | (with_reducible exact LeO.none _)
      | (with_reducible refine LeO.ite ?_ ?_)
      | (with_reducible refine LeO.bind ?_ (fun _ => ?_))
      | exact ih0 _ _ _
      | exact ih1 _ _ _ _
      | exact ih2 _ _ _ _ _ _
      | exact ih3 _ _ _ _ _ _ _ _
      | exact LeO.none _
      | refine LeO.ite ?_ ?_
      | refine LeO.bind ?_ (fun _ => ?_)
    · intro y0 y1 y2 y3 y4 y5 y6 y7
      unfold polyglotlaw01_TextQuotes.j3
      repeat' first
      | (with_reducible exact ih0 _ _ _)
      | (with_reducible exact ih1 _ _ _ _)
      | (with_reducible exact ih2 _ _ _ _ _ _)
      | (with_reducible exact ih3 _ _ _ _ _ _ _ _)
      | (with_reducible exact LeO.refl _)
      | (with_reducible exact LeO.none _)
      | (with_reducible refine LeO.ite ?_ ?_)
      | (with_reducible refine LeO.bind ?_ (fun _ => ?_))
      | exact ih0 _ _ _
      | exact ih1 _ _ _ _
      | exact ih2 _ _ _ _ _ _
      | exact ih3 _ _ _ _ _ _ _ _
      | exact LeO.none _
      | refine LeO.ite ?_ ?_
      | refine LeO.bind ?_ (fun _ => ?_)
theorem polyglotlaw01_TextQuotes.mono : ∀ a0 a1 k, LeO (polyglotlaw01_TextQuotes.f k a0 a1) (polyglotlaw01_TextQuotes.f (k + 1) a0 a1) := by
  intro a0 a1 k
  obtain ⟨ih0, ih1, ih2, ih3⟩ := polyglotlaw01_TextQuotes.mono_l k
  unfold polyglotlaw01_TextQuotes.f
  repeat' first
      | (with_reducible exact ih0 _ _ _)
      | (with_reducible exact ih1 _ _ _ _)
      | (with_reducible exact ih2 _ _ _ _ _ _)
      | (with_reducible exact ih3 _ _ _ _ _ _ _ _)
      | (with_reducible exact LeO.refl _)
      | (with_reducible exact LeO.none _)
      | (with_reducible refine LeO.ite ?_ ?_)
      | (with_reducible refine LeO.bind ?_ (fun _ => ?_))
      | exact ih0 _ _ _
      | exact ih1 _ _ _ _
      | exact ih2 _ _ _ _ _ _
      | exact ih3 _ _ _ _ _ _ _ _
      | exact LeO.none _
      | refine LeO.ite ?_ ?_
      | refine LeO.bind ?_ (fun _ => ?_)
def polyglotlaw01_TextQuotes.T16 : Bool × List (List Nat × List Nat) := (true, [([], []), ([], []), ([1], [1]), ([2], [2]), ([3], [3]), ([0, 4], [0, 4]), ([5], [5]), ([6], [6]), ([], []), ([], []), ([9], [9]), ([10], [10]), ([11], [11]), ([8, 12], [8, 12]), ([13], [13]), ([7, 14], [7, 14]), ([15, 0, 1, 2, 3, 4, 5, 6, 7, 8, 9, 10, 11, 12, 13, 14, 15], [1, 9, 15])])
def polyglotlaw01_TextQuotes.B16 : List Nat := [0, 0, 2, 6, 14, 31, 63, 127, 0, 0, 512, 1536, 3584, 7936, 16128, 32767, 65535]
theorem polyglotlaw01_TextQuotes.tab16 : rtab .any (opsOf Tryd.f5 16) = polyglotlaw01_TextQuotes.T16 := by kernel_rfl
theorem polyglotlaw01_TextQuotes.bits16 : waitsOk polyglotlaw01_TextQuotes.T16.2 polyglotlaw01_TextQuotes.B16 = true := by kernel_rfl
set_option maxHeartbeats 8000000 in
set_option maxRecDepth 100000 in
theorem polyglotlaw01_TextQuotes.calls (k : Nat) (a0 : ByteArray) (a1 : ByteArray) (r : Bool) (w : World) (h : polyglotlaw01_TextQuotes.f k a0 a1 = some r) (HT0_ : Tab_ w := by exact Tab_.step HT0_ (by repeat (first | (with_reducible first | exact HB.out | apply below_alloc | apply pw_below_drewN | apply below_drew1) | exact HB.out))) :
    Calls Tryd.prog 5 #[.string a0, .string a1] w fun e w' => e = .returned (.bool r) ∧ Below w.heap.size w w' := by
  have HB := Aside0.mk (Below.refl w.heap.size w)
  have H : ((polyglotlaw01_head.f).bind fun t101 => (if t101 = true then (if (a0.size : Int) > 300 then (polyglotlaw01_TextQuotes.j0 k a0 a1 true) else (polyglotlaw01_TextQuotes.j0 k a0 a1 (decide ((a1.size : Int) > 300)))) else (some false))) = some r := h
  clear h
  replace H := Option.bind_eq_some_iff.mp H
  obtain ⟨t101, A30, H⟩ := H
  replace H : (if t101 = true then (if (a0.size : Int) > 300 then (polyglotlaw01_TextQuotes.j0 k a0 a1 true) else (polyglotlaw01_TextQuotes.j0 k a0 a1 (decide ((a1.size : Int) > 300)))) else (some false)) = some r := H
  have A3 := Aside0.mk A30
  clear A30
  by_cases c4 : t101 = true
  · subst c4
    have H1 : (if (a0.size : Int) > 300 then (polyglotlaw01_TextQuotes.j0 k a0 a1 true) else (polyglotlaw01_TextQuotes.j0 k a0 a1 (decide ((a1.size : Int) > 300)))) = some r := by rw [if_pos rfl] at H; exact H
    clear H
    have H := H1
    clear H1
    have HC5 := Aside0.mk H
    clear H
    go_enter Tryd.func5, Tryd.ntmps5
    go_upto_region 3 with (first | ((with_reducible refine gate_callee (f := 8) rfl ?_); refine goesL_ (some 16) rfl rfl Tryd.func8 (by kernel_rfl) rfl #[] rfl (by (try simp only [List.map_toArray, List.map_cons, List.map_nil]); first | done | rfl | (simp only [List.length_drop, List.length_take]; rfl)) ?_; (with_reducible refine (polyglotlaw01_head.calls  true _ A3.out).mono ?_); rintro e w6 ⟨rfl, hb⟩; refine ⟨_, rfl, ?_⟩; have n0_ := Aside0.mk (below_step (by repeat (first | (with_reducible first | exact HB.out | apply below_alloc | apply pw_below_drewN | apply below_drew1) | exact HB.out)) hb); clear HB; have HB := n0_; clear n0_; (try clear hb); (try clear hb2); (try clear hk); (try clear hi)))
    (try simp only [Act.put, List.setIfInBounds_toArray, List.set_cons_zero, List.set_cons_succ])
    go_cut [25] (fun v25 wc => ∃ (kq : Nat) (x25_4 : Bool), v25 = .bool x25_4 ∧ Aside0 (polyglotlaw01_TextQuotes.j0 kq a0 a1 x25_4 = some r) ∧ Aside0 (kq ≤ k) ∧ Aside0 (Below w.heap.size w wc))
    case first =>
      have H := HC5.out
      clear HC5
      by_cases c7 : (a0.size : Int) > 300
      · rw [if_pos c7] at H
        have c7b0 : decide (300 < (a0.size : Int)) = true := decide_eq_true c7
        have c7b1 : decide (300 < a0.size) = true := decide_eq_true (by omega)
        clear c7
        (first | rw [c7b0] | (simp only [i64_w, i32_w]; rw [c7b0]) | skip)
        have H' := Aside0.mk H
        clear H
        go_wp2
        go_meet
        case rel => exact ⟨_, (true), (by first | rfl | (simp; done) | (simp [*]; done)), H', ⟨by first | omega | exact Nat.le_refl _⟩, ⟨by repeat (first | (with_reducible first | exact HB.out | apply below_alloc | apply pw_below_drewN | apply below_drew1) | exact HB.out)⟩⟩
      · rw [if_neg c7] at H
        have c7b0 : decide (300 < (a0.size : Int)) = false := decide_eq_false c7
        have c7b1 : decide (300 < a0.size) = false := decide_eq_false (by omega)
        clear c7
        (first | rw [c7b0] | (simp only [i64_w, i32_w]; rw [c7b0]) | skip)
        have H' := Aside0.mk H
        clear H
        go_wp2
        go_meet
        case rel => exact ⟨_, (decide ((a1.size : Int) > 300)), (by first | rfl | (simp; done) | (simp [*]; done)), H', ⟨by first | omega | exact Nat.le_refl _⟩, ⟨by repeat (first | (with_reducible first | exact HB.out | apply below_alloc | apply pw_below_drewN | apply below_drew1) | exact HB.out)⟩⟩
    case rest =>
      clear HC5
      try clear p2
      try clear c4
      try clear c5
      try clear c7
      try clear c7b0
      try clear c7b1
      obtain ⟨kq, x25_4, rfl, HA, HJ4, HB⟩ := hcut
      cases kq with
      | zero => exact absurd HA.out (by simp [polyglotlaw01_TextQuotes.j0])
      | succ kj4 =>
        have H := HA.out
        clear HA
        simp only [polyglotlaw01_TextQuotes.j0] at H
        by_cases c8 : x25_4 = true
        · subst c8
          have H1 : (some true) = some r := by rw [if_pos rfl] at H; exact H
          clear H
          have H := H1
          clear H1
          obtain rfl := Option.some.inj H
          go_wp2
          go_ret
          exact ⟨by first | rfl | (simp [errW_none, errW_some] <;> rfl) | (simp [*, errW_none, errW_some] <;> rfl), by repeat (first | (with_reducible first | exact HB.out | apply below_alloc | apply pw_below_drewN | apply below_drew1) | exact HB.out)⟩
        · replace c8 := Bool.eq_false_iff.mpr c8
          subst c8
          have H1 : ((polyglotlaw01_Signs.f a0).bind fun bt102 => ((polyglotlaw01_Signs.f a1).bind fun bt106 => (if bt102.2 = true then (polyglotlaw01_TextQuotes.j1 kj4 a0 a1 bt102.1 (!bt106.2)) else (polyglotlaw01_TextQuotes.j1 kj4 a0 a1 bt102.1 true)))) = some r := by rw [if_neg (show ¬ (false = true) by decide)] at H; exact H
          clear H
          have H := H1
          clear H1
          replace H := Option.bind_eq_some_iff.mp H
          obtain ⟨⟨t102, t103⟩, A90, H⟩ := H
          replace H : ((polyglotlaw01_Signs.f a1).bind fun bt106 => (if t103 = true then (polyglotlaw01_TextQuotes.j1 kj4 a0 a1 t102 (!bt106.2)) else (polyglotlaw01_TextQuotes.j1 kj4 a0 a1 t102 true))) = some r := H
          have A9 := Aside0.mk A90
          clear A90
          replace H := Option.bind_eq_some_iff.mp H
          obtain ⟨⟨t106, t107⟩, A100, H⟩ := H
          replace H : (if t103 = true then (polyglotlaw01_TextQuotes.j1 kj4 a0 a1 t102 (!t107)) else (polyglotlaw01_TextQuotes.j1 kj4 a0 a1 t102 true)) = some r := H
          have A10 := Aside0.mk A100
          clear A100
          have HC11 := Aside0.mk H
          clear H
          go_upto_region 7 with (first | ((with_reducible refine gate_callee (f := 11) rfl ?_); refine goesL_ (some 28) rfl rfl Tryd.func11 (by kernel_rfl) rfl #[.string a0] rfl (by (try simp only [List.map_toArray, List.map_cons, List.map_nil]); first | done | rfl | (simp only [List.length_drop, List.length_take]; rfl)) ?_; (with_reducible refine (polyglotlaw01_Signs.calls a0 t102 t103 _ A9.out).mono ?_); rintro e w12 ⟨v104, rfl, ho0, hb⟩; refine ⟨_, rfl, ?_⟩; have n0_ := Aside0.mk (Kd.R_lower ho0 (below_size (by repeat (first | (with_reducible first | exact HB.out | apply below_alloc | apply pw_below_drewN | apply below_drew1) | exact HB.out)))); have n1_ := Aside0.mk (below_step (by repeat (first | (with_reducible first | exact HB.out | apply below_alloc | apply pw_below_drewN | apply below_drew1) | exact HB.out)) hb); clear HB; have HO105 := n0_; have HB := n1_; clear n0_ n1_; (try clear hb); (try clear hb2); (try clear hk); (try clear hi); (try clear ho0)) | ((with_reducible refine gate_callee (f := 11) rfl ?_); refine goesL_ (some 33) rfl rfl Tryd.func11 (by kernel_rfl) rfl #[.string a1] rfl (by (try simp only [List.map_toArray, List.map_cons, List.map_nil]); first | done | rfl | (simp only [List.length_drop, List.length_take]; rfl)) ?_; (with_reducible refine (polyglotlaw01_Signs.calls a1 t106 t107 _ A10.out).mono ?_); rintro e w13 ⟨v108, rfl, ho0, hb⟩; refine ⟨_, rfl, ?_⟩; have n0_ := Aside0.mk (Kd.R_elder' (by (with_reducible repeat (first | apply Kd.R_alloc | apply Kd.R_drewN | apply Kd.R_drew)); exact HO105.out) (Kd.R_base ho0) hb); have n1_ := Aside0.mk (Kd.R_lower (Kd.R_new' ho0 (Kd.R_lt (by (with_reducible repeat (first | apply Kd.R_alloc | apply Kd.R_drewN | apply Kd.R_drew)); exact HO105.out))) (below_size (by repeat (first | (with_reducible first | exact HB.out | apply below_alloc | apply pw_below_drewN | apply below_drew1) | exact HB.out)))); have n2_ := Aside0.mk (below_step (by repeat (first | (with_reducible first | exact HB.out | apply below_alloc | apply pw_below_drewN | apply below_drew1) | exact HB.out)) hb); clear HO105; clear HB; have HO105 := n0_; have HO109 := n1_; have HB := n2_; clear n0_ n1_ n2_; (try clear hb); (try clear hb2); (try clear hk); (try clear hi); (try clear ho0)))
          (try simp only [Act.put, List.setIfInBounds_toArray, List.set_cons_zero, List.set_cons_succ])
          go_cut [41] (fun v41 wc => ∃ (kq : Nat) (x41_10 : Bool), v41 = .bool x41_10 ∧ Aside0 (polyglotlaw01_TextQuotes.j1 kq a0 a1 t102 x41_10 = some r) ∧ Aside0 (kq ≤ kj4) ∧ Aside0 (Kd.R Kd.string 9 wc w.heap.size (fun _ => True) v104 t102) ∧ Aside0 (Below w.heap.size w wc))
          case first =>
            have H := HC11.out
            clear HC11
            by_cases c14 : t103 = true
            · subst c14
              have H1 : (polyglotlaw01_TextQuotes.j1 kj4 a0 a1 t102 (!t107)) = some r := by rw [if_pos rfl] at H; exact H
              clear H
              have H := H1
              clear H1
              have H' := Aside0.mk H
              clear H
              go_wp2
              go_meet
              case rel => exact ⟨_, (!t107), (by first | rfl | (simp; done) | (simp [*]; done)), H', ⟨by have := HJ4.out; first | omega | exact Nat.le_refl _⟩, ⟨by (with_reducible repeat (first | apply Kd.R_alloc | apply Kd.R_drewN | apply Kd.R_drew)); exact Kd.R_mono HO105.out (fun _ hk => trivial)⟩, ⟨by repeat (first | (with_reducible first | exact HB.out | apply below_alloc | apply pw_below_drewN | apply below_drew1) | exact HB.out)⟩⟩
            · replace c14 := Bool.eq_false_iff.mpr c14
              subst c14
              have H1 : (polyglotlaw01_TextQuotes.j1 kj4 a0 a1 t102 true) = some r := by rw [if_neg (show ¬ (false = true) by decide)] at H; exact H
              clear H
              have H := H1
              clear H1
              have H' := Aside0.mk H
              clear H
              go_wp2
              go_meet
              case rel => exact ⟨_, (true), (by first | rfl | (simp; done) | (simp [*]; done)), H', ⟨by have := HJ4.out; first | omega | exact Nat.le_refl _⟩, ⟨by (with_reducible repeat (first | apply Kd.R_alloc | apply Kd.R_drewN | apply Kd.R_drew)); exact Kd.R_mono HO105.out (fun _ hk => trivial)⟩, ⟨by repeat (first | (with_reducible first | exact HB.out | apply below_alloc | apply pw_below_drewN | apply below_drew1) | exact HB.out)⟩⟩
          case rest =>
            clear HC11
            try clear c1
            try clear p2
            try clear c4
            try clear c5
            try clear c7
            try clear c7b0
            try clear c7b1
            try clear c8
            try clear c11
            try clear c14
            try clear p2
            obtain ⟨kq, x41_10, rfl, HA, HJ10, HO_5, HB⟩ := hcut
            cases kq with
            | zero => exact absurd HA.out (by simp [polyglotlaw01_TextQuotes.j1])
            | succ kj10 =>
              have H := HA.out
              clear HA
              simp only [polyglotlaw01_TextQuotes.j1] at H
              by_cases c15 : x41_10 = true
              · subst c15
                have H1 : (some true) = some r := by rw [if_pos rfl] at H; exact H
                clear H
                have H := H1
                clear H1
                obtain rfl := Option.some.inj H
                go_wp2
                go_ret
                exact ⟨by first | rfl | (simp [errW_none, errW_some] <;> rfl) | (simp [*, errW_none, errW_some] <;> rfl), by repeat (first | (with_reducible first | exact HB.out | apply below_alloc | apply pw_below_drewN | apply below_drew1) | exact HB.out)⟩
              · replace c15 := Bool.eq_false_iff.mpr c15
                subst c15
                have H1 : (polyglotlaw01_TextQuotes.l0 kj10 a0 a1 (⟨#[34]⟩ : ByteArray) t102 (t102.length : Int) 0) = some r := by rw [if_neg (show ¬ (false = true) by decide)] at H; exact H
                clear H
                have H := H1
                clear H1
                have H' := Aside0.mk H
                clear H
                obtain ⟨Ao16, co16, eo16⟩ := Kd.R_slice HO_5.out
                subst eo16
                go_wp2
                go_loopg [9, 44] kj10 (fun kq v9 v44 w' => ∃ (x9_3 : ByteArray) (x44_3 : Int), v9 = .string x9_3 ∧ v44 = .int .i64 x44_3 ∧ Aside0 (polyglotlaw01_TextQuotes.l0 kq a0 a1 x9_3 t102 (t102.length : Int) x44_3 = some r) ∧ Aside0 (kq ≤ kj10) ∧ Aside0 (Kd.R Kd.string 9 w' w.heap.size (fun _ => True) (.slice Ao16 t102.length co16) t102) ∧ Aside0 (Below w.heap.size w w'))
                case atStart => exact ⟨((⟨#[34]⟩ : ByteArray)), (0), (by first | rfl | (simp; done) | (simp [*]; done)), (by first | rfl | (simp; done) | (simp [*]; done)), H', ⟨Nat.le_refl _⟩, ⟨by (with_reducible repeat (first | apply Kd.R_alloc | apply Kd.R_drewN | apply Kd.R_drew)); exact HO_5.out⟩, ⟨by repeat (first | (with_reducible first | exact HB.out | apply below_alloc | apply pw_below_drewN | apply below_drew1) | exact HB.out)⟩⟩
                case round =>
                  clear H'
                  try clear c1
                  try clear p2
                  try clear c4
                  try clear c5
                  try clear c7
                  try clear c7b0
                  try clear c7b1
                  try clear c8
                  try clear c11
                  try clear c14
                  try clear c15
                  try clear p2
                  obtain ⟨x9_3, x44_3, rfl, rfl, HA, HK3, HO_42, HB⟩ := hrel
                  cases gk with
                  | zero => exact absurd HA.out (by simp [polyglotlaw01_TextQuotes.l0])
                  | succ k3 =>
                    have H := HA.out
                    clear HA
                    simp only [polyglotlaw01_TextQuotes.l0] at H
                    by_cases c17 : x44_3 < (t102.length : Int)
                    · rw [if_pos c17] at H
                      have c17b0 : decide (x44_3 < (t102.length : Int)) = true := decide_eq_true c17
                      clear c17
                      by_cases c18 : 0 ≤ x44_3
                      · rw [if_pos c18] at H
                        have c18b0 : decide (0 ≤ x44_3) = true := decide_eq_true c18
                        clear c18
                        by_cases c19 : x44_3 < (t102.length : Int)
                        · rw [if_pos c19] at H
                          have c19b0 : decide (x44_3 < (t102.length : Int)) = true := decide_eq_true c19
                          clear c19
                          have HC20 := Aside0.mk H
                          clear H
                          have p114 : 0 ≤ (x44_3 : Int) := of_decide_eq_true (by first | (with_reducible assumption) | assumption)
                          have q114 : x44_3 < (t102.length : Int) := of_decide_eq_true (by first | (with_reducible assumption) | assumption)
                          obtain ⟨ad114, e114, hx114_0⟩ := Kd.at_string (Kd.R_reads' HO_42.out).2.2 x44_3 p114 q114
                          cases e114
                          replace p114 := eq_true p114
                          replace q114 := eq_true q114
                          go_upto_region 13 with (fail)
                          go_cut [48] (fun v48 wc => ∃ (kq : Nat) (x48_19 : Bool), v48 = .bool x48_19 ∧ Aside0 (polyglotlaw01_TextQuotes.j3 kq a0 a1 x9_3 (rdOf ByteArray.empty t102 x44_3) t102 (t102.length : Int) x44_3 x48_19 = some r) ∧ Aside0 (kq ≤ k3) ∧ Aside0 (Kd.R Kd.string 9 wc w.heap.size (fun _ => True) (.slice (some ad114) t102.length co16) t102) ∧ Aside0 (Below w.heap.size w wc))
                          case first =>
                            have H := HC20.out
                            clear HC20
                            by_cases c21 : (rdOf ByteArray.empty t102 x44_3).toList = ([34] : List UInt8)
                            · rw [if_pos c21] at H
                              have c21b0 : ((rdOf ByteArray.empty t102 x44_3).toList == ([34] : List UInt8)) = true := beq_iff_eq.mpr c21
                              have c21b1 : ((rdOf ByteArray.empty t102 x44_3).toList != ([34] : List UInt8)) = false := bne_eq_false_iff_eq.mpr c21
                              clear c21
                              (first | rw [c21b0] | (simp only [i64_w, i32_w]; rw [c21b0]) | skip)
                              have H' := Aside0.mk H
                              clear H
                              go_wp2
                              go_meet
                              case rel => exact ⟨_, (true), (by first | rfl | (simp; done) | (simp [*]; done)), H', ⟨by have := HJ4.out; have := HJ10.out; have := HK3.out; first | omega | exact Nat.le_refl _⟩, ⟨by (with_reducible repeat (first | apply Kd.R_alloc | apply Kd.R_drewN | apply Kd.R_drew)); exact HO_42.out⟩, ⟨by repeat (first | (with_reducible first | exact HB.out | apply below_alloc | apply pw_below_drewN | apply below_drew1) | exact HB.out)⟩⟩
                            · rw [if_neg c21] at H
                              have c21b0 : ((rdOf ByteArray.empty t102 x44_3).toList == ([34] : List UInt8)) = false := beq_eq_false_iff_ne.mpr c21
                              have c21b1 : ((rdOf ByteArray.empty t102 x44_3).toList != ([34] : List UInt8)) = true := bne_iff_ne.mpr c21
                              (first | rw [c21b0] | (simp only [i64_w, i32_w]; rw [c21b0]) | skip)
                              have H' := Aside0.mk H
                              clear H
                              go_wp2
                              go_meet
                              case rel => exact ⟨_, (((rdOf ByteArray.empty t102 x44_3).toList == ([92] : List UInt8))), (by first | rfl | (simp; done) | (simp [*]; done)), H', ⟨by have := HJ4.out; have := HJ10.out; have := HK3.out; first | omega | exact Nat.le_refl _⟩, ⟨by (with_reducible repeat (first | apply Kd.R_alloc | apply Kd.R_drewN | apply Kd.R_drew)); exact HO_42.out⟩, ⟨by repeat (first | (with_reducible first | exact HB.out | apply below_alloc | apply pw_below_drewN | apply below_drew1) | exact HB.out)⟩⟩
                          case rest =>
                            clear HC20
                            try clear c1
                            try clear p1
                            try clear q1
                            try clear hx1
                            try clear c2
                            try clear p2
                            try clear c4
                            try clear c5
                            try clear c7
                            try clear c7b0
                            try clear c7b1
                            try clear c8
                            try clear c11
                            try clear p11
                            try clear q11
                            try clear hx11
                            try clear c14
                            try clear c15
                            try clear c17
                            try clear c17b0
                            try clear c18
                            try clear c18b0
                            try clear c19
                            try clear c19b0
                            try clear c21
                            try clear c21b0
                            try clear c21b1
                            try clear hx114_0
                            try clear p114
                            try clear p2
                            try clear q114
                            obtain ⟨kq, x48_19, rfl, HA, HJ19, HO_42, HB⟩ := hcut
                            cases kq with
                            | zero => exact absurd HA.out (by simp [polyglotlaw01_TextQuotes.j3])
                            | succ kj19 =>
                              have H := HA.out
                              clear HA
                              simp only [polyglotlaw01_TextQuotes.j3] at H
                              by_cases c22 : x48_19 = true
                              · subst c22
                                have H1 : (if 1 + (rdOf ByteArray.empty t102 x44_3).size ≤ 9223372036854775807 then (if x9_3.size + ((⟨#[92]⟩ : ByteArray) ++ (rdOf ByteArray.empty t102 x44_3)).size ≤ 9223372036854775807 then (polyglotlaw01_TextQuotes.l0 kj19 a0 a1 (x9_3 ++ ((⟨#[92]⟩ : ByteArray) ++ (rdOf ByteArray.empty t102 x44_3))) t102 (t102.length : Int) (wrap64 (x44_3 + 1))) else (none)) else (none)) = some r := by rw [if_pos rfl] at H; exact H
                                clear H
                                have H := H1
                                clear H1
                                by_cases c23 : 1 + (rdOf ByteArray.empty t102 x44_3).size ≤ 9223372036854775807
                                · rw [if_pos c23] at H
                                  have c23b0 := eq_true c23
                                  have c23b1 : decide (1 + (rdOf ByteArray.empty t102 x44_3).size ≤ 9223372036854775807) = true := decide_eq_true c23
                                  try have c23b2 : (9223372036854775807 < 1 + (rdOf ByteArray.empty t102 x44_3).size) = False := eq_false (Nat.not_lt.2 c23)
                                  by_cases c24 : x9_3.size + ((⟨#[92]⟩ : ByteArray) ++ (rdOf ByteArray.empty t102 x44_3)).size ≤ 9223372036854775807
                                  · rw [if_pos c24] at H
                                    have c24b0 := eq_true c24
                                    have c24b1 : decide (x9_3.size + ((⟨#[92]⟩ : ByteArray) ++ (rdOf ByteArray.empty t102 x44_3)).size ≤ 9223372036854775807) = true := decide_eq_true c24
                                    try have c24b2 : (9223372036854775807 < x9_3.size + ((⟨#[92]⟩ : ByteArray) ++ (rdOf ByteArray.empty t102 x44_3)).size) = False := eq_false (Nat.not_lt.2 c24)
                                    have H' := Aside0.mk H
                                    clear H
                                    go_wp2
                                    go_roundg kj19
                                    case measure => have := HJ4.out; have := HJ10.out; have := HK3.out; have := HJ19.out; omega
                                    case rel => exact ⟨(x9_3 ++ ((⟨#[92]⟩ : ByteArray) ++ (rdOf ByteArray.empty t102 x44_3))), (wrap64 (x44_3 + 1)), (by first | rfl | (simp; done) | (simp [*]; done)), (by first | rfl | (simp; done) | (simp [*]; done)), H', ⟨by have := HJ4.out; have := HJ10.out; have := HK3.out; have := HJ19.out; omega⟩, ⟨by (with_reducible repeat (first | apply Kd.R_alloc | apply Kd.R_drewN | apply Kd.R_drew)); exact HO_42.out⟩, ⟨by repeat (first | (with_reducible first | exact HB.out | apply below_alloc | apply pw_below_drewN | apply below_drew1) | exact HB.out)⟩⟩
                                  · rw [if_neg c24] at H
                                    exact absurd H (by simp)
                                · rw [if_neg c23] at H
                                  exact absurd H (by simp)
                              · replace c22 := Bool.eq_false_iff.mpr c22
                                subst c22
                                have H1 : (if (Op.bytesLess (rdOf ByteArray.empty t102 x44_3).toList ([32] : List UInt8)) = true then ((some (([(⟨#[48]⟩ : ByteArray), (⟨#[49]⟩ : ByteArray), (⟨#[50]⟩ : ByteArray), (⟨#[51]⟩ : ByteArray), (⟨#[52]⟩ : ByteArray), (⟨#[53]⟩ : ByteArray), (⟨#[54]⟩ : ByteArray), (⟨#[55]⟩ : ByteArray)] : List ByteArray) : List ByteArray)).bind fun y115 => (if 0 < ((rdOf ByteArray.empty t102 x44_3).size : Int) then (if 0 ≤ (wrap64 (Int.tdiv (wrap64 (bt (rdOf ByteArray.empty t102 x44_3) 0)) 16)) then (if (wrap64 (Int.tdiv (wrap64 (bt (rdOf ByteArray.empty t102 x44_3) 0)) 16)) < (y115.length : Int) then (if 4 + (rdOf ByteArray.empty y115 (wrap64 (Int.tdiv (wrap64 (bt (rdOf ByteArray.empty t102 x44_3) 0)) 16))).size ≤ 9223372036854775807 then ((some (([(⟨#[48]⟩ : ByteArray), (⟨#[49]⟩ : ByteArray), (⟨#[50]⟩ : ByteArray), (⟨#[51]⟩ : ByteArray), (⟨#[52]⟩ : ByteArray), (⟨#[53]⟩ : ByteArray), (⟨#[54]⟩ : ByteArray), (⟨#[55]⟩ : ByteArray), (⟨#[56]⟩ : ByteArray), (⟨#[57]⟩ : ByteArray), (⟨#[65]⟩ : ByteArray), (⟨#[66]⟩ : ByteArray), (⟨#[67]⟩ : ByteArray), (⟨#[68]⟩ : ByteArray), (⟨#[69]⟩ : ByteArray), (⟨#[70]⟩ : ByteArray)] : List ByteArray) : List ByteArray)).bind fun y119 => (if 0 ≤ (Int.tmod (wrap64 (bt (rdOf ByteArray.empty t102 x44_3) 0)) 16) then (if (Int.tmod (wrap64 (bt (rdOf ByteArray.empty t102 x44_3) 0)) 16) < (y119.length : Int) then (if ((⟨#[92, 117, 48, 48]⟩ : ByteArray) ++ (rdOf ByteArray.empty y115 (wrap64 (Int.tdiv (wrap64 (bt (rdOf ByteArray.empty t102 x44_3) 0)) 16)))).size + (rdOf ByteArray.empty y119 (Int.tmod (wrap64 (bt (rdOf ByteArray.empty t102 x44_3) 0)) 16)).size ≤ 9223372036854775807 then (if x9_3.size + (((⟨#[92, 117, 48, 48]⟩ : ByteArray) ++ (rdOf ByteArray.empty y115 (wrap64 (Int.tdiv (wrap64 (bt (rdOf ByteArray.empty t102 x44_3) 0)) 16)))) ++ (rdOf ByteArray.empty y119 (Int.tmod (wrap64 (bt (rdOf ByteArray.empty t102 x44_3) 0)) 16))).size ≤ 9223372036854775807 then (polyglotlaw01_TextQuotes.l0 kj19 a0 a1 (x9_3 ++ (((⟨#[92, 117, 48, 48]⟩ : ByteArray) ++ (rdOf ByteArray.empty y115 (wrap64 (Int.tdiv (wrap64 (bt (rdOf ByteArray.empty t102 x44_3) 0)) 16)))) ++ (rdOf ByteArray.empty y119 (Int.tmod (wrap64 (bt (rdOf ByteArray.empty t102 x44_3) 0)) 16)))) t102 (t102.length : Int) (wrap64 (x44_3 + 1))) else (none)) else (none)) else (none)) else (none))) else (none)) else (none)) else (none)) else (none))) else (if (rdOf ByteArray.empty t102 x44_3).toList = ([127] : List UInt8) then ((some (([(⟨#[48]⟩ : ByteArray), (⟨#[49]⟩ : ByteArray), (⟨#[50]⟩ : ByteArray), (⟨#[51]⟩ : ByteArray), (⟨#[52]⟩ : ByteArray), (⟨#[53]⟩ : ByteArray), (⟨#[54]⟩ : ByteArray), (⟨#[55]⟩ : ByteArray)] : List ByteArray) : List ByteArray)).bind fun y123 => (if 0 < ((rdOf ByteArray.empty t102 x44_3).size : Int) then (if 0 ≤ (wrap64 (Int.tdiv (wrap64 (bt (rdOf ByteArray.empty t102 x44_3) 0)) 16)) then (if (wrap64 (Int.tdiv (wrap64 (bt (rdOf ByteArray.empty t102 x44_3) 0)) 16)) < (y123.length : Int) then (if 4 + (rdOf ByteArray.empty y123 (wrap64 (Int.tdiv (wrap64 (bt (rdOf ByteArray.empty t102 x44_3) 0)) 16))).size ≤ 9223372036854775807 then ((some (([(⟨#[48]⟩ : ByteArray), (⟨#[49]⟩ : ByteArray), (⟨#[50]⟩ : ByteArray), (⟨#[51]⟩ : ByteArray), (⟨#[52]⟩ : ByteArray), (⟨#[53]⟩ : ByteArray), (⟨#[54]⟩ : ByteArray), (⟨#[55]⟩ : ByteArray), (⟨#[56]⟩ : ByteArray), (⟨#[57]⟩ : ByteArray), (⟨#[65]⟩ : ByteArray), (⟨#[66]⟩ : ByteArray), (⟨#[67]⟩ : ByteArray), (⟨#[68]⟩ : ByteArray), (⟨#[69]⟩ : ByteArray), (⟨#[70]⟩ : ByteArray)] : List ByteArray) : List ByteArray)).bind fun y127 => (if 0 ≤ (Int.tmod (wrap64 (bt (rdOf ByteArray.empty t102 x44_3) 0)) 16) then (if (Int.tmod (wrap64 (bt (rdOf ByteArray.empty t102 x44_3) 0)) 16) < (y127.length : Int) then (if ((⟨#[92, 117, 48, 48]⟩ : ByteArray) ++ (rdOf ByteArray.empty y123 (wrap64 (Int.tdiv (wrap64 (bt (rdOf ByteArray.empty t102 x44_3) 0)) 16)))).size + (rdOf ByteArray.empty y127 (Int.tmod (wrap64 (bt (rdOf ByteArray.empty t102 x44_3) 0)) 16)).size ≤ 9223372036854775807 then (if x9_3.size + (((⟨#[92, 117, 48, 48]⟩ : ByteArray) ++ (rdOf ByteArray.empty y123 (wrap64 (Int.tdiv (wrap64 (bt (rdOf ByteArray.empty t102 x44_3) 0)) 16)))) ++ (rdOf ByteArray.empty y127 (Int.tmod (wrap64 (bt (rdOf ByteArray.empty t102 x44_3) 0)) 16))).size ≤ 9223372036854775807 then (polyglotlaw01_TextQuotes.l0 kj19 a0 a1 (x9_3 ++ (((⟨#[92, 117, 48, 48]⟩ : ByteArray) ++ (rdOf ByteArray.empty y123 (wrap64 (Int.tdiv (wrap64 (bt (rdOf ByteArray.empty t102 x44_3) 0)) 16)))) ++ (rdOf ByteArray.empty y127 (Int.tmod (wrap64 (bt (rdOf ByteArray.empty t102 x44_3) 0)) 16)))) t102 (t102.length : Int) (wrap64 (x44_3 + 1))) else (none)) else (none)) else (none)) else (none))) else (none)) else (none)) else (none)) else (none))) else (if x9_3.size + (rdOf ByteArray.empty t102 x44_3).size ≤ 9223372036854775807 then (polyglotlaw01_TextQuotes.l0 kj19 a0 a1 (x9_3 ++ (rdOf ByteArray.empty t102 x44_3)) t102 (t102.length : Int) (wrap64 (x44_3 + 1))) else (none)))) = some r := by rw [if_neg (show ¬ (false = true) by decide)] at H; exact H
                                clear H
                                have H := H1
                                clear H1
                                by_cases c25 : (Op.bytesLess (rdOf ByteArray.empty t102 x44_3).toList ([32] : List UInt8)) = true
                                · rw [if_pos c25] at H
                                  have c25b0 : (Op.bytesLess (rdOf ByteArray.empty t102 x44_3).toList ([32] : List UInt8)) = true := c25
                                  clear c25
                                  obtain ⟨y115, hy115⟩ : ∃ y_ : List ByteArray, y_ = (([(⟨#[48]⟩ : ByteArray), (⟨#[49]⟩ : ByteArray), (⟨#[50]⟩ : ByteArray), (⟨#[51]⟩ : ByteArray), (⟨#[52]⟩ : ByteArray), (⟨#[53]⟩ : ByteArray), (⟨#[54]⟩ : ByteArray), (⟨#[55]⟩ : ByteArray)] : List ByteArray)) := ⟨_, rfl⟩
                                  replace H : (if 0 < ((rdOf ByteArray.empty t102 x44_3).size : Int) then (if 0 ≤ (wrap64 (Int.tdiv (wrap64 (bt (rdOf ByteArray.empty t102 x44_3) 0)) 16)) then (if (wrap64 (Int.tdiv (wrap64 (bt (rdOf ByteArray.empty t102 x44_3) 0)) 16)) < (y115.length : Int) then (if 4 + (rdOf ByteArray.empty y115 (wrap64 (Int.tdiv (wrap64 (bt (rdOf ByteArray.empty t102 x44_3) 0)) 16))).size ≤ 9223372036854775807 then ((some (([(⟨#[48]⟩ : ByteArray), (⟨#[49]⟩ : ByteArray), (⟨#[50]⟩ : ByteArray), (⟨#[51]⟩ : ByteArray), (⟨#[52]⟩ : ByteArray), (⟨#[53]⟩ : ByteArray), (⟨#[54]⟩ : ByteArray), (⟨#[55]⟩ : ByteArray), (⟨#[56]⟩ : ByteArray), (⟨#[57]⟩ : ByteArray), (⟨#[65]⟩ : ByteArray), (⟨#[66]⟩ : ByteArray), (⟨#[67]⟩ : ByteArray), (⟨#[68]⟩ : ByteArray), (⟨#[69]⟩ : ByteArray), (⟨#[70]⟩ : ByteArray)] : List ByteArray) : List ByteArray)).bind fun y119 => (if 0 ≤ (Int.tmod (wrap64 (bt (rdOf ByteArray.empty t102 x44_3) 0)) 16) then (if (Int.tmod (wrap64 (bt (rdOf ByteArray.empty t102 x44_3) 0)) 16) < (y119.length : Int) then (if ((⟨#[92, 117, 48, 48]⟩ : ByteArray) ++ (rdOf ByteArray.empty y115 (wrap64 (Int.tdiv (wrap64 (bt (rdOf ByteArray.empty t102 x44_3) 0)) 16)))).size + (rdOf ByteArray.empty y119 (Int.tmod (wrap64 (bt (rdOf ByteArray.empty t102 x44_3) 0)) 16)).size ≤ 9223372036854775807 then (if x9_3.size + (((⟨#[92, 117, 48, 48]⟩ : ByteArray) ++ (rdOf ByteArray.empty y115 (wrap64 (Int.tdiv (wrap64 (bt (rdOf ByteArray.empty t102 x44_3) 0)) 16)))) ++ (rdOf ByteArray.empty y119 (Int.tmod (wrap64 (bt (rdOf ByteArray.empty t102 x44_3) 0)) 16))).size ≤ 9223372036854775807 then (polyglotlaw01_TextQuotes.l0 kj19 a0 a1 (x9_3 ++ (((⟨#[92, 117, 48, 48]⟩ : ByteArray) ++ (rdOf ByteArray.empty y115 (wrap64 (Int.tdiv (wrap64 (bt (rdOf ByteArray.empty t102 x44_3) 0)) 16)))) ++ (rdOf ByteArray.empty y119 (Int.tmod (wrap64 (bt (rdOf ByteArray.empty t102 x44_3) 0)) 16)))) t102 (t102.length : Int) (wrap64 (x44_3 + 1))) else (none)) else (none)) else (none)) else (none))) else (none)) else (none)) else (none)) else (none)) = some r := by first | (rw [hy115]; with_reducible exact H) | (have H2_ := (Option.bind_some _ _).symm.trans H; rw [hy115]; with_reducible exact H2_) | (have H2_ := (Option.bind_some _ _).symm.trans H; with_reducible exact H2_) | with_reducible exact H | (rw [hy115]; exact H) | exact H
                                  have Ny115 := Aside0.mk hy115
                                  clear hy115
                                  by_cases c26 : 0 < ((rdOf ByteArray.empty t102 x44_3).size : Int)
                                  · rw [if_pos c26] at H
                                    have c26b0 : decide (0 < ((rdOf ByteArray.empty t102 x44_3).size : Int)) = true := decide_eq_true c26
                                    have c26b1 : decide (0 < (rdOf ByteArray.empty t102 x44_3).size) = true := decide_eq_true (by omega)
                                    clear c26
                                    obtain ⟨ji28, hji28⟩ : ∃ j_ : Int, (wrap64 (Int.tdiv (wrap64 (bt (rdOf ByteArray.empty t102 x44_3) 0)) 16)) = j_ := ⟨_, rfl⟩
                                    replace H : (if 0 ≤ (ji28) then (if (ji28) < (y115.length : Int) then (if 4 + (rdOf ByteArray.empty y115 (ji28)).size ≤ 9223372036854775807 then ((some (([(⟨#[48]⟩ : ByteArray), (⟨#[49]⟩ : ByteArray), (⟨#[50]⟩ : ByteArray), (⟨#[51]⟩ : ByteArray), (⟨#[52]⟩ : ByteArray), (⟨#[53]⟩ : ByteArray), (⟨#[54]⟩ : ByteArray), (⟨#[55]⟩ : ByteArray), (⟨#[56]⟩ : ByteArray), (⟨#[57]⟩ : ByteArray), (⟨#[65]⟩ : ByteArray), (⟨#[66]⟩ : ByteArray), (⟨#[67]⟩ : ByteArray), (⟨#[68]⟩ : ByteArray), (⟨#[69]⟩ : ByteArray), (⟨#[70]⟩ : ByteArray)] : List ByteArray) : List ByteArray)).bind fun y119 => (if 0 ≤ (Int.tmod (wrap64 (bt (rdOf ByteArray.empty t102 x44_3) 0)) 16) then (if (Int.tmod (wrap64 (bt (rdOf ByteArray.empty t102 x44_3) 0)) 16) < (y119.length : Int) then (if ((⟨#[92, 117, 48, 48]⟩ : ByteArray) ++ (rdOf ByteArray.empty y115 (ji28))).size + (rdOf ByteArray.empty y119 (Int.tmod (wrap64 (bt (rdOf ByteArray.empty t102 x44_3) 0)) 16)).size ≤ 9223372036854775807 then (if x9_3.size + (((⟨#[92, 117, 48, 48]⟩ : ByteArray) ++ (rdOf ByteArray.empty y115 (ji28))) ++ (rdOf ByteArray.empty y119 (Int.tmod (wrap64 (bt (rdOf ByteArray.empty t102 x44_3) 0)) 16))).size ≤ 9223372036854775807 then (polyglotlaw01_TextQuotes.l0 kj19 a0 a1 (x9_3 ++ (((⟨#[92, 117, 48, 48]⟩ : ByteArray) ++ (rdOf ByteArray.empty y115 (ji28))) ++ (rdOf ByteArray.empty y119 (Int.tmod (wrap64 (bt (rdOf ByteArray.empty t102 x44_3) 0)) 16)))) t102 (t102.length : Int) (wrap64 (x44_3 + 1))) else (none)) else (none)) else (none)) else (none))) else (none)) else (none)) else (none)) = some r := by first | (rw [hji28] at H; exact H) | (simp only [hji28] at H ⊢; exact H)
                                    have hji28w : (IntKind.i64.wrap (Int.tdiv (wrap64 (bt (rdOf ByteArray.empty t102 x44_3) 0)) 16)) = ji28 := (i64_w _).trans hji28
                                    by_cases c29 : 0 ≤ (ji28)
                                    · rw [if_pos c29] at H
                                      have c29b0 : decide (0 ≤ (ji28)) = true := decide_eq_true c29
                                      clear c29
                                      by_cases c30 : (ji28) < (y115.length : Int)
                                      · rw [if_pos c30] at H
                                        have c30b0 : decide ((ji28) < (y115.length : Int)) = true := decide_eq_true c30
                                        clear c30
                                        by_cases c31 : 4 + (rdOf ByteArray.empty y115 (ji28)).size ≤ 9223372036854775807
                                        · rw [if_pos c31] at H
                                          have c31b0 := eq_true c31
                                          have c31b1 : decide (4 + (rdOf ByteArray.empty y115 (ji28)).size ≤ 9223372036854775807) = true := decide_eq_true c31
                                          try have c31b2 : (9223372036854775807 < 4 + (rdOf ByteArray.empty y115 (ji28)).size) = False := eq_false (Nat.not_lt.2 c31)
                                          obtain ⟨y119, hy119⟩ : ∃ y_ : List ByteArray, y_ = (([(⟨#[48]⟩ : ByteArray), (⟨#[49]⟩ : ByteArray), (⟨#[50]⟩ : ByteArray), (⟨#[51]⟩ : ByteArray), (⟨#[52]⟩ : ByteArray), (⟨#[53]⟩ : ByteArray), (⟨#[54]⟩ : ByteArray), (⟨#[55]⟩ : ByteArray), (⟨#[56]⟩ : ByteArray), (⟨#[57]⟩ : ByteArray), (⟨#[65]⟩ : ByteArray), (⟨#[66]⟩ : ByteArray), (⟨#[67]⟩ : ByteArray), (⟨#[68]⟩ : ByteArray), (⟨#[69]⟩ : ByteArray), (⟨#[70]⟩ : ByteArray)] : List ByteArray)) := ⟨_, rfl⟩
                                          replace H : (if 0 ≤ (Int.tmod (wrap64 (bt (rdOf ByteArray.empty t102 x44_3) 0)) 16) then (if (Int.tmod (wrap64 (bt (rdOf ByteArray.empty t102 x44_3) 0)) 16) < (y119.length : Int) then (if ((⟨#[92, 117, 48, 48]⟩ : ByteArray) ++ (rdOf ByteArray.empty y115 (ji28))).size + (rdOf ByteArray.empty y119 (Int.tmod (wrap64 (bt (rdOf ByteArray.empty t102 x44_3) 0)) 16)).size ≤ 9223372036854775807 then (if x9_3.size + (((⟨#[92, 117, 48, 48]⟩ : ByteArray) ++ (rdOf ByteArray.empty y115 (ji28))) ++ (rdOf ByteArray.empty y119 (Int.tmod (wrap64 (bt (rdOf ByteArray.empty t102 x44_3) 0)) 16))).size ≤ 9223372036854775807 then (polyglotlaw01_TextQuotes.l0 kj19 a0 a1 (x9_3 ++ (((⟨#[92, 117, 48, 48]⟩ : ByteArray) ++ (rdOf ByteArray.empty y115 (ji28))) ++ (rdOf ByteArray.empty y119 (Int.tmod (wrap64 (bt (rdOf ByteArray.empty t102 x44_3) 0)) 16)))) t102 (t102.length : Int) (wrap64 (x44_3 + 1))) else (none)) else (none)) else (none)) else (none)) = some r := by first | (rw [hy119]; with_reducible exact H) | (have H2_ := (Option.bind_some _ _).symm.trans H; rw [hy119]; with_reducible exact H2_) | (have H2_ := (Option.bind_some _ _).symm.trans H; with_reducible exact H2_) | with_reducible exact H | (rw [hy119]; exact H) | exact H
                                          have Ny119 := Aside0.mk hy119
                                          clear hy119
                                          obtain ⟨ji33, hji33⟩ : ∃ j_ : Int, (Int.tmod (wrap64 (bt (rdOf ByteArray.empty t102 x44_3) 0)) 16) = j_ := ⟨_, rfl⟩
                                          replace H : (if 0 ≤ (ji33) then (if (ji33) < (y119.length : Int) then (if ((⟨#[92, 117, 48, 48]⟩ : ByteArray) ++ (rdOf ByteArray.empty y115 (ji28))).size + (rdOf ByteArray.empty y119 (ji33)).size ≤ 9223372036854775807 then (if x9_3.size + (((⟨#[92, 117, 48, 48]⟩ : ByteArray) ++ (rdOf ByteArray.empty y115 (ji28))) ++ (rdOf ByteArray.empty y119 (ji33))).size ≤ 9223372036854775807 then (polyglotlaw01_TextQuotes.l0 kj19 a0 a1 (x9_3 ++ (((⟨#[92, 117, 48, 48]⟩ : ByteArray) ++ (rdOf ByteArray.empty y115 (ji28))) ++ (rdOf ByteArray.empty y119 (ji33)))) t102 (t102.length : Int) (wrap64 (x44_3 + 1))) else (none)) else (none)) else (none)) else (none)) = some r := by first | (rw [hji33] at H; exact H) | (simp only [hji33] at H ⊢; exact H)
                                          by_cases c34 : 0 ≤ (ji33)
                                          · rw [if_pos c34] at H
                                            have c34b0 : decide (0 ≤ (ji33)) = true := decide_eq_true c34
                                            clear c34
                                            by_cases c35 : (ji33) < (y119.length : Int)
                                            · rw [if_pos c35] at H
                                              have c35b0 : decide ((ji33) < (y119.length : Int)) = true := decide_eq_true c35
                                              clear c35
                                              by_cases c36 : ((⟨#[92, 117, 48, 48]⟩ : ByteArray) ++ (rdOf ByteArray.empty y115 (ji28))).size + (rdOf ByteArray.empty y119 (ji33)).size ≤ 9223372036854775807
                                              · rw [if_pos c36] at H
                                                have c36b0 := eq_true c36
                                                have c36b1 : decide (((⟨#[92, 117, 48, 48]⟩ : ByteArray) ++ (rdOf ByteArray.empty y115 (ji28))).size + (rdOf ByteArray.empty y119 (ji33)).size ≤ 9223372036854775807) = true := decide_eq_true c36
                                                try have c36b2 : (9223372036854775807 < ((⟨#[92, 117, 48, 48]⟩ : ByteArray) ++ (rdOf ByteArray.empty y115 (ji28))).size + (rdOf ByteArray.empty y119 (ji33)).size) = False := eq_false (Nat.not_lt.2 c36)
                                                by_cases c37 : x9_3.size + (((⟨#[92, 117, 48, 48]⟩ : ByteArray) ++ (rdOf ByteArray.empty y115 (ji28))) ++ (rdOf ByteArray.empty y119 (ji33))).size ≤ 9223372036854775807
                                                · rw [if_pos c37] at H
                                                  have c37b0 := eq_true c37
                                                  have c37b1 : decide (x9_3.size + (((⟨#[92, 117, 48, 48]⟩ : ByteArray) ++ (rdOf ByteArray.empty y115 (ji28))) ++ (rdOf ByteArray.empty y119 (ji33))).size ≤ 9223372036854775807) = true := decide_eq_true c37
                                                  try have c37b2 : (9223372036854775807 < x9_3.size + (((⟨#[92, 117, 48, 48]⟩ : ByteArray) ++ (rdOf ByteArray.empty y115 (ji28))) ++ (rdOf ByteArray.empty y119 (ji33))).size) = False := eq_false (Nat.not_lt.2 c37)
                                                  have H' := Aside0.mk H
                                                  clear H
                                                  try go_wp2
                                                  have pi118 : (0 ≤ ((ji28) : Int)) = True := eq_true (of_decide_eq_true (by first | (with_reducible assumption) | assumption))
                                                  have qi118 : ((ji28) < (y115.length : Int)) = True := eq_true (of_decide_eq_true (by first | (with_reducible assumption) | assumption))
                                                  have pi122 : (0 ≤ ((ji33) : Int)) = True := eq_true (of_decide_eq_true (by first | (with_reducible assumption) | assumption))
                                                  have qi122 : ((ji33) < (y119.length : Int)) = True := eq_true (of_decide_eq_true (by first | (with_reducible assumption) | assumption))
                                                  have n0_ := Aside0.mk (Kd.R_drew HO_42.out)
                                                  have n1_ := Aside0.mk (below_drew1 HB.out)
                                                  clear HO_42
                                                  clear HB
                                                  have HO_42 := n0_
                                                  have HB := n1_
                                                  clear n0_ n1_
                                                  have p27 : 0 ≤ (0 : Int) := (by omega)
                                                  have q27 : 0 < (rdOf ByteArray.empty t102 x44_3).size := (by have : (0 : Int) < ((rdOf ByteArray.empty t102 x44_3).size : Int) := of_decide_eq_true (by first | (with_reducible assumption) | assumption); omega)
                                                  have hx27 : ∀ h : 0 < (rdOf ByteArray.empty t102 x44_3).size, (((rdOf ByteArray.empty t102 x44_3)[0]'h).toNat : Int) = bt (rdOf ByteArray.empty t102 x44_3) 0 := bt_at (rdOf ByteArray.empty t102 x44_3) 0
                                                  clear p27
                                                  have qi27 : (0 < ((rdOf ByteArray.empty t102 x44_3).size : Int)) = True := eq_true (of_decide_eq_true (by first | (with_reducible assumption) | assumption))
                                                  replace q27 := eq_true q27
                                                  have p32 : 0 ≤ (0 : Int) := (by omega)
                                                  have q32 : 0 < (rdOf ByteArray.empty t102 x44_3).size := (by have : (0 : Int) < ((rdOf ByteArray.empty t102 x44_3).size : Int) := of_decide_eq_true (by first | (with_reducible assumption) | assumption); omega)
                                                  have hx32 : ∀ h : 0 < (rdOf ByteArray.empty t102 x44_3).size, (((rdOf ByteArray.empty t102 x44_3)[0]'h).toNat : Int) = bt (rdOf ByteArray.empty t102 x44_3) 0 := bt_at (rdOf ByteArray.empty t102 x44_3) 0
                                                  clear p32
                                                  have qi32 : (0 < ((rdOf ByteArray.empty t102 x44_3).size : Int)) = True := eq_true (of_decide_eq_true (by first | (with_reducible assumption) | assumption))
                                                  replace q32 := eq_true q32
                                                  refine start_ (n := 17) (S := fun w' => True) (ds := []) #[false, false, false, false, false, false, false, false, false, false, false, false, false, false, false, false, false] (by kernel_rfl) rfl rfl trivial (fun hHeld => ?_); refine with_tabW polyglotlaw01_TextQuotes.tab16 polyglotlaw01_TextQuotes.bits16 (fun HT_ HW_ => ?_)
                                                  generalize wc.drew = w38 at HO_42 HB hHeld ⊢
                                                  refine pure_ (i := 1) (N := some 65) (v := ?_) (a' := ?_) #[false, true, false, false, false, false, false, false, false, false, false, false, false, false, false, false, false] rfl rfl (any_of HT_.out (by kernel_rfl)) (fun _ _ _ h => h) (Or.inl ⟨by rfl, ?_⟩) ?_ ?_
                                                  rotate_left
                                                  · intro w'
                                                    go_simp
                                                    with_reducible rfl
                                                  rotate_left
                                                  · simp only [Act.put, List.setIfInBounds_toArray, List.set_cons_zero, List.set_cons_succ, i64_w, i32_w]
                                                    rfl
                                                  refine pure_ (i := 9) (N := some 73) (v := ?_) (a' := ?_) #[false, true, false, false, false, false, false, false, false, true, false, false, false, false, false, false, false] rfl rfl (any_of HT_.out (by kernel_rfl)) (fun _ _ _ h => h) (Or.inl ⟨by rfl, ?_⟩) ?_ ?_
                                                  rotate_left
                                                  · intro w'
                                                    go_simp
                                                    with_reducible rfl
                                                  rotate_left
                                                  · simp only [Act.put, List.setIfInBounds_toArray, List.set_cons_zero, List.set_cons_succ, i64_w, i32_w]
                                                    rfl
                                                  refine inv_at [0, 2, 3, 4, 5, 6, 7, 8, 10, 11, 12, 13, 14, 15, 16] (fun a0_ b a w' => ∃ (v116 : Value) (adz_v116 : Addr) (v120 : Value) (adz_v120 : Addr) (m5_ : Value) (m13_ : Value), a = putSel a0_ b [(0, 64, v116), (2, 66, .int .u8 (bt (rdOf ByteArray.empty t102 x44_3) 0)), (3, 67, .int .i64 (wrap64 (bt (rdOf ByteArray.empty t102 x44_3) 0))), (4, 68, .int .i64 ji28), (5, 69, m5_), (6, 70, .string (rdOf ByteArray.empty y115 (ji28))), (7, 71, .string ((⟨#[92, 117, 48, 48]⟩ : ByteArray) ++ (rdOf ByteArray.empty y115 (ji28)))), (8, 72, v120), (10, 74, .int .u8 (bt (rdOf ByteArray.empty t102 x44_3) 0)), (11, 75, .int .i64 (wrap64 (bt (rdOf ByteArray.empty t102 x44_3) 0))), (12, 76, .int .i64 ji33), (13, 77, m13_), (14, 78, .string (rdOf ByteArray.empty y119 (ji33))), (15, 79, .string (((⟨#[92, 117, 48, 48]⟩ : ByteArray) ++ (rdOf ByteArray.empty y115 (ji28))) ++ (rdOf ByteArray.empty y119 (ji33)))), (16, 11, .string (((⟨#[92, 117, 48, 48]⟩ : ByteArray) ++ (rdOf ByteArray.empty y115 (ji28))) ++ (rdOf ByteArray.empty y119 (ji33))))] ∧ (Kd.R Kd.string 9 w' w.heap.size (fun _ => True) (.slice (some ad114) t102.length co16) t102) ∧ (Below w.heap.size w w') ∧ (b 0 = true → Kd.R Kd.string 9 w' w.heap.size (fun k_ => some k_ ≠ (.slice (some ad114) t102.length co16 : Value).ownBlock) v116 y115) ∧ (b 0 = true → ∃ c_, (v116 : Value) = .slice (some adz_v116) y115.length c_) ∧ (b 8 = true → Kd.R Kd.string 9 w' w.heap.size (fun k_ => some k_ ≠ (.slice (some ad114) t102.length co16 : Value).ownBlock) v120 y119) ∧ (b 8 = true → ∃ c_, (v120 : Value) = .slice (some adz_v120) y119.length c_) ∧ (b 5 = true → (m5_ : Value) = .pointer (some (adz_v116.add ((ji28)).toNat))) ∧ (b 13 = true → (m13_ : Value) = .pointer (some (adz_v120.add ((ji33)).toNat)))) HT_.out HW_.out (by kernel_rfl) (by kernel_rfl) ?_ ?_ ?_
                                                  · exact ⟨.bool false, ⟨0, 0, none⟩, .bool false, ⟨0, 0, none⟩, .bool false, .bool false, by simp only [putSel, Bool.false_eq_true, if_false], HO_42.out, HB.out, fun h_ => absurd h_ (by decide), fun h_ => absurd h_ (by decide), fun h_ => absurd h_ (by decide), fun h_ => absurd h_ (by decide), fun h_ => absurd h_ (by decide), fun h_ => absurd h_ (by decide)⟩
                                                  · skip
                                                    clear HB HO_42
                                                    refine steps_cons ?_ ?_
                                                    · rintro b a w' ⟨v116, adz_v116, v120, adz_v120, m5_, m13_, ha, Q_HO_42, Q_HB, Q_HO117, Q_HA_HO117, Q_HO121, Q_HA_HO121, Q_X5_, Q_X13_⟩ hb_ hon hoff
                                                      refine ⟨_, rfl, fun K hK => ?_⟩
                                                      replace ha := Aside0.mk ha
                                                      have HO_42 := Aside0.mk Q_HO_42
                                                      have HB := Aside0.mk Q_HB
                                                      refine Kd.R_lit_step Kd.string _ 9 ?hg (N := 64) ?hd (xs := ([(⟨#[48]⟩ : ByteArray), (⟨#[49]⟩ : ByteArray), (⟨#[50]⟩ : ByteArray), (⟨#[51]⟩ : ByteArray), (⟨#[52]⟩ : ByteArray), (⟨#[53]⟩ : ByteArray), (⟨#[54]⟩ : ByteArray), (⟨#[55]⟩ : ByteArray)] : List ByteArray)) (inner := [.string (⟨#[48]⟩ : ByteArray), .string (⟨#[49]⟩ : ByteArray), .string (⟨#[50]⟩ : ByteArray), .string (⟨#[51]⟩ : ByteArray), .string (⟨#[52]⟩ : ByteArray), .string (⟨#[53]⟩ : ByteArray), .string (⟨#[54]⟩ : ByteArray), .string (⟨#[55]⟩ : ByteArray)]) (ok := fun _ => True) (okp := fun _ => True) ?hr ?hp (fun _ hk => hk) trivial (Below.refl _ _) (Nat.le_refl _) (by simp) ?_; (case hd => rfl); (case hg => rfl); (case hr => first | (go_simp; done) | (go_simp; rfl)); (case hp => exact (Reps.one (show Kd.M Kd.string _ _ _ (⟨#[48]⟩ : ByteArray) [.string (⟨#[48]⟩ : ByteArray)] from rfl) (Reps.one (show Kd.M Kd.string _ _ _ (⟨#[49]⟩ : ByteArray) [.string (⟨#[49]⟩ : ByteArray)] from rfl) (Reps.one (show Kd.M Kd.string _ _ _ (⟨#[50]⟩ : ByteArray) [.string (⟨#[50]⟩ : ByteArray)] from rfl) (Reps.one (show Kd.M Kd.string _ _ _ (⟨#[51]⟩ : ByteArray) [.string (⟨#[51]⟩ : ByteArray)] from rfl) (Reps.one (show Kd.M Kd.string _ _ _ (⟨#[52]⟩ : ByteArray) [.string (⟨#[52]⟩ : ByteArray)] from rfl) (Reps.one (show Kd.M Kd.string _ _ _ (⟨#[53]⟩ : ByteArray) [.string (⟨#[53]⟩ : ByteArray)] from rfl) (Reps.one (show Kd.M Kd.string _ _ _ (⟨#[54]⟩ : ByteArray) [.string (⟨#[54]⟩ : ByteArray)] from rfl) (Reps.one (show Kd.M Kd.string _ _ _ (⟨#[55]⟩ : ByteArray) [.string (⟨#[55]⟩ : ByteArray)] from rfl) (Reps.none _ _))))))))))
                                                      intro v116 w39 ho40 hb hg_ hnew_
                                                      clear hg_ hnew_
                                                      (first | rw [← Ny115.out] at ho40 | (simp only [Int.reduceToNat] at ho40; rw [← Ny115.out] at ho40))
                                                      have n0_ := Aside0.mk (Kd.R_elder' (by (with_reducible repeat (first | apply Kd.R_alloc | apply Kd.R_drewN | apply Kd.R_drew)); exact HO_42.out) (Kd.R_base ho40) hb)
                                                      have n1_ := Aside0.mk (Kd.R_lower (Kd.R_new' ho40 (Kd.R_lt (by (with_reducible repeat (first | apply Kd.R_alloc | apply Kd.R_drewN | apply Kd.R_drew)); exact HO_42.out))) (below_size (by repeat (first | (with_reducible first | exact HB.out | apply below_alloc | apply pw_below_drewN | apply below_drew1) | exact HB.out))))
                                                      have n2_ := Aside0.mk (below_step (by repeat (first | (with_reducible first | exact HB.out | apply below_alloc | apply pw_below_drewN | apply below_drew1) | exact HB.out)) hb)
                                                      have z_HO121 := fun (h0_ : b 8 = true) => (show Kd.R Kd.string 9 w39 w.heap.size (fun k_ => some k_ ≠ (.slice (some ad114) t102.length co16 : Value).ownBlock) v120 y119 from by first | exact (Kd.R_elder' (by (with_reducible repeat (first | apply Kd.R_alloc | apply Kd.R_drewN | apply Kd.R_drew)); exact (Q_HO121 h0_)) (Kd.R_base ho40) hb) | exact Kd.R_mono (Kd.R_elder' (by (with_reducible repeat (first | apply Kd.R_alloc | apply Kd.R_drewN | apply Kd.R_drew)); exact (Q_HO121 h0_)) (Kd.R_base ho40) hb) (fun _ h_ => by first | trivial | exact h_ | exact h_.1))
                                                      clear HO_42
                                                      clear HB
                                                      have HO_42 := n0_
                                                      have HO117 := n1_
                                                      have HB := n2_
                                                      clear n0_ n1_ n2_
                                                      clear hb ho40
                                                      obtain ⟨Ao41, co41, eo41⟩ := Kd.R_slice HO117.out
                                                      subst eo41
                                                      obtain ⟨ado41, fo41, _⟩ := Kd.at_string (Kd.R_reads' HO117.out).2.2 0 (by decide) (by rw [Ny115.out]; simp)
                                                      cases fo41
                                                      refine hK.out _ _ ⟨.slice (some ado41) y115.length co41, ado41, v120, adz_v120, m5_, m13_, (by rw [ha.out]; exact putSel_upk 0 hb_ rfl rfl rfl), (by (with_reducible repeat (first | apply Kd.R_alloc | apply Kd.R_drewN | apply Kd.R_drew)); exact Kd.R_mono HO_42.out (fun _ hk => by first | exact hk.2 | trivial)), (by repeat (first | (with_reducible first | exact HB.out | apply below_alloc | apply pw_below_drewN | apply below_drew1) | exact HB.out)), fun _ => (by (with_reducible repeat (first | apply Kd.R_alloc | apply Kd.R_drewN | apply Kd.R_drew)); exact Kd.R_mono HO117.out (fun _ hk => hk.2)), fun _ => ⟨_, rfl⟩, z_HO121, Q_HA_HO121, fun h0_ => absurd ((hoff 5 (by kernel_rfl)).symm.trans h0_) (by decide), Q_X13_⟩
                                                    refine steps_cons ?_ ?_
                                                    · rintro b a w' ⟨v116, adz_v116, v120, adz_v120, m5_, m13_, ha, Q_HO_42, Q_HB, Q_HO117, Q_HA_HO117, Q_HO121, Q_HA_HO121, Q_X5_, Q_X13_⟩ hb_ hon hoff
                                                      refine ⟨_, rfl, fun K hK => ?_⟩
                                                      have e65 : a.tmps[65]? = some (.string (rdOf ByteArray.empty t102 x44_3)) := by rw [ha]; exact (putSel_off rfl).trans rfl
                                                      replace ha := Aside0.mk ha
                                                      have HO_42 := Aside0.mk Q_HO_42
                                                      have HB := Aside0.mk Q_HB
                                                      refine value_ (w1 := w') (v := .int .u8 (bt (rdOf ByteArray.empty t102 x44_3) 0)) (by rfl) rfl ?_ ?_
                                                      · go_simp
                                                        (try simp only [i64_w])
                                                        try rfl
                                                        try (first | (have q_ := c36; rw [ByteArray.size_append] at q_; exact q_) | (have q_ := c59; rw [ByteArray.size_append] at q_; exact q_))
                                                      refine hK.out _ _ ⟨v116, adz_v116, v120, adz_v120, m5_, m13_, (by rw [ha.out]; exact putSel_upk 1 hb_ rfl rfl rfl), Q_HO_42, Q_HB, Q_HO117, Q_HA_HO117, Q_HO121, Q_HA_HO121, fun h0_ => absurd ((hoff 5 (by kernel_rfl)).symm.trans h0_) (by decide), Q_X13_⟩
                                                    refine steps_cons ?_ ?_
                                                    · rintro b a w' ⟨v116, adz_v116, v120, adz_v120, m5_, m13_, ha, Q_HO_42, Q_HB, Q_HO117, Q_HA_HO117, Q_HO121, Q_HA_HO121, Q_X5_, Q_X13_⟩ hb_ hon hoff
                                                      refine ⟨_, rfl, fun K hK => ?_⟩
                                                      have e66 : a.tmps[66]? = some (.int .u8 (bt (rdOf ByteArray.empty t102 x44_3) 0)) := by rw [ha]; exact putSel_on (e := (2, 66, .int .u8 (bt (rdOf ByteArray.empty t102 x44_3) 0))) 1 rfl rfl (hon 2 (by kernel_rfl)) rfl
                                                      replace ha := Aside0.mk ha
                                                      have HO_42 := Aside0.mk Q_HO_42
                                                      have HB := Aside0.mk Q_HB
                                                      refine value_ (w1 := w') (v := .int .i64 (wrap64 (bt (rdOf ByteArray.empty t102 x44_3) 0))) (by rfl) rfl ?_ ?_
                                                      · go_simp
                                                        (try simp only [i64_w])
                                                        try rfl
                                                        try (first | (have q_ := c36; rw [ByteArray.size_append] at q_; exact q_) | (have q_ := c59; rw [ByteArray.size_append] at q_; exact q_))
                                                      refine hK.out _ _ ⟨v116, adz_v116, v120, adz_v120, m5_, m13_, (by rw [ha.out]; exact putSel_upk 2 hb_ rfl rfl rfl), Q_HO_42, Q_HB, Q_HO117, Q_HA_HO117, Q_HO121, Q_HA_HO121, fun h0_ => absurd ((hoff 5 (by kernel_rfl)).symm.trans h0_) (by decide), Q_X13_⟩
                                                    refine steps_cons ?_ ?_
                                                    · rintro b a w' ⟨v116, adz_v116, v120, adz_v120, m5_, m13_, ha, Q_HO_42, Q_HB, Q_HO117, Q_HA_HO117, Q_HO121, Q_HA_HO121, Q_X5_, Q_X13_⟩ hb_ hon hoff
                                                      refine ⟨_, rfl, fun K hK => ?_⟩
                                                      have e67 : a.tmps[67]? = some (.int .i64 (wrap64 (bt (rdOf ByteArray.empty t102 x44_3) 0))) := by rw [ha]; exact putSel_on (e := (3, 67, .int .i64 (wrap64 (bt (rdOf ByteArray.empty t102 x44_3) 0)))) 2 rfl rfl (hon 3 (by kernel_rfl)) rfl
                                                      replace ha := Aside0.mk ha
                                                      have HO_42 := Aside0.mk Q_HO_42
                                                      have HB := Aside0.mk Q_HB
                                                      refine value_ (w1 := w') (v := .int .i64 ji28) (by rfl) rfl ?_ ?_
                                                      · go_simp
                                                        (try simp only [i64_w])
                                                        try rfl
                                                        try (first | (have q_ := c36; rw [ByteArray.size_append] at q_; exact q_) | (have q_ := c59; rw [ByteArray.size_append] at q_; exact q_))
                                                      refine hK.out _ _ ⟨v116, adz_v116, v120, adz_v120, m5_, m13_, (by rw [ha.out]; exact putSel_upk 3 hb_ rfl rfl rfl), Q_HO_42, Q_HB, Q_HO117, Q_HA_HO117, Q_HO121, Q_HA_HO121, fun h0_ => absurd ((hoff 5 (by kernel_rfl)).symm.trans h0_) (by decide), Q_X13_⟩
                                                    refine steps_cons ?_ ?_
                                                    · rintro b a w' ⟨v116, adz_v116, v120, adz_v120, m5_, m13_, ha, Q_HO_42, Q_HB, Q_HO117, Q_HA_HO117, Q_HO121, Q_HA_HO121, Q_X5_, Q_X13_⟩ hb_ hon hoff
                                                      refine ⟨_, rfl, fun K hK => ?_⟩
                                                      have e64 : a.tmps[64]? = some (v116) := by rw [ha]; exact putSel_on (e := (0, 64, v116)) 0 rfl rfl (hon 0 (by kernel_rfl)) rfl
                                                      have e68 : a.tmps[68]? = some (.int .i64 ji28) := by rw [ha]; exact putSel_on (e := (4, 68, .int .i64 ji28)) 3 rfl rfl (hon 4 (by kernel_rfl)) rfl
                                                      replace ha := Aside0.mk ha
                                                      have HO_42 := Aside0.mk Q_HO_42
                                                      have HB := Aside0.mk Q_HB
                                                      have HO117 := Aside0.mk (Q_HO117 (hon 0 (by kernel_rfl)))
                                                      have HA_HO117 := Aside0.mk (Q_HA_HO117 (hon 0 (by kernel_rfl)))
                                                      obtain ⟨c_, hv_⟩ := HA_HO117.out
                                                      rw [hv_] at e64
                                                      refine value_ (w1 := w') (v := .pointer (some (adz_v116.add ((ji28)).toNat))) (by rfl) rfl ?_ ?_
                                                      · go_simp
                                                        (try simp only [i64_w])
                                                        try rfl
                                                        try (first | (have q_ := c36; rw [ByteArray.size_append] at q_; exact q_) | (have q_ := c59; rw [ByteArray.size_append] at q_; exact q_))
                                                      refine hK.out _ _ ⟨v116, adz_v116, v120, adz_v120, (.pointer (some (adz_v116.add ((ji28)).toNat))), m13_, (by rw [ha.out]; exact putSel_upk 4 hb_ rfl rfl rfl), Q_HO_42, Q_HB, Q_HO117, Q_HA_HO117, Q_HO121, Q_HA_HO121, fun _ => rfl, Q_X13_⟩
                                                    refine steps_cons ?_ ?_
                                                    · rintro b a w' ⟨v116, adz_v116, v120, adz_v120, m5_, m13_, ha, Q_HO_42, Q_HB, Q_HO117, Q_HA_HO117, Q_HO121, Q_HA_HO121, Q_X5_, Q_X13_⟩ hb_ hon hoff
                                                      refine ⟨_, rfl, fun K hK => ?_⟩
                                                      have e69 : a.tmps[69]? = some (m5_) := by rw [ha]; exact putSel_on (e := (5, 69, m5_)) 4 rfl rfl (hon 5 (by kernel_rfl)) rfl
                                                      rw [Q_X5_ (hon 5 (by kernel_rfl))] at e69
                                                      replace ha := Aside0.mk ha
                                                      have HO_42 := Aside0.mk Q_HO_42
                                                      have HB := Aside0.mk Q_HB
                                                      have HO117 := Aside0.mk (Q_HO117 (hon 0 (by kernel_rfl)))
                                                      have HA_HO117 := Aside0.mk (Q_HA_HO117 (hon 0 (by kernel_rfl)))
                                                      obtain ⟨c_, hv_⟩ := HA_HO117.out
                                                      have hF_ := HO117.out
                                                      rw [hv_] at hF_
                                                      obtain ⟨ad_, ea_, hx_⟩ := Kd.at_string (Kd.R_reads' hF_).2.2 (ji28) (of_eq_true pi118) (of_eq_true qi118)
                                                      cases ea_
                                                      refine value_ (w1 := w') (v := .string (rdOf ByteArray.empty y115 (ji28))) (by rfl) rfl ?_ ?_
                                                      · go_simp
                                                        (try simp only [i64_w])
                                                        try rfl
                                                        try (first | (have q_ := c36; rw [ByteArray.size_append] at q_; exact q_) | (have q_ := c59; rw [ByteArray.size_append] at q_; exact q_))
                                                      refine hK.out _ _ ⟨v116, adz_v116, v120, adz_v120, m5_, m13_, (by rw [ha.out]; exact putSel_upk 5 hb_ rfl rfl rfl), Q_HO_42, Q_HB, Q_HO117, Q_HA_HO117, Q_HO121, Q_HA_HO121, Q_X5_, Q_X13_⟩
                                                    refine steps_cons ?_ ?_
                                                    · rintro b a w' ⟨v116, adz_v116, v120, adz_v120, m5_, m13_, ha, Q_HO_42, Q_HB, Q_HO117, Q_HA_HO117, Q_HO121, Q_HA_HO121, Q_X5_, Q_X13_⟩ hb_ hon hoff
                                                      refine ⟨_, rfl, fun K hK => ?_⟩
                                                      have e70 : a.tmps[70]? = some (.string (rdOf ByteArray.empty y115 (ji28))) := by rw [ha]; exact putSel_on (e := (6, 70, .string (rdOf ByteArray.empty y115 (ji28)))) 5 rfl rfl (hon 6 (by kernel_rfl)) rfl
                                                      replace ha := Aside0.mk ha
                                                      have HO_42 := Aside0.mk Q_HO_42
                                                      have HB := Aside0.mk Q_HB
                                                      have HO117 := Aside0.mk (Q_HO117 (hon 0 (by kernel_rfl)))
                                                      have HA_HO117 := Aside0.mk (Q_HA_HO117 (hon 0 (by kernel_rfl)))
                                                      refine value_ (w1 := w') (v := .string ((⟨#[92, 117, 48, 48]⟩ : ByteArray) ++ (rdOf ByteArray.empty y115 (ji28)))) (by rfl) rfl ?_ ?_
                                                      · go_simp
                                                        (try simp only [i64_w])
                                                        try rfl
                                                        try (first | (have q_ := c36; rw [ByteArray.size_append] at q_; exact q_) | (have q_ := c59; rw [ByteArray.size_append] at q_; exact q_))
                                                      refine hK.out _ _ ⟨v116, adz_v116, v120, adz_v120, m5_, m13_, (by rw [ha.out]; exact putSel_upk 6 hb_ rfl rfl rfl), Q_HO_42, Q_HB, Q_HO117, Q_HA_HO117, Q_HO121, Q_HA_HO121, Q_X5_, Q_X13_⟩
                                                    refine steps_cons ?_ ?_
                                                    · rintro b a w' ⟨v116, adz_v116, v120, adz_v120, m5_, m13_, ha, Q_HO_42, Q_HB, Q_HO117, Q_HA_HO117, Q_HO121, Q_HA_HO121, Q_X5_, Q_X13_⟩ hb_ hon hoff
                                                      refine ⟨_, rfl, fun K hK => ?_⟩
                                                      replace ha := Aside0.mk ha
                                                      have HO_42 := Aside0.mk Q_HO_42
                                                      have HB := Aside0.mk Q_HB
                                                      refine Kd.R_lit_step Kd.string _ 9 ?hg (N := 72) ?hd (xs := ([(⟨#[48]⟩ : ByteArray), (⟨#[49]⟩ : ByteArray), (⟨#[50]⟩ : ByteArray), (⟨#[51]⟩ : ByteArray), (⟨#[52]⟩ : ByteArray), (⟨#[53]⟩ : ByteArray), (⟨#[54]⟩ : ByteArray), (⟨#[55]⟩ : ByteArray), (⟨#[56]⟩ : ByteArray), (⟨#[57]⟩ : ByteArray), (⟨#[65]⟩ : ByteArray), (⟨#[66]⟩ : ByteArray), (⟨#[67]⟩ : ByteArray), (⟨#[68]⟩ : ByteArray), (⟨#[69]⟩ : ByteArray), (⟨#[70]⟩ : ByteArray)] : List ByteArray)) (inner := [.string (⟨#[48]⟩ : ByteArray), .string (⟨#[49]⟩ : ByteArray), .string (⟨#[50]⟩ : ByteArray), .string (⟨#[51]⟩ : ByteArray), .string (⟨#[52]⟩ : ByteArray), .string (⟨#[53]⟩ : ByteArray), .string (⟨#[54]⟩ : ByteArray), .string (⟨#[55]⟩ : ByteArray), .string (⟨#[56]⟩ : ByteArray), .string (⟨#[57]⟩ : ByteArray), .string (⟨#[65]⟩ : ByteArray), .string (⟨#[66]⟩ : ByteArray), .string (⟨#[67]⟩ : ByteArray), .string (⟨#[68]⟩ : ByteArray), .string (⟨#[69]⟩ : ByteArray), .string (⟨#[70]⟩ : ByteArray)]) (ok := fun _ => True) (okp := fun _ => True) ?hr ?hp (fun _ hk => hk) trivial (Below.refl _ _) (Nat.le_refl _) (by simp) ?_; (case hd => rfl); (case hg => rfl); (case hr => first | (go_simp; done) | (go_simp; rfl)); (case hp => exact (Reps.one (show Kd.M Kd.string _ _ _ (⟨#[48]⟩ : ByteArray) [.string (⟨#[48]⟩ : ByteArray)] from rfl) (Reps.one (show Kd.M Kd.string _ _ _ (⟨#[49]⟩ : ByteArray) [.string (⟨#[49]⟩ : ByteArray)] from rfl) (Reps.one (show Kd.M Kd.string _ _ _ (⟨#[50]⟩ : ByteArray) [.string (⟨#[50]⟩ : ByteArray)] from rfl) (Reps.one (show Kd.M Kd.string _ _ _ (⟨#[51]⟩ : ByteArray) [.string (⟨#[51]⟩ : ByteArray)] from rfl) (Reps.one (show Kd.M Kd.string _ _ _ (⟨#[52]⟩ : ByteArray) [.string (⟨#[52]⟩ : ByteArray)] from rfl) (Reps.one (show Kd.M Kd.string _ _ _ (⟨#[53]⟩ : ByteArray) [.string (⟨#[53]⟩ : ByteArray)] from rfl) (Reps.one (show Kd.M Kd.string _ _ _ (⟨#[54]⟩ : ByteArray) [.string (⟨#[54]⟩ : ByteArray)] from rfl) (Reps.one (show Kd.M Kd.string _ _ _ (⟨#[55]⟩ : ByteArray) [.string (⟨#[55]⟩ : ByteArray)] from rfl) (Reps.one (show Kd.M Kd.string _ _ _ (⟨#[56]⟩ : ByteArray) [.string (⟨#[56]⟩ : ByteArray)] from rfl) (Reps.one (show Kd.M Kd.string _ _ _ (⟨#[57]⟩ : ByteArray) [.string (⟨#[57]⟩ : ByteArray)] from rfl) (Reps.one (show Kd.M Kd.string _ _ _ (⟨#[65]⟩ : ByteArray) [.string (⟨#[65]⟩ : ByteArray)] from rfl) (Reps.one (show Kd.M Kd.string _ _ _ (⟨#[66]⟩ : ByteArray) [.string (⟨#[66]⟩ : ByteArray)] from rfl) (Reps.one (show Kd.M Kd.string _ _ _ (⟨#[67]⟩ : ByteArray) [.string (⟨#[67]⟩ : ByteArray)] from rfl) (Reps.one (show Kd.M Kd.string _ _ _ (⟨#[68]⟩ : ByteArray) [.string (⟨#[68]⟩ : ByteArray)] from rfl) (Reps.one (show Kd.M Kd.string _ _ _ (⟨#[69]⟩ : ByteArray) [.string (⟨#[69]⟩ : ByteArray)] from rfl) (Reps.one (show Kd.M Kd.string _ _ _ (⟨#[70]⟩ : ByteArray) [.string (⟨#[70]⟩ : ByteArray)] from rfl) (Reps.none _ _))))))))))))))))))
                                                      intro v120 w39 ho40 hb hg_ hnew_
                                                      clear hg_ hnew_
                                                      (first | rw [← Ny119.out] at ho40 | (simp only [Int.reduceToNat] at ho40; rw [← Ny119.out] at ho40))
                                                      have n0_ := Aside0.mk (Kd.R_elder' (by (with_reducible repeat (first | apply Kd.R_alloc | apply Kd.R_drewN | apply Kd.R_drew)); exact HO_42.out) (Kd.R_base ho40) hb)
                                                      have n1_ := Aside0.mk (Kd.R_lower (Kd.R_new' ho40 (Kd.R_lt (by (with_reducible repeat (first | apply Kd.R_alloc | apply Kd.R_drewN | apply Kd.R_drew)); exact HO_42.out))) (below_size (by repeat (first | (with_reducible first | exact HB.out | apply below_alloc | apply pw_below_drewN | apply below_drew1) | exact HB.out))))
                                                      have n2_ := Aside0.mk (below_step (by repeat (first | (with_reducible first | exact HB.out | apply below_alloc | apply pw_below_drewN | apply below_drew1) | exact HB.out)) hb)
                                                      have z_HO117 := fun (h0_ : b 0 = true) => (show Kd.R Kd.string 9 w39 w.heap.size (fun k_ => some k_ ≠ (.slice (some ad114) t102.length co16 : Value).ownBlock) v116 y115 from by first | exact (Kd.R_elder' (by (with_reducible repeat (first | apply Kd.R_alloc | apply Kd.R_drewN | apply Kd.R_drew)); exact (Q_HO117 h0_)) (Kd.R_base ho40) hb) | exact Kd.R_mono (Kd.R_elder' (by (with_reducible repeat (first | apply Kd.R_alloc | apply Kd.R_drewN | apply Kd.R_drew)); exact (Q_HO117 h0_)) (Kd.R_base ho40) hb) (fun _ h_ => by first | trivial | exact h_ | exact h_.1))
                                                      clear HO_42
                                                      clear HB
                                                      have HO_42 := n0_
                                                      have HO121 := n1_
                                                      have HB := n2_
                                                      clear n0_ n1_ n2_
                                                      clear hb ho40
                                                      obtain ⟨Ao41, co41, eo41⟩ := Kd.R_slice HO121.out
                                                      subst eo41
                                                      obtain ⟨ado41, fo41, _⟩ := Kd.at_string (Kd.R_reads' HO121.out).2.2 0 (by decide) (by rw [Ny119.out]; simp)
                                                      cases fo41
                                                      refine hK.out _ _ ⟨v116, adz_v116, .slice (some ado41) y119.length co41, ado41, m5_, m13_, (by rw [ha.out]; exact putSel_upk 7 hb_ rfl rfl rfl), (by (with_reducible repeat (first | apply Kd.R_alloc | apply Kd.R_drewN | apply Kd.R_drew)); exact Kd.R_mono HO_42.out (fun _ hk => by first | exact hk.2 | trivial)), (by repeat (first | (with_reducible first | exact HB.out | apply below_alloc | apply pw_below_drewN | apply below_drew1) | exact HB.out)), z_HO117, Q_HA_HO117, fun _ => (by (with_reducible repeat (first | apply Kd.R_alloc | apply Kd.R_drewN | apply Kd.R_drew)); exact Kd.R_mono HO121.out (fun _ hk => hk.2)), fun _ => ⟨_, rfl⟩, Q_X5_, fun h0_ => absurd ((hoff 13 (by kernel_rfl)).symm.trans h0_) (by decide)⟩
                                                    refine steps_cons ?_ ?_
                                                    · rintro b a w' ⟨v116, adz_v116, v120, adz_v120, m5_, m13_, ha, Q_HO_42, Q_HB, Q_HO117, Q_HA_HO117, Q_HO121, Q_HA_HO121, Q_X5_, Q_X13_⟩ hb_ hon hoff
                                                      refine ⟨_, rfl, fun K hK => ?_⟩
                                                      have e73 : a.tmps[73]? = some (.string (rdOf ByteArray.empty t102 x44_3)) := by rw [ha]; exact (putSel_off rfl).trans rfl
                                                      replace ha := Aside0.mk ha
                                                      have HO_42 := Aside0.mk Q_HO_42
                                                      have HB := Aside0.mk Q_HB
                                                      refine value_ (w1 := w') (v := .int .u8 (bt (rdOf ByteArray.empty t102 x44_3) 0)) (by rfl) rfl ?_ ?_
                                                      · go_simp
                                                        (try simp only [i64_w])
                                                        try rfl
                                                        try (first | (have q_ := c36; rw [ByteArray.size_append] at q_; exact q_) | (have q_ := c59; rw [ByteArray.size_append] at q_; exact q_))
                                                      refine hK.out _ _ ⟨v116, adz_v116, v120, adz_v120, m5_, m13_, (by rw [ha.out]; exact putSel_upk 8 hb_ rfl rfl rfl), Q_HO_42, Q_HB, Q_HO117, Q_HA_HO117, Q_HO121, Q_HA_HO121, Q_X5_, fun h0_ => absurd ((hoff 13 (by kernel_rfl)).symm.trans h0_) (by decide)⟩
                                                    refine steps_cons ?_ ?_
                                                    · rintro b a w' ⟨v116, adz_v116, v120, adz_v120, m5_, m13_, ha, Q_HO_42, Q_HB, Q_HO117, Q_HA_HO117, Q_HO121, Q_HA_HO121, Q_X5_, Q_X13_⟩ hb_ hon hoff
                                                      refine ⟨_, rfl, fun K hK => ?_⟩
                                                      have e74 : a.tmps[74]? = some (.int .u8 (bt (rdOf ByteArray.empty t102 x44_3) 0)) := by rw [ha]; exact putSel_on (e := (10, 74, .int .u8 (bt (rdOf ByteArray.empty t102 x44_3) 0))) 8 rfl rfl (hon 10 (by kernel_rfl)) rfl
                                                      replace ha := Aside0.mk ha
                                                      have HO_42 := Aside0.mk Q_HO_42
                                                      have HB := Aside0.mk Q_HB
                                                      refine value_ (w1 := w') (v := .int .i64 (wrap64 (bt (rdOf ByteArray.empty t102 x44_3) 0))) (by rfl) rfl ?_ ?_
                                                      · go_simp
                                                        (try simp only [i64_w])
                                                        try rfl
                                                        try (first | (have q_ := c36; rw [ByteArray.size_append] at q_; exact q_) | (have q_ := c59; rw [ByteArray.size_append] at q_; exact q_))
                                                      refine hK.out _ _ ⟨v116, adz_v116, v120, adz_v120, m5_, m13_, (by rw [ha.out]; exact putSel_upk 9 hb_ rfl rfl rfl), Q_HO_42, Q_HB, Q_HO117, Q_HA_HO117, Q_HO121, Q_HA_HO121, Q_X5_, fun h0_ => absurd ((hoff 13 (by kernel_rfl)).symm.trans h0_) (by decide)⟩
                                                    refine steps_cons ?_ ?_
                                                    · rintro b a w' ⟨v116, adz_v116, v120, adz_v120, m5_, m13_, ha, Q_HO_42, Q_HB, Q_HO117, Q_HA_HO117, Q_HO121, Q_HA_HO121, Q_X5_, Q_X13_⟩ hb_ hon hoff
                                                      refine ⟨_, rfl, fun K hK => ?_⟩
                                                      have e75 : a.tmps[75]? = some (.int .i64 (wrap64 (bt (rdOf ByteArray.empty t102 x44_3) 0))) := by rw [ha]; exact putSel_on (e := (11, 75, .int .i64 (wrap64 (bt (rdOf ByteArray.empty t102 x44_3) 0)))) 9 rfl rfl (hon 11 (by kernel_rfl)) rfl
                                                      replace ha := Aside0.mk ha
                                                      have HO_42 := Aside0.mk Q_HO_42
                                                      have HB := Aside0.mk Q_HB
                                                      refine value_ (w1 := w') (v := .int .i64 ji33) (by rfl) rfl ?_ ?_
                                                      · go_simp
                                                        (try simp only [i64_w])
                                                        try rfl
                                                        try (first | (have q_ := c36; rw [ByteArray.size_append] at q_; exact q_) | (have q_ := c59; rw [ByteArray.size_append] at q_; exact q_))
                                                      refine hK.out _ _ ⟨v116, adz_v116, v120, adz_v120, m5_, m13_, (by rw [ha.out]; exact putSel_upk 10 hb_ rfl rfl rfl), Q_HO_42, Q_HB, Q_HO117, Q_HA_HO117, Q_HO121, Q_HA_HO121, Q_X5_, fun h0_ => absurd ((hoff 13 (by kernel_rfl)).symm.trans h0_) (by decide)⟩
                                                    refine steps_cons ?_ ?_
                                                    · rintro b a w' ⟨v116, adz_v116, v120, adz_v120, m5_, m13_, ha, Q_HO_42, Q_HB, Q_HO117, Q_HA_HO117, Q_HO121, Q_HA_HO121, Q_X5_, Q_X13_⟩ hb_ hon hoff
                                                      refine ⟨_, rfl, fun K hK => ?_⟩
                                                      have e72 : a.tmps[72]? = some (v120) := by rw [ha]; exact putSel_on (e := (8, 72, v120)) 7 rfl rfl (hon 8 (by kernel_rfl)) rfl
                                                      have e76 : a.tmps[76]? = some (.int .i64 ji33) := by rw [ha]; exact putSel_on (e := (12, 76, .int .i64 ji33)) 10 rfl rfl (hon 12 (by kernel_rfl)) rfl
                                                      replace ha := Aside0.mk ha
                                                      have HO_42 := Aside0.mk Q_HO_42
                                                      have HB := Aside0.mk Q_HB
                                                      have HO121 := Aside0.mk (Q_HO121 (hon 8 (by kernel_rfl)))
                                                      have HA_HO121 := Aside0.mk (Q_HA_HO121 (hon 8 (by kernel_rfl)))
                                                      obtain ⟨c_, hv_⟩ := HA_HO121.out
                                                      rw [hv_] at e72
                                                      refine value_ (w1 := w') (v := .pointer (some (adz_v120.add ((ji33)).toNat))) (by rfl) rfl ?_ ?_
                                                      · go_simp
                                                        (try simp only [i64_w])
                                                        try rfl
                                                        try (first | (have q_ := c36; rw [ByteArray.size_append] at q_; exact q_) | (have q_ := c59; rw [ByteArray.size_append] at q_; exact q_))
                                                      refine hK.out _ _ ⟨v116, adz_v116, v120, adz_v120, m5_, (.pointer (some (adz_v120.add ((ji33)).toNat))), (by rw [ha.out]; exact putSel_upk 11 hb_ rfl rfl rfl), Q_HO_42, Q_HB, Q_HO117, Q_HA_HO117, Q_HO121, Q_HA_HO121, Q_X5_, fun _ => rfl⟩
                                                    refine steps_cons ?_ ?_
                                                    · rintro b a w' ⟨v116, adz_v116, v120, adz_v120, m5_, m13_, ha, Q_HO_42, Q_HB, Q_HO117, Q_HA_HO117, Q_HO121, Q_HA_HO121, Q_X5_, Q_X13_⟩ hb_ hon hoff
                                                      refine ⟨_, rfl, fun K hK => ?_⟩
                                                      have e77 : a.tmps[77]? = some (m13_) := by rw [ha]; exact putSel_on (e := (13, 77, m13_)) 11 rfl rfl (hon 13 (by kernel_rfl)) rfl
                                                      rw [Q_X13_ (hon 13 (by kernel_rfl))] at e77
                                                      replace ha := Aside0.mk ha
                                                      have HO_42 := Aside0.mk Q_HO_42
                                                      have HB := Aside0.mk Q_HB
                                                      have HO121 := Aside0.mk (Q_HO121 (hon 8 (by kernel_rfl)))
                                                      have HA_HO121 := Aside0.mk (Q_HA_HO121 (hon 8 (by kernel_rfl)))
                                                      obtain ⟨c_, hv_⟩ := HA_HO121.out
                                                      have hF_ := HO121.out
                                                      rw [hv_] at hF_
                                                      obtain ⟨ad_, ea_, hx_⟩ := Kd.at_string (Kd.R_reads' hF_).2.2 (ji33) (of_eq_true pi122) (of_eq_true qi122)
                                                      cases ea_
                                                      refine value_ (w1 := w') (v := .string (rdOf ByteArray.empty y119 (ji33))) (by rfl) rfl ?_ ?_
                                                      · go_simp
                                                        (try simp only [i64_w])
                                                        try rfl
                                                        try (first | (have q_ := c36; rw [ByteArray.size_append] at q_; exact q_) | (have q_ := c59; rw [ByteArray.size_append] at q_; exact q_))
                                                      refine hK.out _ _ ⟨v116, adz_v116, v120, adz_v120, m5_, m13_, (by rw [ha.out]; exact putSel_upk 12 hb_ rfl rfl rfl), Q_HO_42, Q_HB, Q_HO117, Q_HA_HO117, Q_HO121, Q_HA_HO121, Q_X5_, Q_X13_⟩
                                                    refine steps_cons ?_ ?_
                                                    · rintro b a w' ⟨v116, adz_v116, v120, adz_v120, m5_, m13_, ha, Q_HO_42, Q_HB, Q_HO117, Q_HA_HO117, Q_HO121, Q_HA_HO121, Q_X5_, Q_X13_⟩ hb_ hon hoff
                                                      refine ⟨_, rfl, fun K hK => ?_⟩
                                                      have e71 : a.tmps[71]? = some (.string ((⟨#[92, 117, 48, 48]⟩ : ByteArray) ++ (rdOf ByteArray.empty y115 (ji28)))) := by rw [ha]; exact putSel_on (e := (7, 71, .string ((⟨#[92, 117, 48, 48]⟩ : ByteArray) ++ (rdOf ByteArray.empty y115 (ji28))))) 6 rfl rfl (hon 7 (by kernel_rfl)) rfl
                                                      have e78 : a.tmps[78]? = some (.string (rdOf ByteArray.empty y119 (ji33))) := by rw [ha]; exact putSel_on (e := (14, 78, .string (rdOf ByteArray.empty y119 (ji33)))) 12 rfl rfl (hon 14 (by kernel_rfl)) rfl
                                                      replace ha := Aside0.mk ha
                                                      have HO_42 := Aside0.mk Q_HO_42
                                                      have HB := Aside0.mk Q_HB
                                                      have HO117 := Aside0.mk (Q_HO117 (hon 0 (by kernel_rfl)))
                                                      have HA_HO117 := Aside0.mk (Q_HA_HO117 (hon 0 (by kernel_rfl)))
                                                      have HO121 := Aside0.mk (Q_HO121 (hon 8 (by kernel_rfl)))
                                                      have HA_HO121 := Aside0.mk (Q_HA_HO121 (hon 8 (by kernel_rfl)))
                                                      refine value_ (w1 := w') (v := .string (((⟨#[92, 117, 48, 48]⟩ : ByteArray) ++ (rdOf ByteArray.empty y115 (ji28))) ++ (rdOf ByteArray.empty y119 (ji33)))) (by rfl) rfl ?_ ?_
                                                      · go_simp
                                                        (try simp only [i64_w])
                                                        try rfl
                                                        try (first | (have q_ := c36; rw [ByteArray.size_append] at q_; exact q_) | (have q_ := c59; rw [ByteArray.size_append] at q_; exact q_))
                                                      refine hK.out _ _ ⟨v116, adz_v116, v120, adz_v120, m5_, m13_, (by rw [ha.out]; exact putSel_upk 13 hb_ rfl rfl rfl), Q_HO_42, Q_HB, Q_HO117, Q_HA_HO117, Q_HO121, Q_HA_HO121, Q_X5_, Q_X13_⟩
                                                    refine steps_cons ?_ ?_
                                                    · rintro b a w' ⟨v116, adz_v116, v120, adz_v120, m5_, m13_, ha, Q_HO_42, Q_HB, Q_HO117, Q_HA_HO117, Q_HO121, Q_HA_HO121, Q_X5_, Q_X13_⟩ hb_ hon hoff
                                                      refine ⟨_, rfl, fun K hK => ?_⟩
                                                      have e79 : a.tmps[79]? = some (.string (((⟨#[92, 117, 48, 48]⟩ : ByteArray) ++ (rdOf ByteArray.empty y115 (ji28))) ++ (rdOf ByteArray.empty y119 (ji33)))) := by rw [ha]; exact putSel_on (e := (15, 79, .string (((⟨#[92, 117, 48, 48]⟩ : ByteArray) ++ (rdOf ByteArray.empty y115 (ji28))) ++ (rdOf ByteArray.empty y119 (ji33))))) 13 rfl rfl (hon 15 (by kernel_rfl)) rfl
                                                      replace ha := Aside0.mk ha
                                                      have HO_42 := Aside0.mk Q_HO_42
                                                      have HB := Aside0.mk Q_HB
                                                      have HO117 := Aside0.mk (Q_HO117 (hon 0 (by kernel_rfl)))
                                                      have HA_HO117 := Aside0.mk (Q_HA_HO117 (hon 0 (by kernel_rfl)))
                                                      have HO121 := Aside0.mk (Q_HO121 (hon 8 (by kernel_rfl)))
                                                      have HA_HO121 := Aside0.mk (Q_HA_HO121 (hon 8 (by kernel_rfl)))
                                                      refine value_ (w1 := w') (v := .string (((⟨#[92, 117, 48, 48]⟩ : ByteArray) ++ (rdOf ByteArray.empty y115 (ji28))) ++ (rdOf ByteArray.empty y119 (ji33)))) (by rfl) rfl ?_ ?_
                                                      · go_simp
                                                        (try simp only [i64_w])
                                                        try rfl
                                                        try (first | (have q_ := c36; rw [ByteArray.size_append] at q_; exact q_) | (have q_ := c59; rw [ByteArray.size_append] at q_; exact q_))
                                                      refine hK.out _ _ ⟨v116, adz_v116, v120, adz_v120, m5_, m13_, (by rw [ha.out]; exact putSel_upk 14 hb_ rfl rfl rfl), Q_HO_42, Q_HB, Q_HO117, Q_HA_HO117, Q_HO121, Q_HA_HO121, Q_X5_, Q_X13_⟩
                                                    exact steps_nil
                                                  rintro b a w45 hall ⟨v116, adz_v116, v120, adz_v120, m5_, m13_, ha, Q_HO_42, Q_HB, Q_HO117, Q_HA_HO117, Q_HO121, Q_HA_HO121, Q_X5_, Q_X13_⟩
                                                  clear HB HO_42
                                                  have hb0_ := hall 0 (by kernel_rfl)
                                                  have hb2_ := hall 2 (by kernel_rfl)
                                                  have hb3_ := hall 3 (by kernel_rfl)
                                                  have hb4_ := hall 4 (by kernel_rfl)
                                                  have hb5_ := hall 5 (by kernel_rfl)
                                                  have hb6_ := hall 6 (by kernel_rfl)
                                                  have hb7_ := hall 7 (by kernel_rfl)
                                                  have hb8_ := hall 8 (by kernel_rfl)
                                                  have hb10_ := hall 10 (by kernel_rfl)
                                                  have hb11_ := hall 11 (by kernel_rfl)
                                                  have hb12_ := hall 12 (by kernel_rfl)
                                                  have hb13_ := hall 13 (by kernel_rfl)
                                                  have hb14_ := hall 14 (by kernel_rfl)
                                                  have hb15_ := hall 15 (by kernel_rfl)
                                                  have hb16_ := hall 16 (by kernel_rfl)
                                                  subst ha
                                                  obtain rfl := Q_X5_ hb5_
                                                  obtain rfl := Q_X13_ hb13_
                                                  simp only [putSel, hb0_, hb2_, hb3_, hb4_, hb5_, hb6_, hb7_, hb8_, hb10_, hb11_, hb12_, hb13_, hb14_, hb15_, hb16_, if_true, Act.put, List.setIfInBounds_toArray, List.set_cons_zero, List.set_cons_succ]
                                                  have HO_42 := Aside0.mk Q_HO_42
                                                  clear Q_HO_42
                                                  have HB := Aside0.mk Q_HB
                                                  clear Q_HB
                                                  have HO117 := Aside0.mk (Q_HO117 hb0_)
                                                  clear Q_HO117
                                                  have HA_HO117 := Aside0.mk (Q_HA_HO117 hb0_)
                                                  clear Q_HA_HO117
                                                  have HO121 := Aside0.mk (Q_HO121 hb8_)
                                                  clear Q_HO121
                                                  have HA_HO121 := Aside0.mk (Q_HA_HO121 hb8_)
                                                  clear Q_HA_HO121
                                                  clear hall hb0_ hb2_ hb3_ hb4_ hb5_ hb6_ hb7_ hb8_ hb10_ hb11_ hb12_ hb13_ hb14_ hb15_ hb16_
                                                  obtain ⟨co46, eo46⟩ := HA_HO117.out
                                                  clear HA_HO117
                                                  subst eo46
                                                  obtain ⟨co47, eo47⟩ := HA_HO121.out
                                                  clear HA_HO121
                                                  subst eo47
                                                  try go_wp2
                                                  go_roundg kj19
                                                  case measure => have := HJ4.out; have := HJ10.out; have := HK3.out; have := HJ19.out; omega
                                                  case rel => exact ⟨(x9_3 ++ (((⟨#[92, 117, 48, 48]⟩ : ByteArray) ++ (rdOf ByteArray.empty y115 (ji28))) ++ (rdOf ByteArray.empty y119 (ji33)))), (wrap64 (x44_3 + 1)), (by first | rfl | (simp; done) | (simp only [← hji28, ← hji33] <;> (first | rfl | simp)) | (simp [*]; done)), (by first | rfl | (simp; done) | (simp [*]; done)), H', ⟨by have := HJ4.out; have := HJ10.out; have := HK3.out; have := HJ19.out; omega⟩, ⟨by (with_reducible repeat (first | apply Kd.R_alloc | apply Kd.R_drewN | apply Kd.R_drew)); exact Kd.R_mono HO_42.out (fun _ hk => trivial)⟩, ⟨by repeat (first | (with_reducible first | exact HB.out | apply below_alloc | apply pw_below_drewN | apply below_drew1) | exact HB.out)⟩⟩
                                                · rw [if_neg c37] at H
                                                  exact absurd H (by simp)
                                              · rw [if_neg c36] at H
                                                exact absurd H (by simp)
                                            · rw [if_neg c35] at H
                                              exact absurd H (by simp)
                                          · rw [if_neg c34] at H
                                            exact absurd H (by simp)
                                        · rw [if_neg c31] at H
                                          exact absurd H (by simp)
                                      · rw [if_neg c30] at H
                                        exact absurd H (by simp)
                                    · rw [if_neg c29] at H
                                      exact absurd H (by simp)
                                  · rw [if_neg c26] at H
                                    exact absurd H (by simp)
                                · rw [if_neg c25] at H
                                  have c25b0 : (Op.bytesLess (rdOf ByteArray.empty t102 x44_3).toList ([32] : List UInt8)) = false := by simpa using c25
                                  clear c25
                                  by_cases c48 : (rdOf ByteArray.empty t102 x44_3).toList = ([127] : List UInt8)
                                  · rw [if_pos c48] at H
                                    have c48b0 : ((rdOf ByteArray.empty t102 x44_3).toList == ([127] : List UInt8)) = true := beq_iff_eq.mpr c48
                                    have c48b1 : ((rdOf ByteArray.empty t102 x44_3).toList != ([127] : List UInt8)) = false := bne_eq_false_iff_eq.mpr c48
                                    clear c48
                                    obtain ⟨y123, hy123⟩ : ∃ y_ : List ByteArray, y_ = (([(⟨#[48]⟩ : ByteArray), (⟨#[49]⟩ : ByteArray), (⟨#[50]⟩ : ByteArray), (⟨#[51]⟩ : ByteArray), (⟨#[52]⟩ : ByteArray), (⟨#[53]⟩ : ByteArray), (⟨#[54]⟩ : ByteArray), (⟨#[55]⟩ : ByteArray)] : List ByteArray)) := ⟨_, rfl⟩
                                    replace H : (if 0 < ((rdOf ByteArray.empty t102 x44_3).size : Int) then (if 0 ≤ (wrap64 (Int.tdiv (wrap64 (bt (rdOf ByteArray.empty t102 x44_3) 0)) 16)) then (if (wrap64 (Int.tdiv (wrap64 (bt (rdOf ByteArray.empty t102 x44_3) 0)) 16)) < (y123.length : Int) then (if 4 + (rdOf ByteArray.empty y123 (wrap64 (Int.tdiv (wrap64 (bt (rdOf ByteArray.empty t102 x44_3) 0)) 16))).size ≤ 9223372036854775807 then ((some (([(⟨#[48]⟩ : ByteArray), (⟨#[49]⟩ : ByteArray), (⟨#[50]⟩ : ByteArray), (⟨#[51]⟩ : ByteArray), (⟨#[52]⟩ : ByteArray), (⟨#[53]⟩ : ByteArray), (⟨#[54]⟩ : ByteArray), (⟨#[55]⟩ : ByteArray), (⟨#[56]⟩ : ByteArray), (⟨#[57]⟩ : ByteArray), (⟨#[65]⟩ : ByteArray), (⟨#[66]⟩ : ByteArray), (⟨#[67]⟩ : ByteArray), (⟨#[68]⟩ : ByteArray), (⟨#[69]⟩ : ByteArray), (⟨#[70]⟩ : ByteArray)] : List ByteArray) : List ByteArray)).bind fun y127 => (if 0 ≤ (Int.tmod (wrap64 (bt (rdOf ByteArray.empty t102 x44_3) 0)) 16) then (if (Int.tmod (wrap64 (bt (rdOf ByteArray.empty t102 x44_3) 0)) 16) < (y127.length : Int) then (if ((⟨#[92, 117, 48, 48]⟩ : ByteArray) ++ (rdOf ByteArray.empty y123 (wrap64 (Int.tdiv (wrap64 (bt (rdOf ByteArray.empty t102 x44_3) 0)) 16)))).size + (rdOf ByteArray.empty y127 (Int.tmod (wrap64 (bt (rdOf ByteArray.empty t102 x44_3) 0)) 16)).size ≤ 9223372036854775807 then (if x9_3.size + (((⟨#[92, 117, 48, 48]⟩ : ByteArray) ++ (rdOf ByteArray.empty y123 (wrap64 (Int.tdiv (wrap64 (bt (rdOf ByteArray.empty t102 x44_3) 0)) 16)))) ++ (rdOf ByteArray.empty y127 (Int.tmod (wrap64 (bt (rdOf ByteArray.empty t102 x44_3) 0)) 16))).size ≤ 9223372036854775807 then (polyglotlaw01_TextQuotes.l0 kj19 a0 a1 (x9_3 ++ (((⟨#[92, 117, 48, 48]⟩ : ByteArray) ++ (rdOf ByteArray.empty y123 (wrap64 (Int.tdiv (wrap64 (bt (rdOf ByteArray.empty t102 x44_3) 0)) 16)))) ++ (rdOf ByteArray.empty y127 (Int.tmod (wrap64 (bt (rdOf ByteArray.empty t102 x44_3) 0)) 16)))) t102 (t102.length : Int) (wrap64 (x44_3 + 1))) else (none)) else (none)) else (none)) else (none))) else (none)) else (none)) else (none)) else (none)) = some r := by first | (rw [hy123]; with_reducible exact H) | (have H2_ := (Option.bind_some _ _).symm.trans H; rw [hy123]; with_reducible exact H2_) | (have H2_ := (Option.bind_some _ _).symm.trans H; with_reducible exact H2_) | with_reducible exact H | (rw [hy123]; exact H) | exact H
                                    have Ny123 := Aside0.mk hy123
                                    clear hy123
                                    by_cases c49 : 0 < ((rdOf ByteArray.empty t102 x44_3).size : Int)
                                    · rw [if_pos c49] at H
                                      have c49b0 : decide (0 < ((rdOf ByteArray.empty t102 x44_3).size : Int)) = true := decide_eq_true c49
                                      have c49b1 : decide (0 < (rdOf ByteArray.empty t102 x44_3).size) = true := decide_eq_true (by omega)
                                      clear c49
                                      obtain ⟨ji51, hji51⟩ : ∃ j_ : Int, (wrap64 (Int.tdiv (wrap64 (bt (rdOf ByteArray.empty t102 x44_3) 0)) 16)) = j_ := ⟨_, rfl⟩
                                      replace H : (if 0 ≤ (ji51) then (if (ji51) < (y123.length : Int) then (if 4 + (rdOf ByteArray.empty y123 (ji51)).size ≤ 9223372036854775807 then ((some (([(⟨#[48]⟩ : ByteArray), (⟨#[49]⟩ : ByteArray), (⟨#[50]⟩ : ByteArray), (⟨#[51]⟩ : ByteArray), (⟨#[52]⟩ : ByteArray), (⟨#[53]⟩ : ByteArray), (⟨#[54]⟩ : ByteArray), (⟨#[55]⟩ : ByteArray), (⟨#[56]⟩ : ByteArray), (⟨#[57]⟩ : ByteArray), (⟨#[65]⟩ : ByteArray), (⟨#[66]⟩ : ByteArray), (⟨#[67]⟩ : ByteArray), (⟨#[68]⟩ : ByteArray), (⟨#[69]⟩ : ByteArray), (⟨#[70]⟩ : ByteArray)] : List ByteArray) : List ByteArray)).bind fun y127 => (if 0 ≤ (Int.tmod (wrap64 (bt (rdOf ByteArray.empty t102 x44_3) 0)) 16) then (if (Int.tmod (wrap64 (bt (rdOf ByteArray.empty t102 x44_3) 0)) 16) < (y127.length : Int) then (if ((⟨#[92, 117, 48, 48]⟩ : ByteArray) ++ (rdOf ByteArray.empty y123 (ji51))).size + (rdOf ByteArray.empty y127 (Int.tmod (wrap64 (bt (rdOf ByteArray.empty t102 x44_3) 0)) 16)).size ≤ 9223372036854775807 then (if x9_3.size + (((⟨#[92, 117, 48, 48]⟩ : ByteArray) ++ (rdOf ByteArray.empty y123 (ji51))) ++ (rdOf ByteArray.empty y127 (Int.tmod (wrap64 (bt (rdOf ByteArray.empty t102 x44_3) 0)) 16))).size ≤ 9223372036854775807 then (polyglotlaw01_TextQuotes.l0 kj19 a0 a1 (x9_3 ++ (((⟨#[92, 117, 48, 48]⟩ : ByteArray) ++ (rdOf ByteArray.empty y123 (ji51))) ++ (rdOf ByteArray.empty y127 (Int.tmod (wrap64 (bt (rdOf ByteArray.empty t102 x44_3) 0)) 16)))) t102 (t102.length : Int) (wrap64 (x44_3 + 1))) else (none)) else (none)) else (none)) else (none))) else (none)) else (none)) else (none)) = some r := by first | (rw [hji51] at H; exact H) | (simp only [hji51] at H ⊢; exact H)
                                      have hji51w : (IntKind.i64.wrap (Int.tdiv (wrap64 (bt (rdOf ByteArray.empty t102 x44_3) 0)) 16)) = ji51 := (i64_w _).trans hji51
                                      by_cases c52 : 0 ≤ (ji51)
                                      · rw [if_pos c52] at H
                                        have c52b0 : decide (0 ≤ (ji51)) = true := decide_eq_true c52
                                        clear c52
                                        by_cases c53 : (ji51) < (y123.length : Int)
                                        · rw [if_pos c53] at H
                                          have c53b0 : decide ((ji51) < (y123.length : Int)) = true := decide_eq_true c53
                                          clear c53
                                          by_cases c54 : 4 + (rdOf ByteArray.empty y123 (ji51)).size ≤ 9223372036854775807
                                          · rw [if_pos c54] at H
                                            have c54b0 := eq_true c54
                                            have c54b1 : decide (4 + (rdOf ByteArray.empty y123 (ji51)).size ≤ 9223372036854775807) = true := decide_eq_true c54
                                            try have c54b2 : (9223372036854775807 < 4 + (rdOf ByteArray.empty y123 (ji51)).size) = False := eq_false (Nat.not_lt.2 c54)
                                            obtain ⟨y127, hy127⟩ : ∃ y_ : List ByteArray, y_ = (([(⟨#[48]⟩ : ByteArray), (⟨#[49]⟩ : ByteArray), (⟨#[50]⟩ : ByteArray), (⟨#[51]⟩ : ByteArray), (⟨#[52]⟩ : ByteArray), (⟨#[53]⟩ : ByteArray), (⟨#[54]⟩ : ByteArray), (⟨#[55]⟩ : ByteArray), (⟨#[56]⟩ : ByteArray), (⟨#[57]⟩ : ByteArray), (⟨#[65]⟩ : ByteArray), (⟨#[66]⟩ : ByteArray), (⟨#[67]⟩ : ByteArray), (⟨#[68]⟩ : ByteArray), (⟨#[69]⟩ : ByteArray), (⟨#[70]⟩ : ByteArray)] : List ByteArray)) := ⟨_, rfl⟩
                                            replace H : (if 0 ≤ (Int.tmod (wrap64 (bt (rdOf ByteArray.empty t102 x44_3) 0)) 16) then (if (Int.tmod (wrap64 (bt (rdOf ByteArray.empty t102 x44_3) 0)) 16) < (y127.length : Int) then (if ((⟨#[92, 117, 48, 48]⟩ : ByteArray) ++ (rdOf ByteArray.empty y123 (ji51))).size + (rdOf ByteArray.empty y127 (Int.tmod (wrap64 (bt (rdOf ByteArray.empty t102 x44_3) 0)) 16)).size ≤ 9223372036854775807 then (if x9_3.size + (((⟨#[92, 117, 48, 48]⟩ : ByteArray) ++ (rdOf ByteArray.empty y123 (ji51))) ++ (rdOf ByteArray.empty y127 (Int.tmod (wrap64 (bt (rdOf ByteArray.empty t102 x44_3) 0)) 16))).size ≤ 9223372036854775807 then (polyglotlaw01_TextQuotes.l0 kj19 a0 a1 (x9_3 ++ (((⟨#[92, 117, 48, 48]⟩ : ByteArray) ++ (rdOf ByteArray.empty y123 (ji51))) ++ (rdOf ByteArray.empty y127 (Int.tmod (wrap64 (bt (rdOf ByteArray.empty t102 x44_3) 0)) 16)))) t102 (t102.length : Int) (wrap64 (x44_3 + 1))) else (none)) else (none)) else (none)) else (none)) = some r := by first | (rw [hy127]; with_reducible exact H) | (have H2_ := (Option.bind_some _ _).symm.trans H; rw [hy127]; with_reducible exact H2_) | (have H2_ := (Option.bind_some _ _).symm.trans H; with_reducible exact H2_) | with_reducible exact H | (rw [hy127]; exact H) | exact H
                                            have Ny127 := Aside0.mk hy127
                                            clear hy127
                                            obtain ⟨ji56, hji56⟩ : ∃ j_ : Int, (Int.tmod (wrap64 (bt (rdOf ByteArray.empty t102 x44_3) 0)) 16) = j_ := ⟨_, rfl⟩
                                            replace H : (if 0 ≤ (ji56) then (if (ji56) < (y127.length : Int) then (if ((⟨#[92, 117, 48, 48]⟩ : ByteArray) ++ (rdOf ByteArray.empty y123 (ji51))).size + (rdOf ByteArray.empty y127 (ji56)).size ≤ 9223372036854775807 then (if x9_3.size + (((⟨#[92, 117, 48, 48]⟩ : ByteArray) ++ (rdOf ByteArray.empty y123 (ji51))) ++ (rdOf ByteArray.empty y127 (ji56))).size ≤ 9223372036854775807 then (polyglotlaw01_TextQuotes.l0 kj19 a0 a1 (x9_3 ++ (((⟨#[92, 117, 48, 48]⟩ : ByteArray) ++ (rdOf ByteArray.empty y123 (ji51))) ++ (rdOf ByteArray.empty y127 (ji56)))) t102 (t102.length : Int) (wrap64 (x44_3 + 1))) else (none)) else (none)) else (none)) else (none)) = some r := by first | (rw [hji56] at H; exact H) | (simp only [hji56] at H ⊢; exact H)
                                            by_cases c57 : 0 ≤ (ji56)
                                            · rw [if_pos c57] at H
                                              have c57b0 : decide (0 ≤ (ji56)) = true := decide_eq_true c57
                                              clear c57
                                              by_cases c58 : (ji56) < (y127.length : Int)
                                              · rw [if_pos c58] at H
                                                have c58b0 : decide ((ji56) < (y127.length : Int)) = true := decide_eq_true c58
                                                clear c58
                                                by_cases c59 : ((⟨#[92, 117, 48, 48]⟩ : ByteArray) ++ (rdOf ByteArray.empty y123 (ji51))).size + (rdOf ByteArray.empty y127 (ji56)).size ≤ 9223372036854775807
                                                · rw [if_pos c59] at H
                                                  have c59b0 := eq_true c59
                                                  have c59b1 : decide (((⟨#[92, 117, 48, 48]⟩ : ByteArray) ++ (rdOf ByteArray.empty y123 (ji51))).size + (rdOf ByteArray.empty y127 (ji56)).size ≤ 9223372036854775807) = true := decide_eq_true c59
                                                  try have c59b2 : (9223372036854775807 < ((⟨#[92, 117, 48, 48]⟩ : ByteArray) ++ (rdOf ByteArray.empty y123 (ji51))).size + (rdOf ByteArray.empty y127 (ji56)).size) = False := eq_false (Nat.not_lt.2 c59)
                                                  by_cases c60 : x9_3.size + (((⟨#[92, 117, 48, 48]⟩ : ByteArray) ++ (rdOf ByteArray.empty y123 (ji51))) ++ (rdOf ByteArray.empty y127 (ji56))).size ≤ 9223372036854775807
                                                  · rw [if_pos c60] at H
                                                    have c60b0 := eq_true c60
                                                    have c60b1 : decide (x9_3.size + (((⟨#[92, 117, 48, 48]⟩ : ByteArray) ++ (rdOf ByteArray.empty y123 (ji51))) ++ (rdOf ByteArray.empty y127 (ji56))).size ≤ 9223372036854775807) = true := decide_eq_true c60
                                                    try have c60b2 : (9223372036854775807 < x9_3.size + (((⟨#[92, 117, 48, 48]⟩ : ByteArray) ++ (rdOf ByteArray.empty y123 (ji51))) ++ (rdOf ByteArray.empty y127 (ji56))).size) = False := eq_false (Nat.not_lt.2 c60)
                                                    have H' := Aside0.mk H
                                                    clear H
                                                    try go_wp2
                                                    have pi126 : (0 ≤ ((ji51) : Int)) = True := eq_true (of_decide_eq_true (by first | (with_reducible assumption) | assumption))
                                                    have qi126 : ((ji51) < (y123.length : Int)) = True := eq_true (of_decide_eq_true (by first | (with_reducible assumption) | assumption))
                                                    have pi130 : (0 ≤ ((ji56) : Int)) = True := eq_true (of_decide_eq_true (by first | (with_reducible assumption) | assumption))
                                                    have qi130 : ((ji56) < (y127.length : Int)) = True := eq_true (of_decide_eq_true (by first | (with_reducible assumption) | assumption))
                                                    have n0_ := Aside0.mk (Kd.R_drew HO_42.out)
                                                    have n1_ := Aside0.mk (below_drew1 HB.out)
                                                    clear HO_42
                                                    clear HB
                                                    have HO_42 := n0_
                                                    have HB := n1_
                                                    clear n0_ n1_
                                                    have p50 : 0 ≤ (0 : Int) := (by omega)
                                                    have q50 : 0 < (rdOf ByteArray.empty t102 x44_3).size := (by have : (0 : Int) < ((rdOf ByteArray.empty t102 x44_3).size : Int) := of_decide_eq_true (by first | (with_reducible assumption) | assumption); omega)
                                                    have hx50 : ∀ h : 0 < (rdOf ByteArray.empty t102 x44_3).size, (((rdOf ByteArray.empty t102 x44_3)[0]'h).toNat : Int) = bt (rdOf ByteArray.empty t102 x44_3) 0 := bt_at (rdOf ByteArray.empty t102 x44_3) 0
                                                    clear p50
                                                    have qi50 : (0 < ((rdOf ByteArray.empty t102 x44_3).size : Int)) = True := eq_true (of_decide_eq_true (by first | (with_reducible assumption) | assumption))
                                                    replace q50 := eq_true q50
                                                    have p55 : 0 ≤ (0 : Int) := (by omega)
                                                    have q55 : 0 < (rdOf ByteArray.empty t102 x44_3).size := (by have : (0 : Int) < ((rdOf ByteArray.empty t102 x44_3).size : Int) := of_decide_eq_true (by first | (with_reducible assumption) | assumption); omega)
                                                    have hx55 : ∀ h : 0 < (rdOf ByteArray.empty t102 x44_3).size, (((rdOf ByteArray.empty t102 x44_3)[0]'h).toNat : Int) = bt (rdOf ByteArray.empty t102 x44_3) 0 := bt_at (rdOf ByteArray.empty t102 x44_3) 0
                                                    clear p55
                                                    have qi55 : (0 < ((rdOf ByteArray.empty t102 x44_3).size : Int)) = True := eq_true (of_decide_eq_true (by first | (with_reducible assumption) | assumption))
                                                    replace q55 := eq_true q55
                                                    refine start_ (n := 17) (S := fun w' => True) (ds := []) #[false, false, false, false, false, false, false, false, false, false, false, false, false, false, false, false, false] (by kernel_rfl) rfl rfl trivial (fun hHeld => ?_); refine with_tabW polyglotlaw01_TextQuotes.tab16 polyglotlaw01_TextQuotes.bits16 (fun HT_ HW_ => ?_)
                                                    generalize wc.drew = w61 at HO_42 HB hHeld ⊢
                                                    refine pure_ (i := 1) (N := some 65) (v := ?_) (a' := ?_) #[false, true, false, false, false, false, false, false, false, false, false, false, false, false, false, false, false] rfl rfl (any_of HT_.out (by kernel_rfl)) (fun _ _ _ h => h) (Or.inl ⟨by rfl, ?_⟩) ?_ ?_
                                                    rotate_left
                                                    · intro w'
                                                      go_simp
                                                      with_reducible rfl
                                                    rotate_left
                                                    · simp only [Act.put, List.setIfInBounds_toArray, List.set_cons_zero, List.set_cons_succ, i64_w, i32_w]
                                                      rfl
                                                    refine pure_ (i := 9) (N := some 73) (v := ?_) (a' := ?_) #[false, true, false, false, false, false, false, false, false, true, false, false, false, false, false, false, false] rfl rfl (any_of HT_.out (by kernel_rfl)) (fun _ _ _ h => h) (Or.inl ⟨by rfl, ?_⟩) ?_ ?_
                                                    rotate_left
                                                    · intro w'
                                                      go_simp
                                                      with_reducible rfl
                                                    rotate_left
                                                    · simp only [Act.put, List.setIfInBounds_toArray, List.set_cons_zero, List.set_cons_succ, i64_w, i32_w]
                                                      rfl
                                                    refine inv_at [0, 2, 3, 4, 5, 6, 7, 8, 10, 11, 12, 13, 14, 15, 16] (fun a0_ b a w' => ∃ (v124 : Value) (adz_v124 : Addr) (v128 : Value) (adz_v128 : Addr) (m5_ : Value) (m13_ : Value), a = putSel a0_ b [(0, 64, v124), (2, 66, .int .u8 (bt (rdOf ByteArray.empty t102 x44_3) 0)), (3, 67, .int .i64 (wrap64 (bt (rdOf ByteArray.empty t102 x44_3) 0))), (4, 68, .int .i64 ji51), (5, 69, m5_), (6, 70, .string (rdOf ByteArray.empty y123 (ji51))), (7, 71, .string ((⟨#[92, 117, 48, 48]⟩ : ByteArray) ++ (rdOf ByteArray.empty y123 (ji51)))), (8, 72, v128), (10, 74, .int .u8 (bt (rdOf ByteArray.empty t102 x44_3) 0)), (11, 75, .int .i64 (wrap64 (bt (rdOf ByteArray.empty t102 x44_3) 0))), (12, 76, .int .i64 ji56), (13, 77, m13_), (14, 78, .string (rdOf ByteArray.empty y127 (ji56))), (15, 79, .string (((⟨#[92, 117, 48, 48]⟩ : ByteArray) ++ (rdOf ByteArray.empty y123 (ji51))) ++ (rdOf ByteArray.empty y127 (ji56)))), (16, 11, .string (((⟨#[92, 117, 48, 48]⟩ : ByteArray) ++ (rdOf ByteArray.empty y123 (ji51))) ++ (rdOf ByteArray.empty y127 (ji56))))] ∧ (Kd.R Kd.string 9 w' w.heap.size (fun _ => True) (.slice (some ad114) t102.length co16) t102) ∧ (Below w.heap.size w w') ∧ (b 0 = true → Kd.R Kd.string 9 w' w.heap.size (fun k_ => some k_ ≠ (.slice (some ad114) t102.length co16 : Value).ownBlock) v124 y123) ∧ (b 0 = true → ∃ c_, (v124 : Value) = .slice (some adz_v124) y123.length c_) ∧ (b 8 = true → Kd.R Kd.string 9 w' w.heap.size (fun k_ => some k_ ≠ (.slice (some ad114) t102.length co16 : Value).ownBlock) v128 y127) ∧ (b 8 = true → ∃ c_, (v128 : Value) = .slice (some adz_v128) y127.length c_) ∧ (b 5 = true → (m5_ : Value) = .pointer (some (adz_v124.add ((ji51)).toNat))) ∧ (b 13 = true → (m13_ : Value) = .pointer (some (adz_v128.add ((ji56)).toNat)))) HT_.out HW_.out (by kernel_rfl) (by kernel_rfl) ?_ ?_ ?_
                                                    · exact ⟨.bool false, ⟨0, 0, none⟩, .bool false, ⟨0, 0, none⟩, .bool false, .bool false, by simp only [putSel, Bool.false_eq_true, if_false], HO_42.out, HB.out, fun h_ => absurd h_ (by decide), fun h_ => absurd h_ (by decide), fun h_ => absurd h_ (by decide), fun h_ => absurd h_ (by decide), fun h_ => absurd h_ (by decide), fun h_ => absurd h_ (by decide)⟩
                                                    · skip
                                                      clear HB HO_42
                                                      refine steps_cons ?_ ?_
                                                      · rintro b a w' ⟨v124, adz_v124, v128, adz_v128, m5_, m13_, ha, Q_HO_42, Q_HB, Q_HO125, Q_HA_HO125, Q_HO129, Q_HA_HO129, Q_X5_, Q_X13_⟩ hb_ hon hoff
                                                        refine ⟨_, rfl, fun K hK => ?_⟩
                                                        replace ha := Aside0.mk ha
                                                        have HO_42 := Aside0.mk Q_HO_42
                                                        have HB := Aside0.mk Q_HB
                                                        refine Kd.R_lit_step Kd.string _ 9 ?hg (N := 64) ?hd (xs := ([(⟨#[48]⟩ : ByteArray), (⟨#[49]⟩ : ByteArray), (⟨#[50]⟩ : ByteArray), (⟨#[51]⟩ : ByteArray), (⟨#[52]⟩ : ByteArray), (⟨#[53]⟩ : ByteArray), (⟨#[54]⟩ : ByteArray), (⟨#[55]⟩ : ByteArray)] : List ByteArray)) (inner := [.string (⟨#[48]⟩ : ByteArray), .string (⟨#[49]⟩ : ByteArray), .string (⟨#[50]⟩ : ByteArray), .string (⟨#[51]⟩ : ByteArray), .string (⟨#[52]⟩ : ByteArray), .string (⟨#[53]⟩ : ByteArray), .string (⟨#[54]⟩ : ByteArray), .string (⟨#[55]⟩ : ByteArray)]) (ok := fun _ => True) (okp := fun _ => True) ?hr ?hp (fun _ hk => hk) trivial (Below.refl _ _) (Nat.le_refl _) (by simp) ?_; (case hd => rfl); (case hg => rfl); (case hr => first | (go_simp; done) | (go_simp; rfl)); (case hp => exact (Reps.one (show Kd.M Kd.string _ _ _ (⟨#[48]⟩ : ByteArray) [.string (⟨#[48]⟩ : ByteArray)] from rfl) (Reps.one (show Kd.M Kd.string _ _ _ (⟨#[49]⟩ : ByteArray) [.string (⟨#[49]⟩ : ByteArray)] from rfl) (Reps.one (show Kd.M Kd.string _ _ _ (⟨#[50]⟩ : ByteArray) [.string (⟨#[50]⟩ : ByteArray)] from rfl) (Reps.one (show Kd.M Kd.string _ _ _ (⟨#[51]⟩ : ByteArray) [.string (⟨#[51]⟩ : ByteArray)] from rfl) (Reps.one (show Kd.M Kd.string _ _ _ (⟨#[52]⟩ : ByteArray) [.string (⟨#[52]⟩ : ByteArray)] from rfl) (Reps.one (show Kd.M Kd.string _ _ _ (⟨#[53]⟩ : ByteArray) [.string (⟨#[53]⟩ : ByteArray)] from rfl) (Reps.one (show Kd.M Kd.string _ _ _ (⟨#[54]⟩ : ByteArray) [.string (⟨#[54]⟩ : ByteArray)] from rfl) (Reps.one (show Kd.M Kd.string _ _ _ (⟨#[55]⟩ : ByteArray) [.string (⟨#[55]⟩ : ByteArray)] from rfl) (Reps.none _ _))))))))))
                                                        intro v124 w62 ho63 hb hg_ hnew_
                                                        clear hg_ hnew_
                                                        (first | rw [← Ny123.out] at ho63 | (simp only [Int.reduceToNat] at ho63; rw [← Ny123.out] at ho63))
                                                        have n0_ := Aside0.mk (Kd.R_elder' (by (with_reducible repeat (first | apply Kd.R_alloc | apply Kd.R_drewN | apply Kd.R_drew)); exact HO_42.out) (Kd.R_base ho63) hb)
                                                        have n1_ := Aside0.mk (Kd.R_lower (Kd.R_new' ho63 (Kd.R_lt (by (with_reducible repeat (first | apply Kd.R_alloc | apply Kd.R_drewN | apply Kd.R_drew)); exact HO_42.out))) (below_size (by repeat (first | (with_reducible first | exact HB.out | apply below_alloc | apply pw_below_drewN | apply below_drew1) | exact HB.out))))
                                                        have n2_ := Aside0.mk (below_step (by repeat (first | (with_reducible first | exact HB.out | apply below_alloc | apply pw_below_drewN | apply below_drew1) | exact HB.out)) hb)
                                                        have z_HO129 := fun (h0_ : b 8 = true) => (show Kd.R Kd.string 9 w62 w.heap.size (fun k_ => some k_ ≠ (.slice (some ad114) t102.length co16 : Value).ownBlock) v128 y127 from by first | exact (Kd.R_elder' (by (with_reducible repeat (first | apply Kd.R_alloc | apply Kd.R_drewN | apply Kd.R_drew)); exact (Q_HO129 h0_)) (Kd.R_base ho63) hb) | exact Kd.R_mono (Kd.R_elder' (by (with_reducible repeat (first | apply Kd.R_alloc | apply Kd.R_drewN | apply Kd.R_drew)); exact (Q_HO129 h0_)) (Kd.R_base ho63) hb) (fun _ h_ => by first | trivial | exact h_ | exact h_.1))
                                                        clear HO_42
                                                        clear HB
                                                        have HO_42 := n0_
                                                        have HO125 := n1_
                                                        have HB := n2_
                                                        clear n0_ n1_ n2_
                                                        clear hb ho63
                                                        obtain ⟨Ao64, co64, eo64⟩ := Kd.R_slice HO125.out
                                                        subst eo64
                                                        obtain ⟨ado64, fo64, _⟩ := Kd.at_string (Kd.R_reads' HO125.out).2.2 0 (by decide) (by rw [Ny123.out]; simp)
                                                        cases fo64
                                                        refine hK.out _ _ ⟨.slice (some ado64) y123.length co64, ado64, v128, adz_v128, m5_, m13_, (by rw [ha.out]; exact putSel_upk 0 hb_ rfl rfl rfl), (by (with_reducible repeat (first | apply Kd.R_alloc | apply Kd.R_drewN | apply Kd.R_drew)); exact Kd.R_mono HO_42.out (fun _ hk => by first | exact hk.2 | trivial)), (by repeat (first | (with_reducible first | exact HB.out | apply below_alloc | apply pw_below_drewN | apply below_drew1) | exact HB.out)), fun _ => (by (with_reducible repeat (first | apply Kd.R_alloc | apply Kd.R_drewN | apply Kd.R_drew)); exact Kd.R_mono HO125.out (fun _ hk => hk.2)), fun _ => ⟨_, rfl⟩, z_HO129, Q_HA_HO129, fun h0_ => absurd ((hoff 5 (by kernel_rfl)).symm.trans h0_) (by decide), Q_X13_⟩
                                                      refine steps_cons ?_ ?_
                                                      · rintro b a w' ⟨v124, adz_v124, v128, adz_v128, m5_, m13_, ha, Q_HO_42, Q_HB, Q_HO125, Q_HA_HO125, Q_HO129, Q_HA_HO129, Q_X5_, Q_X13_⟩ hb_ hon hoff
                                                        refine ⟨_, rfl, fun K hK => ?_⟩
                                                        have e65 : a.tmps[65]? = some (.string (rdOf ByteArray.empty t102 x44_3)) := by rw [ha]; exact (putSel_off rfl).trans rfl
                                                        replace ha := Aside0.mk ha
                                                        have HO_42 := Aside0.mk Q_HO_42
                                                        have HB := Aside0.mk Q_HB
                                                        refine value_ (w1 := w') (v := .int .u8 (bt (rdOf ByteArray.empty t102 x44_3) 0)) (by rfl) rfl ?_ ?_
                                                        · go_simp
                                                          (try simp only [i64_w])
                                                          try rfl
                                                          try (first | (have q_ := c36; rw [ByteArray.size_append] at q_; exact q_) | (have q_ := c59; rw [ByteArray.size_append] at q_; exact q_))
                                                        refine hK.out _ _ ⟨v124, adz_v124, v128, adz_v128, m5_, m13_, (by rw [ha.out]; exact putSel_upk 1 hb_ rfl rfl rfl), Q_HO_42, Q_HB, Q_HO125, Q_HA_HO125, Q_HO129, Q_HA_HO129, fun h0_ => absurd ((hoff 5 (by kernel_rfl)).symm.trans h0_) (by decide), Q_X13_⟩
                                                      refine steps_cons ?_ ?_
                                                      · rintro b a w' ⟨v124, adz_v124, v128, adz_v128, m5_, m13_, ha, Q_HO_42, Q_HB, Q_HO125, Q_HA_HO125, Q_HO129, Q_HA_HO129, Q_X5_, Q_X13_⟩ hb_ hon hoff
                                                        refine ⟨_, rfl, fun K hK => ?_⟩
                                                        have e66 : a.tmps[66]? = some (.int .u8 (bt (rdOf ByteArray.empty t102 x44_3) 0)) := by rw [ha]; exact putSel_on (e := (2, 66, .int .u8 (bt (rdOf ByteArray.empty t102 x44_3) 0))) 1 rfl rfl (hon 2 (by kernel_rfl)) rfl
                                                        replace ha := Aside0.mk ha
                                                        have HO_42 := Aside0.mk Q_HO_42
                                                        have HB := Aside0.mk Q_HB
                                                        refine value_ (w1 := w') (v := .int .i64 (wrap64 (bt (rdOf ByteArray.empty t102 x44_3) 0))) (by rfl) rfl ?_ ?_
                                                        · go_simp
                                                          (try simp only [i64_w])
                                                          try rfl
                                                          try (first | (have q_ := c36; rw [ByteArray.size_append] at q_; exact q_) | (have q_ := c59; rw [ByteArray.size_append] at q_; exact q_))
                                                        refine hK.out _ _ ⟨v124, adz_v124, v128, adz_v128, m5_, m13_, (by rw [ha.out]; exact putSel_upk 2 hb_ rfl rfl rfl), Q_HO_42, Q_HB, Q_HO125, Q_HA_HO125, Q_HO129, Q_HA_HO129, fun h0_ => absurd ((hoff 5 (by kernel_rfl)).symm.trans h0_) (by decide), Q_X13_⟩
                                                      refine steps_cons ?_ ?_
                                                      · rintro b a w' ⟨v124, adz_v124, v128, adz_v128, m5_, m13_, ha, Q_HO_42, Q_HB, Q_HO125, Q_HA_HO125, Q_HO129, Q_HA_HO129, Q_X5_, Q_X13_⟩ hb_ hon hoff
                                                        refine ⟨_, rfl, fun K hK => ?_⟩
                                                        have e67 : a.tmps[67]? = some (.int .i64 (wrap64 (bt (rdOf ByteArray.empty t102 x44_3) 0))) := by rw [ha]; exact putSel_on (e := (3, 67, .int .i64 (wrap64 (bt (rdOf ByteArray.empty t102 x44_3) 0)))) 2 rfl rfl (hon 3 (by kernel_rfl)) rfl
                                                        replace ha := Aside0.mk ha
                                                        have HO_42 := Aside0.mk Q_HO_42
                                                        have HB := Aside0.mk Q_HB
                                                        refine value_ (w1 := w') (v := .int .i64 ji51) (by rfl) rfl ?_ ?_
                                                        · go_simp
                                                          (try simp only [i64_w])
                                                          try rfl
                                                          try (first | (have q_ := c36; rw [ByteArray.size_append] at q_; exact q_) | (have q_ := c59; rw [ByteArray.size_append] at q_; exact q_))
                                                        refine hK.out _ _ ⟨v124, adz_v124, v128, adz_v128, m5_, m13_, (by rw [ha.out]; exact putSel_upk 3 hb_ rfl rfl rfl), Q_HO_42, Q_HB, Q_HO125, Q_HA_HO125, Q_HO129, Q_HA_HO129, fun h0_ => absurd ((hoff 5 (by kernel_rfl)).symm.trans h0_) (by decide), Q_X13_⟩
                                                      refine steps_cons ?_ ?_
                                                      · rintro b a w' ⟨v124, adz_v124, v128, adz_v128, m5_, m13_, ha, Q_HO_42, Q_HB, Q_HO125, Q_HA_HO125, Q_HO129, Q_HA_HO129, Q_X5_, Q_X13_⟩ hb_ hon hoff
                                                        refine ⟨_, rfl, fun K hK => ?_⟩
                                                        have e64 : a.tmps[64]? = some (v124) := by rw [ha]; exact putSel_on (e := (0, 64, v124)) 0 rfl rfl (hon 0 (by kernel_rfl)) rfl
                                                        have e68 : a.tmps[68]? = some (.int .i64 ji51) := by rw [ha]; exact putSel_on (e := (4, 68, .int .i64 ji51)) 3 rfl rfl (hon 4 (by kernel_rfl)) rfl
                                                        replace ha := Aside0.mk ha
                                                        have HO_42 := Aside0.mk Q_HO_42
                                                        have HB := Aside0.mk Q_HB
                                                        have HO125 := Aside0.mk (Q_HO125 (hon 0 (by kernel_rfl)))
                                                        have HA_HO125 := Aside0.mk (Q_HA_HO125 (hon 0 (by kernel_rfl)))
                                                        obtain ⟨c_, hv_⟩ := HA_HO125.out
                                                        rw [hv_] at e64
                                                        refine value_ (w1 := w') (v := .pointer (some (adz_v124.add ((ji51)).toNat))) (by rfl) rfl ?_ ?_
                                                        · go_simp
                                                          (try simp only [i64_w])
                                                          try rfl
                                                          try (first | (have q_ := c36; rw [ByteArray.size_append] at q_; exact q_) | (have q_ := c59; rw [ByteArray.size_append] at q_; exact q_))
                                                        refine hK.out _ _ ⟨v124, adz_v124, v128, adz_v128, (.pointer (some (adz_v124.add ((ji51)).toNat))), m13_, (by rw [ha.out]; exact putSel_upk 4 hb_ rfl rfl rfl), Q_HO_42, Q_HB, Q_HO125, Q_HA_HO125, Q_HO129, Q_HA_HO129, fun _ => rfl, Q_X13_⟩
                                                      refine steps_cons ?_ ?_
                                                      · rintro b a w' ⟨v124, adz_v124, v128, adz_v128, m5_, m13_, ha, Q_HO_42, Q_HB, Q_HO125, Q_HA_HO125, Q_HO129, Q_HA_HO129, Q_X5_, Q_X13_⟩ hb_ hon hoff
                                                        refine ⟨_, rfl, fun K hK => ?_⟩
                                                        have e69 : a.tmps[69]? = some (m5_) := by rw [ha]; exact putSel_on (e := (5, 69, m5_)) 4 rfl rfl (hon 5 (by kernel_rfl)) rfl
                                                        rw [Q_X5_ (hon 5 (by kernel_rfl))] at e69
                                                        replace ha := Aside0.mk ha
                                                        have HO_42 := Aside0.mk Q_HO_42
                                                        have HB := Aside0.mk Q_HB
                                                        have HO125 := Aside0.mk (Q_HO125 (hon 0 (by kernel_rfl)))
                                                        have HA_HO125 := Aside0.mk (Q_HA_HO125 (hon 0 (by kernel_rfl)))
                                                        obtain ⟨c_, hv_⟩ := HA_HO125.out
                                                        have hF_ := HO125.out
                                                        rw [hv_] at hF_
                                                        obtain ⟨ad_, ea_, hx_⟩ := Kd.at_string (Kd.R_reads' hF_).2.2 (ji51) (of_eq_true pi126) (of_eq_true qi126)
                                                        cases ea_
                                                        refine value_ (w1 := w') (v := .string (rdOf ByteArray.empty y123 (ji51))) (by rfl) rfl ?_ ?_
                                                        · go_simp
                                                          (try simp only [i64_w])
                                                          try rfl
                                                          try (first | (have q_ := c36; rw [ByteArray.size_append] at q_; exact q_) | (have q_ := c59; rw [ByteArray.size_append] at q_; exact q_))
                                                        refine hK.out _ _ ⟨v124, adz_v124, v128, adz_v128, m5_, m13_, (by rw [ha.out]; exact putSel_upk 5 hb_ rfl rfl rfl), Q_HO_42, Q_HB, Q_HO125, Q_HA_HO125, Q_HO129, Q_HA_HO129, Q_X5_, Q_X13_⟩
                                                      refine steps_cons ?_ ?_
                                                      · rintro b a w' ⟨v124, adz_v124, v128, adz_v128, m5_, m13_, ha, Q_HO_42, Q_HB, Q_HO125, Q_HA_HO125, Q_HO129, Q_HA_HO129, Q_X5_, Q_X13_⟩ hb_ hon hoff
                                                        refine ⟨_, rfl, fun K hK => ?_⟩
                                                        have e70 : a.tmps[70]? = some (.string (rdOf ByteArray.empty y123 (ji51))) := by rw [ha]; exact putSel_on (e := (6, 70, .string (rdOf ByteArray.empty y123 (ji51)))) 5 rfl rfl (hon 6 (by kernel_rfl)) rfl
                                                        replace ha := Aside0.mk ha
                                                        have HO_42 := Aside0.mk Q_HO_42
                                                        have HB := Aside0.mk Q_HB
                                                        have HO125 := Aside0.mk (Q_HO125 (hon 0 (by kernel_rfl)))
                                                        have HA_HO125 := Aside0.mk (Q_HA_HO125 (hon 0 (by kernel_rfl)))
                                                        refine value_ (w1 := w') (v := .string ((⟨#[92, 117, 48, 48]⟩ : ByteArray) ++ (rdOf ByteArray.empty y123 (ji51)))) (by rfl) rfl ?_ ?_
                                                        · go_simp
                                                          (try simp only [i64_w])
                                                          try rfl
                                                          try (first | (have q_ := c36; rw [ByteArray.size_append] at q_; exact q_) | (have q_ := c59; rw [ByteArray.size_append] at q_; exact q_))
                                                        refine hK.out _ _ ⟨v124, adz_v124, v128, adz_v128, m5_, m13_, (by rw [ha.out]; exact putSel_upk 6 hb_ rfl rfl rfl), Q_HO_42, Q_HB, Q_HO125, Q_HA_HO125, Q_HO129, Q_HA_HO129, Q_X5_, Q_X13_⟩
                                                      refine steps_cons ?_ ?_
                                                      · rintro b a w' ⟨v124, adz_v124, v128, adz_v128, m5_, m13_, ha, Q_HO_42, Q_HB, Q_HO125, Q_HA_HO125, Q_HO129, Q_HA_HO129, Q_X5_, Q_X13_⟩ hb_ hon hoff
                                                        refine ⟨_, rfl, fun K hK => ?_⟩
                                                        replace ha := Aside0.mk ha
                                                        have HO_42 := Aside0.mk Q_HO_42
                                                        have HB := Aside0.mk Q_HB
                                                        refine Kd.R_lit_step Kd.string _ 9 ?hg (N := 72) ?hd (xs := ([(⟨#[48]⟩ : ByteArray), (⟨#[49]⟩ : ByteArray), (⟨#[50]⟩ : ByteArray), (⟨#[51]⟩ : ByteArray), (⟨#[52]⟩ : ByteArray), (⟨#[53]⟩ : ByteArray), (⟨#[54]⟩ : ByteArray), (⟨#[55]⟩ : ByteArray), (⟨#[56]⟩ : ByteArray), (⟨#[57]⟩ : ByteArray), (⟨#[65]⟩ : ByteArray), (⟨#[66]⟩ : ByteArray), (⟨#[67]⟩ : ByteArray), (⟨#[68]⟩ : ByteArray), (⟨#[69]⟩ : ByteArray), (⟨#[70]⟩ : ByteArray)] : List ByteArray)) (inner := [.string (⟨#[48]⟩ : ByteArray), .string (⟨#[49]⟩ : ByteArray), .string (⟨#[50]⟩ : ByteArray), .string (⟨#[51]⟩ : ByteArray), .string (⟨#[52]⟩ : ByteArray), .string (⟨#[53]⟩ : ByteArray), .string (⟨#[54]⟩ : ByteArray), .string (⟨#[55]⟩ : ByteArray), .string (⟨#[56]⟩ : ByteArray), .string (⟨#[57]⟩ : ByteArray), .string (⟨#[65]⟩ : ByteArray), .string (⟨#[66]⟩ : ByteArray), .string (⟨#[67]⟩ : ByteArray), .string (⟨#[68]⟩ : ByteArray), .string (⟨#[69]⟩ : ByteArray), .string (⟨#[70]⟩ : ByteArray)]) (ok := fun _ => True) (okp := fun _ => True) ?hr ?hp (fun _ hk => hk) trivial (Below.refl _ _) (Nat.le_refl _) (by simp) ?_; (case hd => rfl); (case hg => rfl); (case hr => first | (go_simp; done) | (go_simp; rfl)); (case hp => exact (Reps.one (show Kd.M Kd.string _ _ _ (⟨#[48]⟩ : ByteArray) [.string (⟨#[48]⟩ : ByteArray)] from rfl) (Reps.one (show Kd.M Kd.string _ _ _ (⟨#[49]⟩ : ByteArray) [.string (⟨#[49]⟩ : ByteArray)] from rfl) (Reps.one (show Kd.M Kd.string _ _ _ (⟨#[50]⟩ : ByteArray) [.string (⟨#[50]⟩ : ByteArray)] from rfl) (Reps.one (show Kd.M Kd.string _ _ _ (⟨#[51]⟩ : ByteArray) [.string (⟨#[51]⟩ : ByteArray)] from rfl) (Reps.one (show Kd.M Kd.string _ _ _ (⟨#[52]⟩ : ByteArray) [.string (⟨#[52]⟩ : ByteArray)] from rfl) (Reps.one (show Kd.M Kd.string _ _ _ (⟨#[53]⟩ : ByteArray) [.string (⟨#[53]⟩ : ByteArray)] from rfl) (Reps.one (show Kd.M Kd.string _ _ _ (⟨#[54]⟩ : ByteArray) [.string (⟨#[54]⟩ : ByteArray)] from rfl) (Reps.one (show Kd.M Kd.string _ _ _ (⟨#[55]⟩ : ByteArray) [.string (⟨#[55]⟩ : ByteArray)] from rfl) (Reps.one (show Kd.M Kd.string _ _ _ (⟨#[56]⟩ : ByteArray) [.string (⟨#[56]⟩ : ByteArray)] from rfl) (Reps.one (show Kd.M Kd.string _ _ _ (⟨#[57]⟩ : ByteArray) [.string (⟨#[57]⟩ : ByteArray)] from rfl) (Reps.one (show Kd.M Kd.string _ _ _ (⟨#[65]⟩ : ByteArray) [.string (⟨#[65]⟩ : ByteArray)] from rfl) (Reps.one (show Kd.M Kd.string _ _ _ (⟨#[66]⟩ : ByteArray) [.string (⟨#[66]⟩ : ByteArray)] from rfl) (Reps.one (show Kd.M Kd.string _ _ _ (⟨#[67]⟩ : ByteArray) [.string (⟨#[67]⟩ : ByteArray)] from rfl) (Reps.one (show Kd.M Kd.string _ _ _ (⟨#[68]⟩ : ByteArray) [.string (⟨#[68]⟩ : ByteArray)] from rfl) (Reps.one (show Kd.M Kd.string _ _ _ (⟨#[69]⟩ : ByteArray) [.string (⟨#[69]⟩ : ByteArray)] from rfl) (Reps.one (show Kd.M Kd.string _ _ _ (⟨#[70]⟩ : ByteArray) [.string (⟨#[70]⟩ : ByteArray)] from rfl) (Reps.none _ _))))))))))))))))))
                                                        intro v128 w62 ho63 hb hg_ hnew_
                                                        clear hg_ hnew_
                                                        (first | rw [← Ny127.out] at ho63 | (simp only [Int.reduceToNat] at ho63; rw [← Ny127.out] at ho63))
                                                        have n0_ := Aside0.mk (Kd.R_elder' (by (with_reducible repeat (first | apply Kd.R_alloc | apply Kd.R_drewN | apply Kd.R_drew)); exact HO_42.out) (Kd.R_base ho63) hb)
                                                        have n1_ := Aside0.mk (Kd.R_lower (Kd.R_new' ho63 (Kd.R_lt (by (with_reducible repeat (first | apply Kd.R_alloc | apply Kd.R_drewN | apply Kd.R_drew)); exact HO_42.out))) (below_size (by repeat (first | (with_reducible first | exact HB.out | apply below_alloc | apply pw_below_drewN | apply below_drew1) | exact HB.out))))
                                                        have n2_ := Aside0.mk (below_step (by repeat (first | (with_reducible first | exact HB.out | apply below_alloc | apply pw_below_drewN | apply below_drew1) | exact HB.out)) hb)
                                                        have z_HO125 := fun (h0_ : b 0 = true) => (show Kd.R Kd.string 9 w62 w.heap.size (fun k_ => some k_ ≠ (.slice (some ad114) t102.length co16 : Value).ownBlock) v124 y123 from by first | exact (Kd.R_elder' (by (with_reducible repeat (first | apply Kd.R_alloc | apply Kd.R_drewN | apply Kd.R_drew)); exact (Q_HO125 h0_)) (Kd.R_base ho63) hb) | exact Kd.R_mono (Kd.R_elder' (by (with_reducible repeat (first | apply Kd.R_alloc | apply Kd.R_drewN | apply Kd.R_drew)); exact (Q_HO125 h0_)) (Kd.R_base ho63) hb) (fun _ h_ => by first | trivial | exact h_ | exact h_.1))
                                                        clear HO_42
                                                        clear HB
                                                        have HO_42 := n0_
                                                        have HO129 := n1_
                                                        have HB := n2_
                                                        clear n0_ n1_ n2_
                                                        clear hb ho63
                                                        obtain ⟨Ao64, co64, eo64⟩ := Kd.R_slice HO129.out
                                                        subst eo64
                                                        obtain ⟨ado64, fo64, _⟩ := Kd.at_string (Kd.R_reads' HO129.out).2.2 0 (by decide) (by rw [Ny127.out]; simp)
                                                        cases fo64
                                                        refine hK.out _ _ ⟨v124, adz_v124, .slice (some ado64) y127.length co64, ado64, m5_, m13_, (by rw [ha.out]; exact putSel_upk 7 hb_ rfl rfl rfl), (by (with_reducible repeat (first | apply Kd.R_alloc | apply Kd.R_drewN | apply Kd.R_drew)); exact Kd.R_mono HO_42.out (fun _ hk => by first | exact hk.2 | trivial)), (by repeat (first | (with_reducible first | exact HB.out | apply below_alloc | apply pw_below_drewN | apply below_drew1) | exact HB.out)), z_HO125, Q_HA_HO125, fun _ => (by (with_reducible repeat (first | apply Kd.R_alloc | apply Kd.R_drewN | apply Kd.R_drew)); exact Kd.R_mono HO129.out (fun _ hk => hk.2)), fun _ => ⟨_, rfl⟩, Q_X5_, fun h0_ => absurd ((hoff 13 (by kernel_rfl)).symm.trans h0_) (by decide)⟩
                                                      refine steps_cons ?_ ?_
                                                      · rintro b a w' ⟨v124, adz_v124, v128, adz_v128, m5_, m13_, ha, Q_HO_42, Q_HB, Q_HO125, Q_HA_HO125, Q_HO129, Q_HA_HO129, Q_X5_, Q_X13_⟩ hb_ hon hoff
                                                        refine ⟨_, rfl, fun K hK => ?_⟩
                                                        have e73 : a.tmps[73]? = some (.string (rdOf ByteArray.empty t102 x44_3)) := by rw [ha]; exact (putSel_off rfl).trans rfl
                                                        replace ha := Aside0.mk ha
                                                        have HO_42 := Aside0.mk Q_HO_42
                                                        have HB := Aside0.mk Q_HB
                                                        refine value_ (w1 := w') (v := .int .u8 (bt (rdOf ByteArray.empty t102 x44_3) 0)) (by rfl) rfl ?_ ?_
                                                        · go_simp
                                                          (try simp only [i64_w])
                                                          try rfl
                                                          try (first | (have q_ := c36; rw [ByteArray.size_append] at q_; exact q_) | (have q_ := c59; rw [ByteArray.size_append] at q_; exact q_))
                                                        refine hK.out _ _ ⟨v124, adz_v124, v128, adz_v128, m5_, m13_, (by rw [ha.out]; exact putSel_upk 8 hb_ rfl rfl rfl), Q_HO_42, Q_HB, Q_HO125, Q_HA_HO125, Q_HO129, Q_HA_HO129, Q_X5_, fun h0_ => absurd ((hoff 13 (by kernel_rfl)).symm.trans h0_) (by decide)⟩
                                                      refine steps_cons ?_ ?_
                                                      · rintro b a w' ⟨v124, adz_v124, v128, adz_v128, m5_, m13_, ha, Q_HO_42, Q_HB, Q_HO125, Q_HA_HO125, Q_HO129, Q_HA_HO129, Q_X5_, Q_X13_⟩ hb_ hon hoff
                                                        refine ⟨_, rfl, fun K hK => ?_⟩
                                                        have e74 : a.tmps[74]? = some (.int .u8 (bt (rdOf ByteArray.empty t102 x44_3) 0)) := by rw [ha]; exact putSel_on (e := (10, 74, .int .u8 (bt (rdOf ByteArray.empty t102 x44_3) 0))) 8 rfl rfl (hon 10 (by kernel_rfl)) rfl
                                                        replace ha := Aside0.mk ha
                                                        have HO_42 := Aside0.mk Q_HO_42
                                                        have HB := Aside0.mk Q_HB
                                                        refine value_ (w1 := w') (v := .int .i64 (wrap64 (bt (rdOf ByteArray.empty t102 x44_3) 0))) (by rfl) rfl ?_ ?_
                                                        · go_simp
                                                          (try simp only [i64_w])
                                                          try rfl
                                                          try (first | (have q_ := c36; rw [ByteArray.size_append] at q_; exact q_) | (have q_ := c59; rw [ByteArray.size_append] at q_; exact q_))
                                                        refine hK.out _ _ ⟨v124, adz_v124, v128, adz_v128, m5_, m13_, (by rw [ha.out]; exact putSel_upk 9 hb_ rfl rfl rfl), Q_HO_42, Q_HB, Q_HO125, Q_HA_HO125, Q_HO129, Q_HA_HO129, Q_X5_, fun h0_ => absurd ((hoff 13 (by kernel_rfl)).symm.trans h0_) (by decide)⟩
                                                      refine steps_cons ?_ ?_
                                                      · rintro b a w' ⟨v124, adz_v124, v128, adz_v128, m5_, m13_, ha, Q_HO_42, Q_HB, Q_HO125, Q_HA_HO125, Q_HO129, Q_HA_HO129, Q_X5_, Q_X13_⟩ hb_ hon hoff
                                                        refine ⟨_, rfl, fun K hK => ?_⟩
                                                        have e75 : a.tmps[75]? = some (.int .i64 (wrap64 (bt (rdOf ByteArray.empty t102 x44_3) 0))) := by rw [ha]; exact putSel_on (e := (11, 75, .int .i64 (wrap64 (bt (rdOf ByteArray.empty t102 x44_3) 0)))) 9 rfl rfl (hon 11 (by kernel_rfl)) rfl
                                                        replace ha := Aside0.mk ha
                                                        have HO_42 := Aside0.mk Q_HO_42
                                                        have HB := Aside0.mk Q_HB
                                                        refine value_ (w1 := w') (v := .int .i64 ji56) (by rfl) rfl ?_ ?_
                                                        · go_simp
                                                          (try simp only [i64_w])
                                                          try rfl
                                                          try (first | (have q_ := c36; rw [ByteArray.size_append] at q_; exact q_) | (have q_ := c59; rw [ByteArray.size_append] at q_; exact q_))
                                                        refine hK.out _ _ ⟨v124, adz_v124, v128, adz_v128, m5_, m13_, (by rw [ha.out]; exact putSel_upk 10 hb_ rfl rfl rfl), Q_HO_42, Q_HB, Q_HO125, Q_HA_HO125, Q_HO129, Q_HA_HO129, Q_X5_, fun h0_ => absurd ((hoff 13 (by kernel_rfl)).symm.trans h0_) (by decide)⟩
                                                      refine steps_cons ?_ ?_
                                                      · rintro b a w' ⟨v124, adz_v124, v128, adz_v128, m5_, m13_, ha, Q_HO_42, Q_HB, Q_HO125, Q_HA_HO125, Q_HO129, Q_HA_HO129, Q_X5_, Q_X13_⟩ hb_ hon hoff
                                                        refine ⟨_, rfl, fun K hK => ?_⟩
                                                        have e72 : a.tmps[72]? = some (v128) := by rw [ha]; exact putSel_on (e := (8, 72, v128)) 7 rfl rfl (hon 8 (by kernel_rfl)) rfl
                                                        have e76 : a.tmps[76]? = some (.int .i64 ji56) := by rw [ha]; exact putSel_on (e := (12, 76, .int .i64 ji56)) 10 rfl rfl (hon 12 (by kernel_rfl)) rfl
                                                        replace ha := Aside0.mk ha
                                                        have HO_42 := Aside0.mk Q_HO_42
                                                        have HB := Aside0.mk Q_HB
                                                        have HO129 := Aside0.mk (Q_HO129 (hon 8 (by kernel_rfl)))
                                                        have HA_HO129 := Aside0.mk (Q_HA_HO129 (hon 8 (by kernel_rfl)))
                                                        obtain ⟨c_, hv_⟩ := HA_HO129.out
                                                        rw [hv_] at e72
                                                        refine value_ (w1 := w') (v := .pointer (some (adz_v128.add ((ji56)).toNat))) (by rfl) rfl ?_ ?_
                                                        · go_simp
                                                          (try simp only [i64_w])
                                                          try rfl
                                                          try (first | (have q_ := c36; rw [ByteArray.size_append] at q_; exact q_) | (have q_ := c59; rw [ByteArray.size_append] at q_; exact q_))
                                                        refine hK.out _ _ ⟨v124, adz_v124, v128, adz_v128, m5_, (.pointer (some (adz_v128.add ((ji56)).toNat))), (by rw [ha.out]; exact putSel_upk 11 hb_ rfl rfl rfl), Q_HO_42, Q_HB, Q_HO125, Q_HA_HO125, Q_HO129, Q_HA_HO129, Q_X5_, fun _ => rfl⟩
                                                      refine steps_cons ?_ ?_
                                                      · rintro b a w' ⟨v124, adz_v124, v128, adz_v128, m5_, m13_, ha, Q_HO_42, Q_HB, Q_HO125, Q_HA_HO125, Q_HO129, Q_HA_HO129, Q_X5_, Q_X13_⟩ hb_ hon hoff
                                                        refine ⟨_, rfl, fun K hK => ?_⟩
                                                        have e77 : a.tmps[77]? = some (m13_) := by rw [ha]; exact putSel_on (e := (13, 77, m13_)) 11 rfl rfl (hon 13 (by kernel_rfl)) rfl
                                                        rw [Q_X13_ (hon 13 (by kernel_rfl))] at e77
                                                        replace ha := Aside0.mk ha
                                                        have HO_42 := Aside0.mk Q_HO_42
                                                        have HB := Aside0.mk Q_HB
                                                        have HO129 := Aside0.mk (Q_HO129 (hon 8 (by kernel_rfl)))
                                                        have HA_HO129 := Aside0.mk (Q_HA_HO129 (hon 8 (by kernel_rfl)))
                                                        obtain ⟨c_, hv_⟩ := HA_HO129.out
                                                        have hF_ := HO129.out
                                                        rw [hv_] at hF_
                                                        obtain ⟨ad_, ea_, hx_⟩ := Kd.at_string (Kd.R_reads' hF_).2.2 (ji56) (of_eq_true pi130) (of_eq_true qi130)
                                                        cases ea_
                                                        refine value_ (w1 := w') (v := .string (rdOf ByteArray.empty y127 (ji56))) (by rfl) rfl ?_ ?_
                                                        · go_simp
                                                          (try simp only [i64_w])
                                                          try rfl
                                                          try (first | (have q_ := c36; rw [ByteArray.size_append] at q_; exact q_) | (have q_ := c59; rw [ByteArray.size_append] at q_; exact q_))
                                                        refine hK.out _ _ ⟨v124, adz_v124, v128, adz_v128, m5_, m13_, (by rw [ha.out]; exact putSel_upk 12 hb_ rfl rfl rfl), Q_HO_42, Q_HB, Q_HO125, Q_HA_HO125, Q_HO129, Q_HA_HO129, Q_X5_, Q_X13_⟩
                                                      refine steps_cons ?_ ?_
                                                      · rintro b a w' ⟨v124, adz_v124, v128, adz_v128, m5_, m13_, ha, Q_HO_42, Q_HB, Q_HO125, Q_HA_HO125, Q_HO129, Q_HA_HO129, Q_X5_, Q_X13_⟩ hb_ hon hoff
                                                        refine ⟨_, rfl, fun K hK => ?_⟩
                                                        have e71 : a.tmps[71]? = some (.string ((⟨#[92, 117, 48, 48]⟩ : ByteArray) ++ (rdOf ByteArray.empty y123 (ji51)))) := by rw [ha]; exact putSel_on (e := (7, 71, .string ((⟨#[92, 117, 48, 48]⟩ : ByteArray) ++ (rdOf ByteArray.empty y123 (ji51))))) 6 rfl rfl (hon 7 (by kernel_rfl)) rfl
                                                        have e78 : a.tmps[78]? = some (.string (rdOf ByteArray.empty y127 (ji56))) := by rw [ha]; exact putSel_on (e := (14, 78, .string (rdOf ByteArray.empty y127 (ji56)))) 12 rfl rfl (hon 14 (by kernel_rfl)) rfl
                                                        replace ha := Aside0.mk ha
                                                        have HO_42 := Aside0.mk Q_HO_42
                                                        have HB := Aside0.mk Q_HB
                                                        have HO125 := Aside0.mk (Q_HO125 (hon 0 (by kernel_rfl)))
                                                        have HA_HO125 := Aside0.mk (Q_HA_HO125 (hon 0 (by kernel_rfl)))
                                                        have HO129 := Aside0.mk (Q_HO129 (hon 8 (by kernel_rfl)))
                                                        have HA_HO129 := Aside0.mk (Q_HA_HO129 (hon 8 (by kernel_rfl)))
                                                        refine value_ (w1 := w') (v := .string (((⟨#[92, 117, 48, 48]⟩ : ByteArray) ++ (rdOf ByteArray.empty y123 (ji51))) ++ (rdOf ByteArray.empty y127 (ji56)))) (by rfl) rfl ?_ ?_
                                                        · go_simp
                                                          (try simp only [i64_w])
                                                          try rfl
                                                          try (first | (have q_ := c36; rw [ByteArray.size_append] at q_; exact q_) | (have q_ := c59; rw [ByteArray.size_append] at q_; exact q_))
                                                        refine hK.out _ _ ⟨v124, adz_v124, v128, adz_v128, m5_, m13_, (by rw [ha.out]; exact putSel_upk 13 hb_ rfl rfl rfl), Q_HO_42, Q_HB, Q_HO125, Q_HA_HO125, Q_HO129, Q_HA_HO129, Q_X5_, Q_X13_⟩
                                                      refine steps_cons ?_ ?_
                                                      · rintro b a w' ⟨v124, adz_v124, v128, adz_v128, m5_, m13_, ha, Q_HO_42, Q_HB, Q_HO125, Q_HA_HO125, Q_HO129, Q_HA_HO129, Q_X5_, Q_X13_⟩ hb_ hon hoff
                                                        refine ⟨_, rfl, fun K hK => ?_⟩
                                                        have e79 : a.tmps[79]? = some (.string (((⟨#[92, 117, 48, 48]⟩ : ByteArray) ++ (rdOf ByteArray.empty y123 (ji51))) ++ (rdOf ByteArray.empty y127 (ji56)))) := by rw [ha]; exact putSel_on (e := (15, 79, .string (((⟨#[92, 117, 48, 48]⟩ : ByteArray) ++ (rdOf ByteArray.empty y123 (ji51))) ++ (rdOf ByteArray.empty y127 (ji56))))) 13 rfl rfl (hon 15 (by kernel_rfl)) rfl
                                                        replace ha := Aside0.mk ha
                                                        have HO_42 := Aside0.mk Q_HO_42
                                                        have HB := Aside0.mk Q_HB
                                                        have HO125 := Aside0.mk (Q_HO125 (hon 0 (by kernel_rfl)))
                                                        have HA_HO125 := Aside0.mk (Q_HA_HO125 (hon 0 (by kernel_rfl)))
                                                        have HO129 := Aside0.mk (Q_HO129 (hon 8 (by kernel_rfl)))
                                                        have HA_HO129 := Aside0.mk (Q_HA_HO129 (hon 8 (by kernel_rfl)))
                                                        refine value_ (w1 := w') (v := .string (((⟨#[92, 117, 48, 48]⟩ : ByteArray) ++ (rdOf ByteArray.empty y123 (ji51))) ++ (rdOf ByteArray.empty y127 (ji56)))) (by rfl) rfl ?_ ?_
                                                        · go_simp
                                                          (try simp only [i64_w])
                                                          try rfl
                                                          try (first | (have q_ := c36; rw [ByteArray.size_append] at q_; exact q_) | (have q_ := c59; rw [ByteArray.size_append] at q_; exact q_))
                                                        refine hK.out _ _ ⟨v124, adz_v124, v128, adz_v128, m5_, m13_, (by rw [ha.out]; exact putSel_upk 14 hb_ rfl rfl rfl), Q_HO_42, Q_HB, Q_HO125, Q_HA_HO125, Q_HO129, Q_HA_HO129, Q_X5_, Q_X13_⟩
                                                      exact steps_nil
                                                    rintro b a w68 hall ⟨v124, adz_v124, v128, adz_v128, m5_, m13_, ha, Q_HO_42, Q_HB, Q_HO125, Q_HA_HO125, Q_HO129, Q_HA_HO129, Q_X5_, Q_X13_⟩
                                                    clear HB HO_42
                                                    have hb0_ := hall 0 (by kernel_rfl)
                                                    have hb2_ := hall 2 (by kernel_rfl)
                                                    have hb3_ := hall 3 (by kernel_rfl)
                                                    have hb4_ := hall 4 (by kernel_rfl)
                                                    have hb5_ := hall 5 (by kernel_rfl)
                                                    have hb6_ := hall 6 (by kernel_rfl)
                                                    have hb7_ := hall 7 (by kernel_rfl)
                                                    have hb8_ := hall 8 (by kernel_rfl)
                                                    have hb10_ := hall 10 (by kernel_rfl)
                                                    have hb11_ := hall 11 (by kernel_rfl)
                                                    have hb12_ := hall 12 (by kernel_rfl)
                                                    have hb13_ := hall 13 (by kernel_rfl)
                                                    have hb14_ := hall 14 (by kernel_rfl)
                                                    have hb15_ := hall 15 (by kernel_rfl)
                                                    have hb16_ := hall 16 (by kernel_rfl)
                                                    subst ha
                                                    obtain rfl := Q_X5_ hb5_
                                                    obtain rfl := Q_X13_ hb13_
                                                    simp only [putSel, hb0_, hb2_, hb3_, hb4_, hb5_, hb6_, hb7_, hb8_, hb10_, hb11_, hb12_, hb13_, hb14_, hb15_, hb16_, if_true, Act.put, List.setIfInBounds_toArray, List.set_cons_zero, List.set_cons_succ]
                                                    have HO_42 := Aside0.mk Q_HO_42
                                                    clear Q_HO_42
                                                    have HB := Aside0.mk Q_HB
                                                    clear Q_HB
                                                    have HO125 := Aside0.mk (Q_HO125 hb0_)
                                                    clear Q_HO125
                                                    have HA_HO125 := Aside0.mk (Q_HA_HO125 hb0_)
                                                    clear Q_HA_HO125
                                                    have HO129 := Aside0.mk (Q_HO129 hb8_)
                                                    clear Q_HO129
                                                    have HA_HO129 := Aside0.mk (Q_HA_HO129 hb8_)
                                                    clear Q_HA_HO129
                                                    clear hall hb0_ hb2_ hb3_ hb4_ hb5_ hb6_ hb7_ hb8_ hb10_ hb11_ hb12_ hb13_ hb14_ hb15_ hb16_
                                                    obtain ⟨co69, eo69⟩ := HA_HO125.out
                                                    clear HA_HO125
                                                    subst eo69
                                                    obtain ⟨co70, eo70⟩ := HA_HO129.out
                                                    clear HA_HO129
                                                    subst eo70
                                                    try go_wp2
                                                    go_roundg kj19
                                                    case measure => have := HJ4.out; have := HJ10.out; have := HK3.out; have := HJ19.out; omega
                                                    case rel => exact ⟨(x9_3 ++ (((⟨#[92, 117, 48, 48]⟩ : ByteArray) ++ (rdOf ByteArray.empty y123 (ji51))) ++ (rdOf ByteArray.empty y127 (ji56)))), (wrap64 (x44_3 + 1)), (by first | rfl | (simp; done) | (simp only [← hji51, ← hji56] <;> (first | rfl | simp)) | (simp [*]; done)), (by first | rfl | (simp; done) | (simp [*]; done)), H', ⟨by have := HJ4.out; have := HJ10.out; have := HK3.out; have := HJ19.out; omega⟩, ⟨by (with_reducible repeat (first | apply Kd.R_alloc | apply Kd.R_drewN | apply Kd.R_drew)); exact Kd.R_mono HO_42.out (fun _ hk => trivial)⟩, ⟨by repeat (first | (with_reducible first | exact HB.out | apply below_alloc | apply pw_below_drewN | apply below_drew1) | exact HB.out)⟩⟩
                                                  · rw [if_neg c60] at H
                                                    exact absurd H (by simp)
                                                · rw [if_neg c59] at H
                                                  exact absurd H (by simp)
                                              · rw [if_neg c58] at H
                                                exact absurd H (by simp)
                                            · rw [if_neg c57] at H
                                              exact absurd H (by simp)
                                          · rw [if_neg c54] at H
                                            exact absurd H (by simp)
                                        · rw [if_neg c53] at H
                                          exact absurd H (by simp)
                                      · rw [if_neg c52] at H
                                        exact absurd H (by simp)
                                    · rw [if_neg c49] at H
                                      exact absurd H (by simp)
                                  · rw [if_neg c48] at H
                                    have c48b0 : ((rdOf ByteArray.empty t102 x44_3).toList == ([127] : List UInt8)) = false := beq_eq_false_iff_ne.mpr c48
                                    have c48b1 : ((rdOf ByteArray.empty t102 x44_3).toList != ([127] : List UInt8)) = true := bne_iff_ne.mpr c48
                                    by_cases c71 : x9_3.size + (rdOf ByteArray.empty t102 x44_3).size ≤ 9223372036854775807
                                    · rw [if_pos c71] at H
                                      have c71b0 := eq_true c71
                                      have c71b1 : decide (x9_3.size + (rdOf ByteArray.empty t102 x44_3).size ≤ 9223372036854775807) = true := decide_eq_true c71
                                      try have c71b2 : (9223372036854775807 < x9_3.size + (rdOf ByteArray.empty t102 x44_3).size) = False := eq_false (Nat.not_lt.2 c71)
                                      have H' := Aside0.mk H
                                      clear H
                                      go_wp2
                                      go_roundg kj19
                                      case measure => have := HJ4.out; have := HJ10.out; have := HK3.out; have := HJ19.out; omega
                                      case rel => exact ⟨(x9_3 ++ (rdOf ByteArray.empty t102 x44_3)), (wrap64 (x44_3 + 1)), (by first | rfl | (simp; done) | (simp [*]; done)), (by first | rfl | (simp; done) | (simp [*]; done)), H', ⟨by have := HJ4.out; have := HJ10.out; have := HK3.out; have := HJ19.out; omega⟩, ⟨by (with_reducible repeat (first | apply Kd.R_alloc | apply Kd.R_drewN | apply Kd.R_drew)); exact HO_42.out⟩, ⟨by repeat (first | (with_reducible first | exact HB.out | apply below_alloc | apply pw_below_drewN | apply below_drew1) | exact HB.out)⟩⟩
                                    · rw [if_neg c71] at H
                                      exact absurd H (by simp)
                        · rw [if_neg c19] at H
                          exact absurd H (by simp)
                      · rw [if_neg c18] at H
                        exact absurd H (by simp)
                    · rw [if_neg c17] at H
                      have c17b0 : decide (x44_3 < (t102.length : Int)) = false := decide_eq_false c17
                      clear c17
                      replace H := Option.bind_eq_some_iff.mp H
                      obtain ⟨t110, A720, H⟩ := H
                      replace H : (if t110.size + a1.size ≤ 9223372036854775807 then ((text_Unquote.f (t110 ++ a1)).bind fun bt111 => (if x9_3.size + 1 ≤ 9223372036854775807 then (if t110.toList = (x9_3 ++ (⟨#[34]⟩ : ByteArray)).toList then (if bt111.2.2 = true then (if bt111.1.toList = a0.toList then (some (bt111.2.1 == (t110.size : Int))) else (some false)) else (some false)) else (some false)) else (none))) else (none)) = some r := H
                      have A72 := Aside0.mk A720
                      clear A720
                      by_cases c73 : t110.size + a1.size ≤ 9223372036854775807
                      · rw [if_pos c73] at H
                        have c73b0 := eq_true c73
                        have c73b1 : decide (t110.size + a1.size ≤ 9223372036854775807) = true := decide_eq_true c73
                        try have c73b2 : (9223372036854775807 < t110.size + a1.size) = False := eq_false (Nat.not_lt.2 c73)
                        replace H := Option.bind_eq_some_iff.mp H
                        obtain ⟨⟨t111, t112, t113⟩, A740, H⟩ := H
                        replace H : (if x9_3.size + 1 ≤ 9223372036854775807 then (if t110.toList = (x9_3 ++ (⟨#[34]⟩ : ByteArray)).toList then (if t113 = true then (if t111.toList = a0.toList then (some (t112 == (t110.size : Int))) else (some false)) else (some false)) else (some false)) else (none)) = some r := H
                        have A74 := Aside0.mk A740
                        clear A740
                        by_cases c75 : x9_3.size + 1 ≤ 9223372036854775807
                        · rw [if_pos c75] at H
                          have c75b0 := eq_true c75
                          have c75b1 : decide (x9_3.size + 1 ≤ 9223372036854775807) = true := decide_eq_true c75
                          try have c75b2 : (9223372036854775807 < x9_3.size + 1) = False := eq_false (Nat.not_lt.2 c75)
                          by_cases c76 : t110.toList = (x9_3 ++ (⟨#[34]⟩ : ByteArray)).toList
                          · rw [if_pos c76] at H
                            have c76b0 : (t110.toList == (x9_3 ++ (⟨#[34]⟩ : ByteArray)).toList) = true := beq_iff_eq.mpr c76
                            have c76b1 : (t110.toList != (x9_3 ++ (⟨#[34]⟩ : ByteArray)).toList) = false := bne_eq_false_iff_eq.mpr c76
                            clear c76
                            by_cases c77 : t113 = true
                            · subst c77
                              have H1 : (if t111.toList = a0.toList then (some (t112 == (t110.size : Int))) else (some false)) = some r := by rw [if_pos rfl] at H; exact H
                              clear H
                              have H := H1
                              clear H1
                              by_cases c78 : t111.toList = a0.toList
                              · rw [if_pos c78] at H
                                have c78b0 : (t111.toList == a0.toList) = true := beq_iff_eq.mpr c78
                                have c78b1 : (t111.toList != a0.toList) = false := bne_eq_false_iff_eq.mpr c78
                                clear c78
                                obtain rfl := Option.some.inj H
                                go_wp2_with (first | ((with_reducible refine gate_callee (f := 14) rfl ?_); refine goesL_ (some 85) rfl rfl Tryd.func14 (by kernel_rfl) rfl #[.string a0] rfl (by (try simp only [List.map_toArray, List.map_cons, List.map_nil]); first | done | rfl | (simp only [List.length_drop, List.length_take]; rfl)) ?_; (with_reducible refine (text_Quote.calls a0 t110 _ A72.out).mono ?_); rintro e w79 ⟨rfl, hb⟩; refine ⟨_, rfl, ?_⟩; have n0_ := Aside0.mk (Kd.R_below (by (with_reducible repeat (first | apply Kd.R_alloc | apply Kd.R_drewN | apply Kd.R_drew)); exact HO_42.out) hb); have n1_ := Aside0.mk (below_step (by repeat (first | (with_reducible first | exact HB.out | apply below_alloc | apply pw_below_drewN | apply below_drew1) | exact HB.out)) hb); clear HO_42; clear HB; have HO_42 := n0_; have HB := n1_; clear n0_ n1_; (try clear hb); (try clear hb2); (try clear hk); (try clear hi)) | ((with_reducible refine gate_callee (f := 12) rfl ?_); refine goesL_ (some 90) rfl rfl Tryd.func12 (by kernel_rfl) rfl #[.string (t110 ++ a1)] rfl (by (try simp only [List.map_toArray, List.map_cons, List.map_nil]); first | done | rfl | (simp only [List.length_drop, List.length_take]; rfl)) ?_; (with_reducible refine (text_Unquote.calls (t110 ++ a1) t111 t112 true _ A74.out).mono ?_); rintro e w80 ⟨rfl, hb⟩; refine ⟨_, rfl, ?_⟩; have n0_ := Aside0.mk (Kd.R_below (by (with_reducible repeat (first | apply Kd.R_alloc | apply Kd.R_drewN | apply Kd.R_drew)); exact HO_42.out) hb); have n1_ := Aside0.mk (below_step (by repeat (first | (with_reducible first | exact HB.out | apply below_alloc | apply pw_below_drewN | apply below_drew1) | exact HB.out)) hb); clear HO_42; clear HB; have HO_42 := n0_; have HB := n1_; clear n0_ n1_; (try clear hb); (try clear hb2); (try clear hk); (try clear hi)))
                                go_ret
                                exact ⟨by first | rfl | (simp [errW_none, errW_some] <;> rfl) | (simp [*, errW_none, errW_some] <;> rfl), by repeat (first | (with_reducible first | exact HB.out | apply below_alloc | apply pw_below_drewN | apply below_drew1) | exact HB.out)⟩
                              · rw [if_neg c78] at H
                                have c78b0 : (t111.toList == a0.toList) = false := beq_eq_false_iff_ne.mpr c78
                                have c78b1 : (t111.toList != a0.toList) = true := bne_iff_ne.mpr c78
                                obtain rfl := Option.some.inj H
                                go_wp2_with (first | ((with_reducible refine gate_callee (f := 14) rfl ?_); refine goesL_ (some 85) rfl rfl Tryd.func14 (by kernel_rfl) rfl #[.string a0] rfl (by (try simp only [List.map_toArray, List.map_cons, List.map_nil]); first | done | rfl | (simp only [List.length_drop, List.length_take]; rfl)) ?_; (with_reducible refine (text_Quote.calls a0 t110 _ A72.out).mono ?_); rintro e w81 ⟨rfl, hb⟩; refine ⟨_, rfl, ?_⟩; have n0_ := Aside0.mk (Kd.R_below (by (with_reducible repeat (first | apply Kd.R_alloc | apply Kd.R_drewN | apply Kd.R_drew)); exact HO_42.out) hb); have n1_ := Aside0.mk (below_step (by repeat (first | (with_reducible first | exact HB.out | apply below_alloc | apply pw_below_drewN | apply below_drew1) | exact HB.out)) hb); clear HO_42; clear HB; have HO_42 := n0_; have HB := n1_; clear n0_ n1_; (try clear hb); (try clear hb2); (try clear hk); (try clear hi)) | ((with_reducible refine gate_callee (f := 12) rfl ?_); refine goesL_ (some 90) rfl rfl Tryd.func12 (by kernel_rfl) rfl #[.string (t110 ++ a1)] rfl (by (try simp only [List.map_toArray, List.map_cons, List.map_nil]); first | done | rfl | (simp only [List.length_drop, List.length_take]; rfl)) ?_; (with_reducible refine (text_Unquote.calls (t110 ++ a1) t111 t112 true _ A74.out).mono ?_); rintro e w82 ⟨rfl, hb⟩; refine ⟨_, rfl, ?_⟩; have n0_ := Aside0.mk (Kd.R_below (by (with_reducible repeat (first | apply Kd.R_alloc | apply Kd.R_drewN | apply Kd.R_drew)); exact HO_42.out) hb); have n1_ := Aside0.mk (below_step (by repeat (first | (with_reducible first | exact HB.out | apply below_alloc | apply pw_below_drewN | apply below_drew1) | exact HB.out)) hb); clear HO_42; clear HB; have HO_42 := n0_; have HB := n1_; clear n0_ n1_; (try clear hb); (try clear hb2); (try clear hk); (try clear hi)))
                                go_ret
                                exact ⟨by first | rfl | (simp [errW_none, errW_some] <;> rfl) | (simp [*, errW_none, errW_some] <;> rfl), by repeat (first | (with_reducible first | exact HB.out | apply below_alloc | apply pw_below_drewN | apply below_drew1) | exact HB.out)⟩
                            · replace c77 := Bool.eq_false_iff.mpr c77
                              subst c77
                              have H1 : (some false) = some r := by rw [if_neg (show ¬ (false = true) by decide)] at H; exact H
                              clear H
                              have H := H1
                              clear H1
                              obtain rfl := Option.some.inj H
                              go_wp2_with (first | ((with_reducible refine gate_callee (f := 14) rfl ?_); refine goesL_ (some 85) rfl rfl Tryd.func14 (by kernel_rfl) rfl #[.string a0] rfl (by (try simp only [List.map_toArray, List.map_cons, List.map_nil]); first | done | rfl | (simp only [List.length_drop, List.length_take]; rfl)) ?_; (with_reducible refine (text_Quote.calls a0 t110 _ A72.out).mono ?_); rintro e w83 ⟨rfl, hb⟩; refine ⟨_, rfl, ?_⟩; have n0_ := Aside0.mk (Kd.R_below (by (with_reducible repeat (first | apply Kd.R_alloc | apply Kd.R_drewN | apply Kd.R_drew)); exact HO_42.out) hb); have n1_ := Aside0.mk (below_step (by repeat (first | (with_reducible first | exact HB.out | apply below_alloc | apply pw_below_drewN | apply below_drew1) | exact HB.out)) hb); clear HO_42; clear HB; have HO_42 := n0_; have HB := n1_; clear n0_ n1_; (try clear hb); (try clear hb2); (try clear hk); (try clear hi)) | ((with_reducible refine gate_callee (f := 12) rfl ?_); refine goesL_ (some 90) rfl rfl Tryd.func12 (by kernel_rfl) rfl #[.string (t110 ++ a1)] rfl (by (try simp only [List.map_toArray, List.map_cons, List.map_nil]); first | done | rfl | (simp only [List.length_drop, List.length_take]; rfl)) ?_; (with_reducible refine (text_Unquote.calls (t110 ++ a1) t111 t112 false _ A74.out).mono ?_); rintro e w84 ⟨rfl, hb⟩; refine ⟨_, rfl, ?_⟩; have n0_ := Aside0.mk (Kd.R_below (by (with_reducible repeat (first | apply Kd.R_alloc | apply Kd.R_drewN | apply Kd.R_drew)); exact HO_42.out) hb); have n1_ := Aside0.mk (below_step (by repeat (first | (with_reducible first | exact HB.out | apply below_alloc | apply pw_below_drewN | apply below_drew1) | exact HB.out)) hb); clear HO_42; clear HB; have HO_42 := n0_; have HB := n1_; clear n0_ n1_; (try clear hb); (try clear hb2); (try clear hk); (try clear hi)))
                              go_ret
                              exact ⟨by first | rfl | (simp [errW_none, errW_some] <;> rfl) | (simp [*, errW_none, errW_some] <;> rfl), by repeat (first | (with_reducible first | exact HB.out | apply below_alloc | apply pw_below_drewN | apply below_drew1) | exact HB.out)⟩
                          · rw [if_neg c76] at H
                            have c76b0 : (t110.toList == (x9_3 ++ (⟨#[34]⟩ : ByteArray)).toList) = false := beq_eq_false_iff_ne.mpr c76
                            have c76b1 : (t110.toList != (x9_3 ++ (⟨#[34]⟩ : ByteArray)).toList) = true := bne_iff_ne.mpr c76
                            obtain rfl := Option.some.inj H
                            go_wp2_with (first | ((with_reducible refine gate_callee (f := 14) rfl ?_); refine goesL_ (some 85) rfl rfl Tryd.func14 (by kernel_rfl) rfl #[.string a0] rfl (by (try simp only [List.map_toArray, List.map_cons, List.map_nil]); first | done | rfl | (simp only [List.length_drop, List.length_take]; rfl)) ?_; (with_reducible refine (text_Quote.calls a0 t110 _ A72.out).mono ?_); rintro e w85 ⟨rfl, hb⟩; refine ⟨_, rfl, ?_⟩; have n0_ := Aside0.mk (Kd.R_below (by (with_reducible repeat (first | apply Kd.R_alloc | apply Kd.R_drewN | apply Kd.R_drew)); exact HO_42.out) hb); have n1_ := Aside0.mk (below_step (by repeat (first | (with_reducible first | exact HB.out | apply below_alloc | apply pw_below_drewN | apply below_drew1) | exact HB.out)) hb); clear HO_42; clear HB; have HO_42 := n0_; have HB := n1_; clear n0_ n1_; (try clear hb); (try clear hb2); (try clear hk); (try clear hi)) | ((with_reducible refine gate_callee (f := 12) rfl ?_); refine goesL_ (some 90) rfl rfl Tryd.func12 (by kernel_rfl) rfl #[.string (t110 ++ a1)] rfl (by (try simp only [List.map_toArray, List.map_cons, List.map_nil]); first | done | rfl | (simp only [List.length_drop, List.length_take]; rfl)) ?_; (with_reducible refine (text_Unquote.calls (t110 ++ a1) t111 t112 t113 _ A74.out).mono ?_); rintro e w86 ⟨rfl, hb⟩; refine ⟨_, rfl, ?_⟩; have n0_ := Aside0.mk (Kd.R_below (by (with_reducible repeat (first | apply Kd.R_alloc | apply Kd.R_drewN | apply Kd.R_drew)); exact HO_42.out) hb); have n1_ := Aside0.mk (below_step (by repeat (first | (with_reducible first | exact HB.out | apply below_alloc | apply pw_below_drewN | apply below_drew1) | exact HB.out)) hb); clear HO_42; clear HB; have HO_42 := n0_; have HB := n1_; clear n0_ n1_; (try clear hb); (try clear hb2); (try clear hk); (try clear hi)))
                            go_ret
                            exact ⟨by first | rfl | (simp [errW_none, errW_some] <;> rfl) | (simp [*, errW_none, errW_some] <;> rfl), by repeat (first | (with_reducible first | exact HB.out | apply below_alloc | apply pw_below_drewN | apply below_drew1) | exact HB.out)⟩
                        · rw [if_neg c75] at H
                          exact absurd H (by simp)
                      · rw [if_neg c73] at H
                        exact absurd H (by simp)
  · replace c4 := Bool.eq_false_iff.mpr c4
    subst c4
    have H1 : (some false) = some r := by rw [if_neg (show ¬ (false = true) by decide)] at H; exact H
    clear H
    have H := H1
    clear H1
    obtain rfl := Option.some.inj H
    go_enter Tryd.func5, Tryd.ntmps5
    go_wp2_with (first | ((with_reducible refine gate_callee (f := 8) rfl ?_); refine goesL_ (some 16) rfl rfl Tryd.func8 (by kernel_rfl) rfl #[] rfl (by (try simp only [List.map_toArray, List.map_cons, List.map_nil]); first | done | rfl | (simp only [List.length_drop, List.length_take]; rfl)) ?_; (with_reducible refine (polyglotlaw01_head.calls  false _ A3.out).mono ?_); rintro e w87 ⟨rfl, hb⟩; refine ⟨_, rfl, ?_⟩; have n0_ := Aside0.mk (below_step (by repeat (first | (with_reducible first | exact HB.out | apply below_alloc | apply pw_below_drewN | apply below_drew1) | exact HB.out)) hb); clear HB; have HB := n0_; clear n0_; (try clear hb); (try clear hb2); (try clear hk); (try clear hi)))
    go_ret
    exact ⟨by first | rfl | (simp [errW_none, errW_some] <;> rfl) | (simp [*, errW_none, errW_some] <;> rfl), by repeat (first | (with_reducible first | exact HB.out | apply below_alloc | apply pw_below_drewN | apply below_drew1) | exact HB.out)⟩

/-- THE ONE PURE STATEMENT of polyglotlaw01_TextQuotes: yours. -/
def polyglotlaw01_TextQuotes.Pure : Prop := ∀ (a0 : ByteArray) (a1 : ByteArray), a0.size ≤ 140737488351232 → a1.size ≤ 140737488351232 → ∃ k, polyglotlaw01_TextQuotes.f k a0 a1 = some true
theorem polyglotlaw01_TextQuotes.walk (P : polyglotlaw01_TextQuotes.Pure) (a0 : ByteArray) (a1 : ByteArray) (w : World) (w0 : a0.size ≤ 140737488351232) (w1 : a1.size ≤ 140737488351232) (HT0_ : Tab_ w) :
    Calls Tryd.prog 5 #[.string a0, .string a1] w fun e w' => e = .returned (.bool true) ∧ Below w.heap.size w w' := by
  have HB := Aside0.mk (Below.refl w.heap.size w)
  obtain ⟨k, h⟩ := P a0 a1 w0 w1
  refine (polyglotlaw01_TextQuotes.calls k a0 a1 true w h).mono ?_
  rintro e w' ⟨rfl, hd⟩
  exact ⟨rfl, hd⟩

end Go.Proofs.YtaijjabbkmdcdaaDoor.Q
