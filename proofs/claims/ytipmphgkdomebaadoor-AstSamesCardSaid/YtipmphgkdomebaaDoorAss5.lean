/- Whatever two entries: whether they are the same, wherever they stand, as the page says; each is the same as itself; for every input. (Text 6 of 6: what the law's proof rests on, joined; walks printed by the kit's print over given contracts, walks and plain laws by hand.) -/
import Derived.Shelf.Unicode.ValidAny
import Derived.SizedLaws
import Derived.Deep.Slices
import Derived.Deep.Fields
import Derived.WalkKit
import Derived.ProofKit
import Derived.OpenShut
import Derived.Deep.DeepHandedRow
import Derived.Test.YtipmphgkdomebaaDoorCards
import Derived.Test.YtipmphgkdomebaaDoorTie
import Derived.ShutString
import Derived.Lib.LaidU8T
import Derived.PinnedBridge
import Derived.LaidOnce
import Derived.LaidMore
import Derived.Deep.DeepWitnessRowRef
import Derived.Deep.DeepLaidRun
import Derived.Test.YtipmphgkdomebaaDoorAss0
import Derived.Test.YtipmphgkdomebaaDoorAss1
import Derived.Test.YtipmphgkdomebaaDoorAss2
import Derived.Test.YtipmphgkdomebaaDoorAss3
import Derived.Test.YtipmphgkdomebaaDoorAss4
namespace Go.Proofs.YtipmphgkdomebaaDoor
open Go.RowKit Go.Proofs.YtipmphgkdomebaaDoorW.PrintWords
set_option linter.unusedVariables false
set_option linter.unusedSimpArgs false
theorem idx_ge {r : Int} {b : Bool} (h : decide (r ≥ 0) = b) : decide (0 ≤ r) = b := h
set_option maxRecDepth 100000 in
set_option maxHeartbeats 4000000 in
theorem idx_attr (q : Nat → Bool) (A : Option Addr) (n ca : Nat) (nm : Nat → ByteArray) (ne : Nat → Nat) (et : Nat → Nat → ByteArray) (ep : Nat → Nat → EX) (w : World) (hn : n ≤ 281474976710656) (hA : Attrs w A n nm ne et ep)
    (hq : ∀ i, i < n → ∀ B d, ne i ≤ d → Elems w B (ne i) (et i) (ep i) → ∀ W, Below w.heap.size w W → Calls Tryd.prog 40 #[.agg #[.string (nm i), .slice B (ne i) d]] W fun e w' => e = .returned (.bool (!(q i))) ∧ Below W.heap.size W w') :
    Calls Tryd.prog 75 #[.slice A n ca, .func (.func 40) #[] #[]] w fun e w' => (∃ r : Int, e = .returned (.int .i64 r) ∧ decide (r ≥ 0) = !(allTo q n)) ∧ Below w.heap.size w w' := by
  have HA := Lib.hid hA; clear hA
  have HQ := Lib.hid hq; clear hq
  go_enter Tryd.func75, Tryd.ntmps75
  go_wp2
  go_loopg [8] n (fun gk v8 wx => ∃ i : Nat, v8 = .int .i64 i ∧ i + gk = n ∧ allTo q i = true ∧ Below w.heap.size w wx)
  case atStart => exact ⟨0, rfl, by omega, rfl, Below.refl _ _⟩
  case round =>
    obtain ⟨i, rfl, hi, hall, hb⟩ := hrel
    by_cases hp : i < n
    · obtain ⟨f, rfl⟩ : ∃ f, gk = f + 1 := ⟨gk - 1, by omega⟩
      have hs := allTo_succ q i
      rw [hall, Bool.true_and] at hs
      have hff := fun h : q i = false => allTo_false h hp
      have HS := Lib.hid hs; clear hs
      have HFF := Lib.hid hff; clear hff
      obtain ⟨b1, o1, B1, d1, rfl, c10, c11, l1, k1⟩ := HA.out i hp
      have cQ := HQ.out i hp B1 d1 l1 k1
      have hk := Kept.of hb
      replace c10 := hk _ _ _ c10
      replace c11 := hk _ _ _ c11
      have HI := Lib.hid hi; clear hi hall hk l1 k1 HA HQ
      have q0 : decide ((i : Int) < (n : Int)) = true := decide_eq_true (by omega)
      have q1 : (0 : Int) ≤ (i : Int) := by omega
      have q2 : (i : Int) < (n : Int) := by omega
      cases hz : q i with
      | true =>
        rw [hz] at cQ HS
        go_wp2_with (go_at_call 40; refine (cQ _ hb).mono ?_; rintro e W3 ⟨rfl, b3⟩; have h3 := below_on hb b3 hb.size)
        go_roundg f
        case measure => omega
        case rel => exact ⟨i + 1, by go_num, by have := HI.out; omega, HS.out, h3⟩
      | false =>
        rw [hz] at cQ
        have HF := Lib.hid (HFF.out hz)
        go_wp2_with (go_at_call 40; refine (cQ _ hb).mono ?_; rintro e W3 ⟨rfl, b3⟩; have h3 := below_on hb b3 hb.size)
        go_ret
        exact ⟨⟨(i : Int), rfl, by rw [HF.out]; exact decide_eq_true (by omega)⟩, h3⟩
    · obtain rfl : i = n := by omega
      have HL := Lib.hid hall; clear hall
      have q0 : decide ((i : Int) < (i : Int)) = false := decide_eq_false (by omega)
      go_wp2
      go_ret
      exact ⟨⟨-1, rfl, by rw [HL.out]; rfl⟩, hb⟩
set_option maxRecDepth 100000 in
set_option maxHeartbeats 4000000 in
theorem has_attr (q : Nat → Bool) (A : Option Addr) (n ca : Nat) (nm : Nat → ByteArray) (ne : Nat → Nat) (et : Nat → Nat → ByteArray) (ep : Nat → Nat → EX) (w : World) (hn : n ≤ 281474976710656) (hA : Attrs w A n nm ne et ep)
    (hq : ∀ i, i < n → ∀ B d, ne i ≤ d → Elems w B (ne i) (et i) (ep i) → ∀ W, Below w.heap.size w W → Calls Tryd.prog 40 #[.agg #[.string (nm i), .slice B (ne i) d]] W fun e w' => e = .returned (.bool (!(q i))) ∧ Below W.heap.size W w') :
    Calls Tryd.prog 39 #[.slice A n ca, .func (.func 40) #[] #[]] w fun e w' => e = .returned (.bool (!(allTo q n))) ∧ Below w.heap.size w w' := by
  have c := idx_attr q A n ca nm ne et ep w hn hA hq
  clear hA hq
  generalize (!(allTo q n)) = s at *
  go_enter Tryd.func39, Tryd.ntmps39
  go_wp2_with (go_at_call 75; refine c.mono ?_; rintro e W1 ⟨⟨r, rfl, hr⟩, b1⟩; have HR := Lib.hid hr; clear hr)
  go_ret
  exact ⟨by have := HR.out; first | exact ret_b this | exact ret_b (idx_ge this), b1⟩
set_option maxRecDepth 100000 in
set_option maxHeartbeats 4000000 in
theorem right1_any (nm : ByteArray) (B : Option Addr) (n d : Nat) (pv : Bool) (w : World) (hz : nm.size ≤ 281474976710656)
    (cP : ∀ W, Below w.heap.size w W → Calls Tryd.prog 38 #[.slice B n d, .int .i64 0] W fun e w' => e = .returned (.bool pv) ∧ Below W.heap.size W w') :
    Calls Tryd.prog 40 #[.agg #[.string nm, .slice B n d]] w fun e w' => e = .returned (.bool (!(isNameB nm && (!(decide (n = 0)) && pv)))) ∧ Below w.heap.size w w' := by
  have h0 := Own.one w (.cells #[.string nm, .slice B n d] 44)
  have cN := fun W => IsName_any nm W (by omega)
  generalize isNameB nm = s at *
  cases s with
  | false =>
    go_enter Tryd.func40, Tryd.ntmps40
    go_upto_region 1 with (fail)
    generalize w.alloc _ = W0 at *
    have a0 := h0.c 0 0 rfl rfl
    have a1 := h0.c 0 1 rfl rfl
    go_wp2_with (go_at_call 37; refine (cN _).mono ?_; rintro e W1 ⟨rfl, b1⟩; have h1 := h0.step b1; have x0 := h1.c 0 0 rfl rfl; have x1 := h1.c 0 1 rfl rfl)
    go_ret
    exact ⟨by first | rfl | exact ret_b (by simp), h1.bel⟩
  | true =>
    by_cases hn : n = 0
    · subst hn
      go_enter Tryd.func40, Tryd.ntmps40
      go_upto_region 1 with (fail)
      generalize w.alloc _ = W0 at *
      have a0 := h0.c 0 0 rfl rfl
      have a1 := h0.c 0 1 rfl rfl
      go_wp2_with (go_at_call 37; refine (cN _).mono ?_; rintro e W1 ⟨rfl, b1⟩; have h1 := h0.step b1; have x0 := h1.c 0 0 rfl rfl; have x1 := h1.c 0 1 rfl rfl)
      go_ret
      exact ⟨by first | rfl | exact ret_b (by simp), h1.bel⟩
    · have q0 : ((n : Int) == 0) = false := beq_eq_false_iff_ne.2 (by omega)
      rw [decide_eq_false hn]
      clear hn
      go_enter Tryd.func40, Tryd.ntmps40
      go_upto_region 1 with (fail)
      generalize w.alloc _ = W0 at *
      have a0 := h0.c 0 0 rfl rfl
      have a1 := h0.c 0 1 rfl rfl
      go_wp2_with (first
        | (go_at_call 37; refine (cN _).mono ?_; rintro e W1 ⟨rfl, b1⟩; have h1 := h0.step b1; have x0 := h1.c 0 0 rfl rfl; have x1 := h1.c 0 1 rfl rfl)
        | (go_at_call 38; refine (cP _ h1.bel).mono ?_; rintro e W2 ⟨rfl, b2⟩; have h2 := h1.step b2))
      go_ret
      exact ⟨by first | rfl | exact ret_b (by simp), h2.bel⟩
def attOk (x : EN) (pa : Nat → Bool) (i : Nat) : Bool := isNameB (x.an i) && (!(decide (x.ae i = 0)) && pa i)
def msgOk (x : EN) (pv : Bool) (pa : Nat → Bool) : Bool := (x.lv == 0) && ((x.text.toList == []) && (isNameB x.name && (pv && (!(decide (x.nv = 0) && ((x.ty == 2) || decide (x.na = 0))) && allTo (attOk x pa) x.na))))
set_option maxRecDepth 100000 in
set_option maxHeartbeats 4000000 in
theorem right_msg (x : EN) (A B : Option Addr) (ca cb : Nat) (pv : Bool) (pa : Nat → Bool) (w : World) (f : x.Fin) (h : x.R w A ca B cb) (ht : x.ty = 1 ∨ x.ty = 2)
    (cP : ∀ W, Below w.heap.size w W → Calls Tryd.prog 38 #[.slice A x.nv ca, .int .i64 0] W fun e w' => e = .returned (.bool pv) ∧ Below W.heap.size W w')
    (cQ : ∀ i, i < x.na → ∀ B2 d W, Below w.heap.size w W → Elems W B2 (x.ae i) (x.at_ i) (x.ap i) → Calls Tryd.prog 38 #[.slice B2 (x.ae i) d, .int .i64 0] W fun e w' => e = .returned (.bool (pa i)) ∧ Below W.heap.size W w') :
    Calls Tryd.prog 18 #[.agg #[.int .i64 x.ty, .int .i64 x.lv, .string x.text, .string x.name, .slice A x.nv ca, .slice B x.na cb, .int .i64 x.fr, .int .i64 x.ti]] w fun e w' => e = .returned (.bool (msgOk x pv pa)) ∧ Below w.heap.size w w' := by
  have h0 := Own.one w (.cells #[.int .i64 x.ty, .int .i64 x.lv, .string x.text, .string x.name, .slice A x.nv ca, .slice B x.na cb, .int .i64 x.fr, .int .i64 x.ti] 29)
  have cN := fun W => IsName_any x.name W (by have := f.nm; omega)
  have cA := fun W (hW : Below w.heap.size w W) => has_attr (attOk x pa) B x.na cb x.an x.ae x.at_ x.ap W f.na (h.att.keep (Kept.of hW)) (fun i hi B2 d hd hE W2 hW2 => right1_any (x.an i) B2 (x.ae i) d (pa i) W2 (f.ats i hi).1 (fun W3 hW3 => cQ i hi B2 d W3 (below_on (below_on hW hW2 hW.size) hW3 (below_on hW hW2 hW.size).size) (hE.keep ((Kept.of hW2).trans (Kept.of hW3)))))
  unfold msgOk
  have n0 := f.nv
  have n1 := f.na
  generalize isNameB x.name = s at *
  generalize allTo (attOk x pa) x.na = sA at *
  clear cQ h f
  rcases ht with ht | ht
  · have t0 : (x.ty == 0) = false := by rw [ht]; rfl
    have t1 : (x.ty == 1) = true := by rw [ht]; rfl
    have t2 : (x.ty == 2) = false := by rw [ht]; rfl
    rw [t2]
    clear ht
    cases q1 : (x.lv == 0) with
    | false =>
      have q2 : (x.lv != 0) = true := by rw [bne, q1]; rfl
      clear cA cP cN
      go_enter Tryd.func18, Tryd.ntmps18
      go_upto_region 1 with (fail)
      generalize w.alloc _ = W0 at *
      have a0 := h0.c 0 0 rfl rfl
      have a1 := h0.c 0 1 rfl rfl
      have a2 := h0.c 0 2 rfl rfl
      have a3 := h0.c 0 3 rfl rfl
      have a4 := h0.c 0 4 rfl rfl
      have a5 := h0.c 0 5 rfl rfl
      go_wp2
      go_ret
      exact ⟨by first | rfl | exact ret_b (by simp), h0.bel⟩
    | true =>
      have q2 : (x.lv != 0) = false := by rw [bne, q1]; rfl
      cases q3 : (x.text.toList == []) with
      | false =>
        clear cA cP cN
        go_enter Tryd.func18, Tryd.ntmps18
        go_upto_region 1 with (fail)
        generalize w.alloc _ = W0 at *
        have a0 := h0.c 0 0 rfl rfl
        have a1 := h0.c 0 1 rfl rfl
        have a2 := h0.c 0 2 rfl rfl
        have a3 := h0.c 0 3 rfl rfl
        have a4 := h0.c 0 4 rfl rfl
        have a5 := h0.c 0 5 rfl rfl
        go_wp2
        go_ret
        exact ⟨by first | rfl | exact ret_b (by simp), h0.bel⟩
      | true =>
        cases s with
        | false =>
          clear cA cP
          go_enter Tryd.func18, Tryd.ntmps18
          go_upto_region 1 with (fail)
          generalize w.alloc _ = W0 at *
          have a0 := h0.c 0 0 rfl rfl
          have a1 := h0.c 0 1 rfl rfl
          have a2 := h0.c 0 2 rfl rfl
          have a3 := h0.c 0 3 rfl rfl
          have a4 := h0.c 0 4 rfl rfl
          have a5 := h0.c 0 5 rfl rfl
          go_wp2_with (go_at_call 37; refine (cN _).mono ?_; rintro e W1 ⟨rfl, b1⟩; have h1 := h0.step b1; have x0 := h1.c 0 0 rfl rfl; have x4 := h1.c 0 4 rfl rfl; have x5 := h1.c 0 5 rfl rfl)
          go_ret
          exact ⟨by first | rfl | exact ret_b (by simp), h1.bel⟩
        | true =>
          cases pv with
          | false =>
            clear cA
            go_enter Tryd.func18, Tryd.ntmps18
            go_upto_region 1 with (fail)
            generalize w.alloc _ = W0 at *
            have a0 := h0.c 0 0 rfl rfl
            have a1 := h0.c 0 1 rfl rfl
            have a2 := h0.c 0 2 rfl rfl
            have a3 := h0.c 0 3 rfl rfl
            have a4 := h0.c 0 4 rfl rfl
            have a5 := h0.c 0 5 rfl rfl
            go_wp2_with (first
              | (go_at_call 37; refine (cN _).mono ?_; rintro e W1 ⟨rfl, b1⟩; have h1 := h0.step b1; have x0 := h1.c 0 0 rfl rfl; have x4 := h1.c 0 4 rfl rfl; have x5 := h1.c 0 5 rfl rfl)
              | (go_at_call 38; refine (cP _ h1.bel).mono ?_; rintro e W2 ⟨rfl, b2⟩; have h2 := h1.step b2; have y0 := h2.c 0 0 rfl rfl; have y4 := h2.c 0 4 rfl rfl; have y5 := h2.c 0 5 rfl rfl))
            go_ret
            exact ⟨by first | rfl | exact ret_b (by simp), h2.bel⟩
          | true =>
            by_cases z0 : x.nv = 0
            · have q5 : ((x.nv : Int) == 0) = true := beq_iff_eq.2 (by omega)
              rw [decide_eq_true z0]
              clear z0
              by_cases z1 : x.na = 0
              · have q6 : ((x.na : Int) == 0) = true := beq_iff_eq.2 (by omega)
                rw [decide_eq_true z1]
                clear z1
                clear cA
                go_enter Tryd.func18, Tryd.ntmps18
                go_upto_region 1 with (fail)
                generalize w.alloc _ = W0 at *
                have a0 := h0.c 0 0 rfl rfl
                have a1 := h0.c 0 1 rfl rfl
                have a2 := h0.c 0 2 rfl rfl
                have a3 := h0.c 0 3 rfl rfl
                have a4 := h0.c 0 4 rfl rfl
                have a5 := h0.c 0 5 rfl rfl
                go_wp2_with (first
                  | (go_at_call 37; refine (cN _).mono ?_; rintro e W1 ⟨rfl, b1⟩; have h1 := h0.step b1; have x0 := h1.c 0 0 rfl rfl; have x4 := h1.c 0 4 rfl rfl; have x5 := h1.c 0 5 rfl rfl)
                  | (go_at_call 38; refine (cP _ h1.bel).mono ?_; rintro e W2 ⟨rfl, b2⟩; have h2 := h1.step b2; have y0 := h2.c 0 0 rfl rfl; have y4 := h2.c 0 4 rfl rfl; have y5 := h2.c 0 5 rfl rfl))
                go_ret
                exact ⟨by first | rfl | exact ret_b (by simp), h2.bel⟩
              · have q6 : ((x.na : Int) == 0) = false := beq_eq_false_iff_ne.2 (by omega)
                rw [decide_eq_false z1]
                clear z1
                go_enter Tryd.func18, Tryd.ntmps18
                go_upto_region 1 with (fail)
                generalize w.alloc _ = W0 at *
                have a0 := h0.c 0 0 rfl rfl
                have a1 := h0.c 0 1 rfl rfl
                have a2 := h0.c 0 2 rfl rfl
                have a3 := h0.c 0 3 rfl rfl
                have a4 := h0.c 0 4 rfl rfl
                have a5 := h0.c 0 5 rfl rfl
                go_wp2_with (first
                  | (go_at_call 37; refine (cN _).mono ?_; rintro e W1 ⟨rfl, b1⟩; have h1 := h0.step b1; have x0 := h1.c 0 0 rfl rfl; have x4 := h1.c 0 4 rfl rfl; have x5 := h1.c 0 5 rfl rfl)
                  | (go_at_call 38; refine (cP _ h1.bel).mono ?_; rintro e W2 ⟨rfl, b2⟩; have h2 := h1.step b2; have y0 := h2.c 0 0 rfl rfl; have y4 := h2.c 0 4 rfl rfl; have y5 := h2.c 0 5 rfl rfl)
                  | (go_at_call 39; refine (cA _ h2.bel).mono ?_; rintro e W3 ⟨rfl, b3⟩; have h3 := h2.step b3))
                go_ret
                exact ⟨by first | rfl | exact ret_b (by simp), h3.bel⟩
            · have q5 : ((x.nv : Int) == 0) = false := beq_eq_false_iff_ne.2 (by omega)
              rw [decide_eq_false z0]
              clear z0
              go_enter Tryd.func18, Tryd.ntmps18
              go_upto_region 1 with (fail)
              generalize w.alloc _ = W0 at *
              have a0 := h0.c 0 0 rfl rfl
              have a1 := h0.c 0 1 rfl rfl
              have a2 := h0.c 0 2 rfl rfl
              have a3 := h0.c 0 3 rfl rfl
              have a4 := h0.c 0 4 rfl rfl
              have a5 := h0.c 0 5 rfl rfl
              go_wp2_with (first
                | (go_at_call 37; refine (cN _).mono ?_; rintro e W1 ⟨rfl, b1⟩; have h1 := h0.step b1; have x0 := h1.c 0 0 rfl rfl; have x4 := h1.c 0 4 rfl rfl; have x5 := h1.c 0 5 rfl rfl)
                | (go_at_call 38; refine (cP _ h1.bel).mono ?_; rintro e W2 ⟨rfl, b2⟩; have h2 := h1.step b2; have y0 := h2.c 0 0 rfl rfl; have y4 := h2.c 0 4 rfl rfl; have y5 := h2.c 0 5 rfl rfl)
                | (go_at_call 39; refine (cA _ h2.bel).mono ?_; rintro e W3 ⟨rfl, b3⟩; have h3 := h2.step b3))
              go_ret
              exact ⟨by first | rfl | exact ret_b (by simp), h3.bel⟩
  · have t0 : (x.ty == 0) = false := by rw [ht]; rfl
    have t1 : (x.ty == 1) = false := by rw [ht]; rfl
    have t2 : (x.ty == 2) = true := by rw [ht]; rfl
    rw [t2]
    clear ht
    cases q1 : (x.lv == 0) with
    | false =>
      have q2 : (x.lv != 0) = true := by rw [bne, q1]; rfl
      clear cA cP cN
      go_enter Tryd.func18, Tryd.ntmps18
      go_upto_region 1 with (fail)
      generalize w.alloc _ = W0 at *
      have a0 := h0.c 0 0 rfl rfl
      have a1 := h0.c 0 1 rfl rfl
      have a2 := h0.c 0 2 rfl rfl
      have a3 := h0.c 0 3 rfl rfl
      have a4 := h0.c 0 4 rfl rfl
      have a5 := h0.c 0 5 rfl rfl
      go_wp2
      go_ret
      exact ⟨by first | rfl | exact ret_b (by simp), h0.bel⟩
    | true =>
      have q2 : (x.lv != 0) = false := by rw [bne, q1]; rfl
      cases q3 : (x.text.toList == []) with
      | false =>
        clear cA cP cN
        go_enter Tryd.func18, Tryd.ntmps18
        go_upto_region 1 with (fail)
        generalize w.alloc _ = W0 at *
        have a0 := h0.c 0 0 rfl rfl
        have a1 := h0.c 0 1 rfl rfl
        have a2 := h0.c 0 2 rfl rfl
        have a3 := h0.c 0 3 rfl rfl
        have a4 := h0.c 0 4 rfl rfl
        have a5 := h0.c 0 5 rfl rfl
        go_wp2
        go_ret
        exact ⟨by first | rfl | exact ret_b (by simp), h0.bel⟩
      | true =>
        cases s with
        | false =>
          clear cA cP
          go_enter Tryd.func18, Tryd.ntmps18
          go_upto_region 1 with (fail)
          generalize w.alloc _ = W0 at *
          have a0 := h0.c 0 0 rfl rfl
          have a1 := h0.c 0 1 rfl rfl
          have a2 := h0.c 0 2 rfl rfl
          have a3 := h0.c 0 3 rfl rfl
          have a4 := h0.c 0 4 rfl rfl
          have a5 := h0.c 0 5 rfl rfl
          go_wp2_with (go_at_call 37; refine (cN _).mono ?_; rintro e W1 ⟨rfl, b1⟩; have h1 := h0.step b1; have x0 := h1.c 0 0 rfl rfl; have x4 := h1.c 0 4 rfl rfl; have x5 := h1.c 0 5 rfl rfl)
          go_ret
          exact ⟨by first | rfl | exact ret_b (by simp), h1.bel⟩
        | true =>
          cases pv with
          | false =>
            clear cA
            go_enter Tryd.func18, Tryd.ntmps18
            go_upto_region 1 with (fail)
            generalize w.alloc _ = W0 at *
            have a0 := h0.c 0 0 rfl rfl
            have a1 := h0.c 0 1 rfl rfl
            have a2 := h0.c 0 2 rfl rfl
            have a3 := h0.c 0 3 rfl rfl
            have a4 := h0.c 0 4 rfl rfl
            have a5 := h0.c 0 5 rfl rfl
            go_wp2_with (first
              | (go_at_call 37; refine (cN _).mono ?_; rintro e W1 ⟨rfl, b1⟩; have h1 := h0.step b1; have x0 := h1.c 0 0 rfl rfl; have x4 := h1.c 0 4 rfl rfl; have x5 := h1.c 0 5 rfl rfl)
              | (go_at_call 38; refine (cP _ h1.bel).mono ?_; rintro e W2 ⟨rfl, b2⟩; have h2 := h1.step b2; have y0 := h2.c 0 0 rfl rfl; have y4 := h2.c 0 4 rfl rfl; have y5 := h2.c 0 5 rfl rfl))
            go_ret
            exact ⟨by first | rfl | exact ret_b (by simp), h2.bel⟩
          | true =>
            by_cases z0 : x.nv = 0
            · have q5 : ((x.nv : Int) == 0) = true := beq_iff_eq.2 (by omega)
              rw [decide_eq_true z0]
              clear z0
              clear cA
              go_enter Tryd.func18, Tryd.ntmps18
              go_upto_region 1 with (fail)
              generalize w.alloc _ = W0 at *
              have a0 := h0.c 0 0 rfl rfl
              have a1 := h0.c 0 1 rfl rfl
              have a2 := h0.c 0 2 rfl rfl
              have a3 := h0.c 0 3 rfl rfl
              have a4 := h0.c 0 4 rfl rfl
              have a5 := h0.c 0 5 rfl rfl
              go_wp2_with (first
                | (go_at_call 37; refine (cN _).mono ?_; rintro e W1 ⟨rfl, b1⟩; have h1 := h0.step b1; have x0 := h1.c 0 0 rfl rfl; have x4 := h1.c 0 4 rfl rfl; have x5 := h1.c 0 5 rfl rfl)
                | (go_at_call 38; refine (cP _ h1.bel).mono ?_; rintro e W2 ⟨rfl, b2⟩; have h2 := h1.step b2; have y0 := h2.c 0 0 rfl rfl; have y4 := h2.c 0 4 rfl rfl; have y5 := h2.c 0 5 rfl rfl))
              go_ret
              exact ⟨by first | rfl | exact ret_b (by simp), h2.bel⟩
            · have q5 : ((x.nv : Int) == 0) = false := beq_eq_false_iff_ne.2 (by omega)
              rw [decide_eq_false z0]
              clear z0
              go_enter Tryd.func18, Tryd.ntmps18
              go_upto_region 1 with (fail)
              generalize w.alloc _ = W0 at *
              have a0 := h0.c 0 0 rfl rfl
              have a1 := h0.c 0 1 rfl rfl
              have a2 := h0.c 0 2 rfl rfl
              have a3 := h0.c 0 3 rfl rfl
              have a4 := h0.c 0 4 rfl rfl
              have a5 := h0.c 0 5 rfl rfl
              go_wp2_with (first
                | (go_at_call 37; refine (cN _).mono ?_; rintro e W1 ⟨rfl, b1⟩; have h1 := h0.step b1; have x0 := h1.c 0 0 rfl rfl; have x4 := h1.c 0 4 rfl rfl; have x5 := h1.c 0 5 rfl rfl)
                | (go_at_call 38; refine (cP _ h1.bel).mono ?_; rintro e W2 ⟨rfl, b2⟩; have h2 := h1.step b2; have y0 := h2.c 0 0 rfl rfl; have y4 := h2.c 0 4 rfl rfl; have y5 := h2.c 0 5 rfl rfl)
                | (go_at_call 39; refine (cA _ h2.bel).mono ?_; rintro e W3 ⟨rfl, b3⟩; have h3 := h2.step b3))
              go_ret
              exact ⟨by first | rfl | exact ret_b (by simp), h3.bel⟩
end Go.Proofs.YtipmphgkdomebaaDoor
namespace Go.Proofs.YtipmphgkdomebaaDoor.K
open Go.RowKit Go.Proofs.YtipmphgkdomebaaDoor.G Go.Proofs.YtipmphgkdomebaaDoorW.PrintWords Go.Proofs.YtipmphgkdomebaaDoorW.PrintLast Go.Proofs.YtipmphgkdomebaaDoorW.PrintMore
attribute [local go_sem] max2_int min2_int max_two min_two max_three min_three max_four min_four
set_option linter.unusedVariables false
set_option linter.unusedSimpArgs false
mutual
def ast_lines.j0 : Nat → ByteArray → Bool → Option (Bool)
  | 0, _, _ => none
  | k + 1, x0, x20 => if x20 = true then (some false) else ((strings_Split.f x0 (⟨#[10]⟩ : ByteArray)).bind fun t106 => (ast_lines.l0 k x0 1 0 t106 (t106.length : Int) 0))
def ast_lines.l0 : Nat → ByteArray → Int → Int → List ByteArray → Int → Int → Option (Bool)
  | 0, _, _, _, _, _, _ => none
  | k + 1, x0, x3, x4, x22, x23, x24 => if x24 < x23 then (if 0 ≤ x24 then (if x24 < (x22.length : Int) then ((strings_TrimLeft.f (rdOf ByteArray.empty x22 x24) (⟨#[32]⟩ : ByteArray)).bind fun t111 => (if x24 = 0 then (ast_lines.j2 k x0 x3 x4 (rdOf ByteArray.empty x22 x24) t111 x22 x23 x24 true) else (ast_lines.j2 k x0 x3 x4 (rdOf ByteArray.empty x22 x24) t111 x22 x23 x24 ((rdOf ByteArray.empty x22 x24).toList == ([] : List UInt8))))) else (none)) else (none)) else (if x4 = 0 then (some true) else (if x3 = 0 then (some true) else (if 0 ≤ 1 then (if 1 ≤ (x0.size : Int) then ((strings_Trim.f (x0.extract 0 1) (⟨#[46, 42, 91]⟩ : ByteArray)).bind fun t109 => (some (t109.toList != ([] : List UInt8)))) else (none)) else (none))))
def ast_lines.j2 : Nat → ByteArray → Int → Int → ByteArray → ByteArray → List ByteArray → Int → Int → Bool → Option (Bool)
  | 0, _, _, _, _, _, _, _, _, _ => none
  | k + 1, x0, x3, x4, x6, x7, x22, x23, x24, x31 => if x31 = true then (ast_lines.l0 k x0 x3 x4 x22 x23 (wrap64 (x24 + 1))) else (if x7.toList = ([] : List UInt8) then (ast_lines.j3 k x0 x3 x4 x6 x7 x22 x23 x24 true) else (if 0 ≤ 1 then (if 1 ≤ (x7.size : Int) then ((strings_Trim.f (x7.extract 0 1) (⟨#[46, 42, 91]⟩ : ByteArray)).bind fun t112 => (ast_lines.j3 k x0 x3 x4 x6 x7 x22 x23 x24 (t112.toList == ([] : List UInt8)))) else (none)) else (none)))
def ast_lines.j3 : Nat → ByteArray → Int → Int → ByteArray → ByteArray → List ByteArray → Int → Int → Bool → Option (Bool)
  | 0, _, _, _, _, _, _, _, _, _ => none
  | k + 1, x0, x3, x4, x6, x7, x22, x23, x24, x38 => if x38 = true then (some false) else (if x4 = 0 then (ast_lines.l0 k x0 (wrap64 ((x6.size : Int) - (x7.size : Int))) (wrap64 (x4 + 1)) x22 x23 (wrap64 (x24 + 1))) else (if (wrap64 ((x6.size : Int) - (x7.size : Int))) < x3 then (ast_lines.l0 k x0 (wrap64 ((x6.size : Int) - (x7.size : Int))) (wrap64 (x4 + 1)) x22 x23 (wrap64 (x24 + 1))) else (ast_lines.l0 k x0 x3 (wrap64 (x4 + 1)) x22 x23 (wrap64 (x24 + 1)))))
end
def ast_lines.f (k : Nat) (a0 : ByteArray) : Option (Bool) := if 0 ≤ 1 then (if 1 ≤ (a0.size : Int) then ((strings_Trim.f (a0.extract 0 1) (⟨#[32, 10]⟩ : ByteArray)).bind fun t104 => (if t104.toList = ([] : List UInt8) then (ast_lines.j0 k a0 true) else (if 0 ≤ (wrap64 ((a0.size : Int) - 1)) then (if (wrap64 ((a0.size : Int) - 1)) ≤ (a0.size : Int) then ((strings_Trim.f (a0.extract ((wrap64 ((a0.size : Int) - 1)) : Int).toNat a0.size) (⟨#[32, 10]⟩ : ByteArray)).bind fun t105 => (ast_lines.j0 k a0 (t105.toList == ([] : List UInt8)))) else (none)) else (none)))) else (none)) else (none)
set_option maxHeartbeats 8000000 in
set_option maxRecDepth 100000 in
theorem ast_lines.calls (k : Nat) (a0 : ByteArray) (r : Bool) (w : World) (h : ast_lines.f k a0 = some r) (HT0_ : Tab_ w := by exact Tab_.step HT0_ (by repeat (first | (with_reducible first | exact HB.out | apply below_alloc | apply pw_below_drewN | apply below_drew1 | refine below_set ?_ (Aside0.out (by assumption))) | exact HB.out))) :
    Calls Tryd.prog 74 #[.string a0] w fun e w' => e = .returned (.bool r) ∧ Below w.heap.size w w' := by
  have HB := Aside0.mk (Below.refl w.heap.size w)
  have H : (if 0 ≤ 1 then (if 1 ≤ (a0.size : Int) then ((strings_Trim.f (a0.extract 0 1) (⟨#[32, 10]⟩ : ByteArray)).bind fun t104 => (if t104.toList = ([] : List UInt8) then (ast_lines.j0 k a0 true) else (if 0 ≤ (wrap64 ((a0.size : Int) - 1)) then (if (wrap64 ((a0.size : Int) - 1)) ≤ (a0.size : Int) then ((strings_Trim.f (a0.extract ((wrap64 ((a0.size : Int) - 1)) : Int).toNat a0.size) (⟨#[32, 10]⟩ : ByteArray)).bind fun t105 => (ast_lines.j0 k a0 (t105.toList == ([] : List UInt8)))) else (none)) else (none)))) else (none)) else (none)) = some r := h
  clear h
  have HC2 := Aside0.mk H
  clear H
  go_enter Tryd.func74, Tryd.ntmps74
  go_upto_region 1 with (fail)
  go_cut [20] (fun v20 wc => ∃ (kq : Nat) (x20_1 : Bool), v20 = .bool x20_1 ∧ Aside0 (ast_lines.j0 kq a0 x20_1 = some r) ∧ Aside0 (kq ≤ k) ∧ Aside0 (Below w.heap.size w wc))
  case first =>
    have H := HC2.out
    clear HC2
    by_cases c3 : 0 ≤ 1
    · rw [if_pos c3] at H
      have c3b0 := eq_true c3
      have c3b1 : decide (0 ≤ 1) = true := decide_eq_true c3
      clear c3
      by_cases c4 : 1 ≤ (a0.size : Int)
      · rw [if_pos c4] at H
        have c4b0 := eq_true c4
        have c4b1 : decide (1 ≤ (a0.size : Int)) = true := decide_eq_true c4
        clear c4
        replace H := Option.bind_eq_some_iff.mp H
        obtain ⟨t104, A50, H⟩ := H
        replace H : (if t104.toList = ([] : List UInt8) then (ast_lines.j0 k a0 true) else (if 0 ≤ (wrap64 ((a0.size : Int) - 1)) then (if (wrap64 ((a0.size : Int) - 1)) ≤ (a0.size : Int) then ((strings_Trim.f (a0.extract ((wrap64 ((a0.size : Int) - 1)) : Int).toNat a0.size) (⟨#[32, 10]⟩ : ByteArray)).bind fun t105 => (ast_lines.j0 k a0 (t105.toList == ([] : List UInt8)))) else (none)) else (none))) = some r := H
        have A5 := Aside0.mk A50
        clear A50
        by_cases c6 : t104.toList = ([] : List UInt8)
        · rw [if_pos c6] at H
          have c6b0 : (t104.toList == ([] : List UInt8)) = true := beq_iff_eq.mpr c6
          have c6b1 : (t104.toList != ([] : List UInt8)) = false := bne_eq_false_iff_eq.mpr c6
          clear c6
          (first | rw [c6b0] | (simp only [i64_w, i32_w]; rw [c6b0]) | skip)
          have H' := Aside0.mk H
          clear H
          go_wp2_with (first | ((with_reducible refine gate_callee (f := 114) rfl ?_); refine goesL_ (some 10) rfl rfl Tryd.func114 (by kernel_rfl) rfl #[.string (a0.extract 0 1), .string (⟨#[32, 10]⟩ : ByteArray)] rfl (by (try simp only [List.map_toArray, List.map_cons, List.map_nil]); first | done | rfl | (simp only [List.length_drop, List.length_take]; rfl)) ?_; (with_reducible refine (strings_Trim.calls (a0.extract 0 1) (⟨#[32, 10]⟩ : ByteArray) t104 _ A5.out).mono ?_); rintro e w7 ⟨rfl, hb⟩; refine ⟨_, rfl, ?_⟩; have n0_ := Aside0.mk (below_step (by repeat (first | (with_reducible first | exact HB.out | apply below_alloc | apply pw_below_drewN | apply below_drew1) | exact HB.out)) hb); clear HB; have HB := n0_; clear n0_; (try clear hb); (try clear hb2); (try clear hk); (try clear hi)))
          go_meet
          case rel => exact ⟨_, (true), (by first | rfl | (simp; done) | (simp [*]; done)), H', ⟨by first | omega | exact Nat.le_refl _⟩, ⟨by repeat (first | (with_reducible first | exact HB.out | apply below_alloc | apply pw_below_drewN | apply below_drew1) | exact HB.out)⟩⟩
        · rw [if_neg c6] at H
          have c6b0 : (t104.toList == ([] : List UInt8)) = false := beq_eq_false_iff_ne.mpr c6
          have c6b1 : (t104.toList != ([] : List UInt8)) = true := bne_iff_ne.mpr c6
          (first | rw [c6b0] | (simp only [i64_w, i32_w]; rw [c6b0]) | skip)
          obtain ⟨ji8, hji8⟩ : ∃ j_ : Int, (wrap64 ((a0.size : Int) - 1)) = j_ := ⟨_, rfl⟩
          replace H : (if 0 ≤ (ji8) then (if (ji8) ≤ (a0.size : Int) then ((strings_Trim.f (a0.extract ((ji8) : Int).toNat a0.size) (⟨#[32, 10]⟩ : ByteArray)).bind fun t105 => (ast_lines.j0 k a0 (t105.toList == ([] : List UInt8)))) else (none)) else (none)) = some r := by first | (rw [hji8] at H; exact H) | (simp only [hji8] at H ⊢; exact H)
          (try rw [hji8] at A5)
          have hji8w : (IntKind.i64.wrap ((a0.size : Int) - 1)) = ji8 := (i64_w _).trans hji8
          by_cases c9 : 0 ≤ (ji8)
          · rw [if_pos c9] at H
            have c9b0 := eq_true c9
            have c9b1 : decide (0 ≤ (ji8)) = true := decide_eq_true c9
            clear c9
            by_cases c10 : (ji8) ≤ (a0.size : Int)
            · rw [if_pos c10] at H
              have c10b0 := eq_true c10
              have c10b1 : decide ((ji8) ≤ (a0.size : Int)) = true := decide_eq_true c10
              clear c10
              replace H := Option.bind_eq_some_iff.mp H
              obtain ⟨t105, A110, H⟩ := H
              replace H : (ast_lines.j0 k a0 (t105.toList == ([] : List UInt8))) = some r := H
              have A11 := Aside0.mk A110
              clear A110
              have H' := Aside0.mk H
              clear H
              go_wp2_with (first | ((with_reducible refine gate_callee (f := 114) rfl ?_); refine goesL_ (some 10) rfl rfl Tryd.func114 (by kernel_rfl) rfl #[.string (a0.extract 0 1), .string (⟨#[32, 10]⟩ : ByteArray)] rfl (by (try simp only [List.map_toArray, List.map_cons, List.map_nil]); first | done | rfl | (simp only [List.length_drop, List.length_take]; rfl)) ?_; (with_reducible refine (strings_Trim.calls (a0.extract 0 1) (⟨#[32, 10]⟩ : ByteArray) t104 _ A5.out).mono ?_); rintro e w12 ⟨rfl, hb⟩; refine ⟨_, rfl, ?_⟩; have n0_ := Aside0.mk (below_step (by repeat (first | (with_reducible first | exact HB.out | apply below_alloc | apply pw_below_drewN | apply below_drew1) | exact HB.out)) hb); clear HB; have HB := n0_; clear n0_; (try clear hb); (try clear hb2); (try clear hk); (try clear hi)) | (go_at_call 114; (with_reducible refine (strings_Trim.calls (a0.extract ((ji8) : Int).toNat a0.size) (⟨#[32, 10]⟩ : ByteArray) t105 _ A11.out).mono ?_); rintro e w13 ⟨rfl, hb⟩; have n0_ := Aside0.mk (below_step (by repeat (first | (with_reducible first | exact HB.out | apply below_alloc | apply pw_below_drewN | apply below_drew1) | exact HB.out)) hb); clear HB; have HB := n0_; clear n0_; (try clear hb); (try clear hb2); (try clear hk); (try clear hi)))
              go_meet
              case rel => exact ⟨_, ((t105.toList == ([] : List UInt8))), (by first | rfl | (simp; done) | (simp [*]; done)), H', ⟨by first | omega | exact Nat.le_refl _⟩, ⟨by repeat (first | (with_reducible first | exact HB.out | apply below_alloc | apply pw_below_drewN | apply below_drew1) | exact HB.out)⟩⟩
            · rw [if_neg c10] at H
              exact absurd H (by simp)
          · rw [if_neg c9] at H
            exact absurd H (by simp)
      · rw [if_neg c4] at H
        exact absurd H (by simp)
    · rw [if_neg c3] at H
      exact absurd H (by simp)
  case rest =>
    clear HC2
    try clear c1
    try clear p2
    try clear c3
    try clear c3b0
    try clear c3b1
    try clear c4
    try clear c4b0
    try clear c4b1
    try clear c6
    try clear c6b0
    try clear c6b1
    try clear p6
    try clear c7
    try clear c9
    try clear c9b0
    try clear c9b1
    try clear c10
    try clear c10b0
    try clear c10b1
    try clear c11
    obtain ⟨kq, x20_1, rfl, HA, HJ1, HB⟩ := hcut
    cases kq with
    | zero => exact absurd HA.out (by simp [ast_lines.j0])
    | succ kj1 =>
      have H := HA.out
      clear HA
      simp only [ast_lines.j0] at H
      by_cases c14 : x20_1 = true
      · subst c14
        have H1 : (some false) = some r := by rw [if_pos rfl] at H; exact H
        clear H
        have H := H1
        clear H1
        obtain rfl := Option.some.inj H
        go_wp2
        go_ret
        exact ⟨by first | rfl | (simp [errW_none, errW_some] <;> rfl) | (simp [*, errW_none, errW_some] <;> rfl), by repeat (first | (with_reducible first | exact HB.out | apply below_alloc | apply pw_below_drewN | apply below_drew1) | exact HB.out)⟩
      · replace c14 := Bool.eq_false_iff.mpr c14
        subst c14
        have H1 : ((strings_Split.f a0 (⟨#[10]⟩ : ByteArray)).bind fun t106 => (ast_lines.l0 kj1 a0 1 0 t106 (t106.length : Int) 0)) = some r := by rw [if_neg (show ¬ (false = true) by decide)] at H; exact H
        clear H
        have H := H1
        clear H1
        replace H := Option.bind_eq_some_iff.mp H
        obtain ⟨t106, A150, H⟩ := H
        replace H : (ast_lines.l0 kj1 a0 1 0 t106 (t106.length : Int) 0) = some r := H
        have A15 := Aside0.mk A150
        clear A150
        have H' := Aside0.mk H
        clear H
        go_wp2_with (first | ((with_reducible refine gate_callee (f := 27) rfl ?_); refine goesL_ (some 22) rfl rfl Tryd.func27 (by kernel_rfl) rfl #[.string a0, .string (⟨#[10]⟩ : ByteArray)] rfl (by (try simp only [List.map_toArray, List.map_cons, List.map_nil]); first | done | rfl | (simp only [List.length_drop, List.length_take]; rfl)) ?_; (with_reducible refine (strings_Split.calls a0 (⟨#[10]⟩ : ByteArray) t106 _ A15.out).mono ?_); rintro e w16 ⟨v107, rfl, ho0, hb⟩; refine ⟨_, rfl, ?_⟩; have n0_ := Aside0.mk (Kd.R_lower ho0 (below_size (by repeat (first | (with_reducible first | exact HB.out | apply below_alloc | apply pw_below_drewN | apply below_drew1) | exact HB.out)))); have n1_ := Aside0.mk (below_step (by repeat (first | (with_reducible first | exact HB.out | apply below_alloc | apply pw_below_drewN | apply below_drew1) | exact HB.out)) hb); clear HB; have HO108 := n0_; have HB := n1_; clear n0_ n1_; (try clear hb); (try clear hb2); (try clear hk); (try clear hi); (try clear ho0); obtain ⟨Ao17, co17, eo17⟩ := Kd.R_slice HO108.out; subst eo17))
        go_loopg [3, 4, 24] kj1 (fun kq v3 v4 v24 w' => ∃ (x3_2 : Int) (x4_2 : Int) (x24_2 : Int), v3 = .int .i64 x3_2 ∧ v4 = .int .i64 x4_2 ∧ v24 = .int .i64 x24_2 ∧ Aside0 (ast_lines.l0 kq a0 x3_2 x4_2 t106 (t106.length : Int) x24_2 = some r) ∧ Aside0 (kq ≤ kj1) ∧ Aside0 (Kd.R Kd.string 9 w' w.heap.size (fun _ => True) (.slice Ao17 t106.length co17) t106) ∧ Aside0 (Below w.heap.size w w'))
        case atStart => exact ⟨(1), (0), (0), (by first | rfl | (simp; done) | (simp [*]; done)), (by first | rfl | (simp; done) | (simp [*]; done)), (by first | rfl | (simp; done) | (simp [*]; done)), H', ⟨Nat.le_refl _⟩, ⟨by (with_reducible repeat (first | apply Kd.R_alloc | apply Kd.R_drewN | apply Kd.R_drew)); exact HO108.out⟩, ⟨by repeat (first | (with_reducible first | exact HB.out | apply below_alloc | apply pw_below_drewN | apply below_drew1) | exact HB.out)⟩⟩
        case round =>
          clear H'
          try clear c1
          try clear c2
          try clear p2
          try clear c3
          try clear c3b0
          try clear c3b1
          try clear c4
          try clear c4b0
          try clear c4b1
          try clear c6
          try clear c6b0
          try clear c6b1
          try clear p6
          try clear c7
          try clear c9
          try clear c9b0
          try clear c9b1
          try clear c10
          try clear c10b0
          try clear c10b1
          try clear c11
          try clear c14
          try clear p2
          try clear p6
          obtain ⟨x3_2, x4_2, x24_2, rfl, rfl, rfl, HA, HK2, HO_22, HB⟩ := hrel
          cases gk with
          | zero => exact absurd HA.out (by simp [ast_lines.l0])
          | succ k2 =>
            have H := HA.out
            clear HA
            simp only [ast_lines.l0] at H
            by_cases c18 : x24_2 < (t106.length : Int)
            · rw [if_pos c18] at H
              have c18b0 : decide (x24_2 < (t106.length : Int)) = true := decide_eq_true c18
              clear c18
              by_cases c19 : 0 ≤ x24_2
              · rw [if_pos c19] at H
                have c19b0 : decide (0 ≤ x24_2) = true := decide_eq_true c19
                clear c19
                by_cases c20 : x24_2 < (t106.length : Int)
                · rw [if_pos c20] at H
                  have c20b0 : decide (x24_2 < (t106.length : Int)) = true := decide_eq_true c20
                  clear c20
                  replace H := Option.bind_eq_some_iff.mp H
                  obtain ⟨t111, A210, H⟩ := H
                  replace H : (if x24_2 = 0 then (ast_lines.j2 k2 a0 x3_2 x4_2 (rdOf ByteArray.empty t106 x24_2) t111 t106 (t106.length : Int) x24_2 true) else (ast_lines.j2 k2 a0 x3_2 x4_2 (rdOf ByteArray.empty t106 x24_2) t111 t106 (t106.length : Int) x24_2 ((rdOf ByteArray.empty t106 x24_2).toList == ([] : List UInt8)))) = some r := H
                  have A21 := Aside0.mk A210
                  clear A210
                  have HC22 := Aside0.mk H
                  clear H
                  have p110 : 0 ≤ (x24_2 : Int) := of_decide_eq_true (by first | (with_reducible assumption) | assumption)
                  have q110 : x24_2 < (t106.length : Int) := of_decide_eq_true (by first | (with_reducible assumption) | assumption)
                  obtain ⟨ad110, e110, hx110_0⟩ := Kd.at_string (Kd.R_reads' HO_22.out).2.2 x24_2 p110 q110
                  cases e110
                  replace p110 := eq_true p110
                  replace q110 := eq_true q110
                  go_upto_region 8 with (first | ((with_reducible refine gate_callee (f := 115) rfl ?_); refine goesL_ (some 30) rfl rfl Tryd.func115 (by kernel_rfl) rfl #[.string (rdOf ByteArray.empty t106 x24_2), .string (⟨#[32]⟩ : ByteArray)] rfl (by (try simp only [List.map_toArray, List.map_cons, List.map_nil]); first | done | rfl | (simp only [List.length_drop, List.length_take]; rfl)) ?_; (with_reducible refine (strings_TrimLeft.calls (rdOf ByteArray.empty t106 x24_2) (⟨#[32]⟩ : ByteArray) t111 _ A21.out).mono ?_); rintro e w23 ⟨rfl, hb⟩; refine ⟨_, rfl, ?_⟩; have n0_ := Aside0.mk (Kd.R_below (by (with_reducible repeat (first | apply Kd.R_alloc | apply Kd.R_drewN | apply Kd.R_drew)); exact HO_22.out) hb); have n1_ := Aside0.mk (below_step (by repeat (first | (with_reducible first | exact HB.out | apply below_alloc | apply pw_below_drewN | apply below_drew1) | exact HB.out)) hb); clear HO_22; clear HB; have HO_22 := n0_; have HB := n1_; clear n0_ n1_; (try clear hb); (try clear hb2); (try clear hk); (try clear hi)))
                  (try simp only [Act.put, List.setIfInBounds_toArray, List.set_cons_zero, List.set_cons_succ])
                  go_cut [31] (fun v31 wc => ∃ (kq : Nat) (x31_21 : Bool), v31 = .bool x31_21 ∧ Aside0 (ast_lines.j2 kq a0 x3_2 x4_2 (rdOf ByteArray.empty t106 x24_2) t111 t106 (t106.length : Int) x24_2 x31_21 = some r) ∧ Aside0 (kq ≤ k2) ∧ Aside0 (Kd.R Kd.string 9 wc w.heap.size (fun _ => True) (.slice (some ad110) t106.length co17) t106) ∧ Aside0 (Below w.heap.size w wc))
                  case first =>
                    have H := HC22.out
                    clear HC22
                    by_cases c24 : x24_2 = 0
                    · rw [if_pos c24] at H
                      have c24b0 : (x24_2 == 0) = true := beq_iff_eq.mpr c24
                      have c24b1 : (x24_2 != 0) = false := bne_eq_false_iff_eq.mpr c24
                      clear c24
                      (first | rw [c24b0] | (simp only [i64_w, i32_w]; rw [c24b0]) | skip)
                      have H' := Aside0.mk H
                      clear H
                      go_wp2
                      go_meet
                      case rel => exact ⟨_, (true), (by first | rfl | (simp; done) | (simp [*]; done)), H', ⟨by have := HJ1.out; have := HK2.out; first | omega | exact Nat.le_refl _⟩, ⟨by (with_reducible repeat (first | apply Kd.R_alloc | apply Kd.R_drewN | apply Kd.R_drew)); exact HO_22.out⟩, ⟨by repeat (first | (with_reducible first | exact HB.out | apply below_alloc | apply pw_below_drewN | apply below_drew1) | exact HB.out)⟩⟩
                    · rw [if_neg c24] at H
                      have c24b0 : (x24_2 == 0) = false := beq_eq_false_iff_ne.mpr c24
                      have c24b1 : (x24_2 != 0) = true := bne_iff_ne.mpr c24
                      (first | rw [c24b0] | (simp only [i64_w, i32_w]; rw [c24b0]) | skip)
                      have H' := Aside0.mk H
                      clear H
                      go_wp2
                      go_meet
                      case rel => exact ⟨_, (((rdOf ByteArray.empty t106 x24_2).toList == ([] : List UInt8))), (by first | rfl | (simp; done) | (simp [*]; done)), H', ⟨by have := HJ1.out; have := HK2.out; first | omega | exact Nat.le_refl _⟩, ⟨by (with_reducible repeat (first | apply Kd.R_alloc | apply Kd.R_drewN | apply Kd.R_drew)); exact HO_22.out⟩, ⟨by repeat (first | (with_reducible first | exact HB.out | apply below_alloc | apply pw_below_drewN | apply below_drew1) | exact HB.out)⟩⟩
                  case rest =>
                    clear HC22
                    try clear c1
                    try clear p1
                    try clear q1
                    try clear hx1
                    try clear c2
                    try clear p2
                    try clear c3
                    try clear c3b0
                    try clear c3b1
                    try clear c4
                    try clear c4b0
                    try clear c4b1
                    try clear c6
                    try clear c6b0
                    try clear c6b1
                    try clear p6
                    try clear c7
                    try clear c9
                    try clear c9b0
                    try clear c9b1
                    try clear c10
                    try clear c10b0
                    try clear c10b1
                    try clear c11
                    try clear p11
                    try clear q11
                    try clear hx11
                    try clear c14
                    try clear c18
                    try clear c18b0
                    try clear c19
                    try clear c19b0
                    try clear c20
                    try clear c20b0
                    try clear c24
                    try clear c24b0
                    try clear c24b1
                    try clear hx110_0
                    try clear p110
                    try clear p2
                    try clear p6
                    try clear q110
                    obtain ⟨kq, x31_21, rfl, HA, HJ21, HO_22, HB⟩ := hcut
                    cases kq with
                    | zero => exact absurd HA.out (by simp [ast_lines.j2])
                    | succ kj21 =>
                      have H := HA.out
                      clear HA
                      simp only [ast_lines.j2] at H
                      by_cases c25 : x31_21 = true
                      · subst c25
                        have H1 : (ast_lines.l0 kj21 a0 x3_2 x4_2 t106 (t106.length : Int) (wrap64 (x24_2 + 1))) = some r := by rw [if_pos rfl] at H; exact H
                        clear H
                        have H := H1
                        clear H1
                        have H' := Aside0.mk H
                        clear H
                        go_wp2
                        go_roundg kj21
                        case measure => have := HJ1.out; have := HK2.out; have := HJ21.out; omega
                        case rel => exact ⟨(x3_2), (x4_2), (wrap64 (x24_2 + 1)), (by first | rfl | (simp; done) | (simp [*]; done)), (by first | rfl | (simp; done) | (simp [*]; done)), (by first | rfl | (simp; done) | (simp [*]; done)), H', ⟨by have := HJ1.out; have := HK2.out; have := HJ21.out; omega⟩, ⟨by (with_reducible repeat (first | apply Kd.R_alloc | apply Kd.R_drewN | apply Kd.R_drew)); exact HO_22.out⟩, ⟨by repeat (first | (with_reducible first | exact HB.out | apply below_alloc | apply pw_below_drewN | apply below_drew1) | exact HB.out)⟩⟩
                      · replace c25 := Bool.eq_false_iff.mpr c25
                        subst c25
                        have H1 : (if t111.toList = ([] : List UInt8) then (ast_lines.j3 kj21 a0 x3_2 x4_2 (rdOf ByteArray.empty t106 x24_2) t111 t106 (t106.length : Int) x24_2 true) else (if 0 ≤ 1 then (if 1 ≤ (t111.size : Int) then ((strings_Trim.f (t111.extract 0 1) (⟨#[46, 42, 91]⟩ : ByteArray)).bind fun t112 => (ast_lines.j3 kj21 a0 x3_2 x4_2 (rdOf ByteArray.empty t106 x24_2) t111 t106 (t106.length : Int) x24_2 (t112.toList == ([] : List UInt8)))) else (none)) else (none))) = some r := by rw [if_neg (show ¬ (false = true) by decide)] at H; exact H
                        clear H
                        have H := H1
                        clear H1
                        have HC26 := Aside0.mk H
                        clear H
                        go_upto_region 9 with (fail)
                        go_cut [38] (fun v38 wc => ∃ (kq : Nat) (x38_25 : Bool), v38 = .bool x38_25 ∧ Aside0 (ast_lines.j3 kq a0 x3_2 x4_2 (rdOf ByteArray.empty t106 x24_2) t111 t106 (t106.length : Int) x24_2 x38_25 = some r) ∧ Aside0 (kq ≤ kj21) ∧ Aside0 (Kd.R Kd.string 9 wc w.heap.size (fun _ => True) (.slice (some ad110) t106.length co17) t106) ∧ Aside0 (Below w.heap.size w wc))
                        case first =>
                          have H := HC26.out
                          clear HC26
                          by_cases c27 : t111.toList = ([] : List UInt8)
                          · rw [if_pos c27] at H
                            have c27b0 : (t111.toList == ([] : List UInt8)) = true := beq_iff_eq.mpr c27
                            have c27b1 : (t111.toList != ([] : List UInt8)) = false := bne_eq_false_iff_eq.mpr c27
                            clear c27
                            (first | rw [c27b0] | (simp only [i64_w, i32_w]; rw [c27b0]) | skip)
                            have H' := Aside0.mk H
                            clear H
                            go_wp2
                            go_meet
                            case rel => exact ⟨_, (true), (by first | rfl | (simp; done) | (simp [*]; done)), H', ⟨by have := HJ1.out; have := HK2.out; have := HJ21.out; first | omega | exact Nat.le_refl _⟩, ⟨by (with_reducible repeat (first | apply Kd.R_alloc | apply Kd.R_drewN | apply Kd.R_drew)); exact HO_22.out⟩, ⟨by repeat (first | (with_reducible first | exact HB.out | apply below_alloc | apply pw_below_drewN | apply below_drew1) | exact HB.out)⟩⟩
                          · rw [if_neg c27] at H
                            have c27b0 : (t111.toList == ([] : List UInt8)) = false := beq_eq_false_iff_ne.mpr c27
                            have c27b1 : (t111.toList != ([] : List UInt8)) = true := bne_iff_ne.mpr c27
                            (first | rw [c27b0] | (simp only [i64_w, i32_w]; rw [c27b0]) | skip)
                            by_cases c28 : 0 ≤ 1
                            · rw [if_pos c28] at H
                              have c28b0 := eq_true c28
                              have c28b1 : decide (0 ≤ 1) = true := decide_eq_true c28
                              clear c28
                              by_cases c29 : 1 ≤ (t111.size : Int)
                              · rw [if_pos c29] at H
                                have c29b0 := eq_true c29
                                have c29b1 : decide (1 ≤ (t111.size : Int)) = true := decide_eq_true c29
                                clear c29
                                replace H := Option.bind_eq_some_iff.mp H
                                obtain ⟨t112, A300, H⟩ := H
                                replace H : (ast_lines.j3 kj21 a0 x3_2 x4_2 (rdOf ByteArray.empty t106 x24_2) t111 t106 (t106.length : Int) x24_2 (t112.toList == ([] : List UInt8))) = some r := H
                                have A30 := Aside0.mk A300
                                clear A300
                                have H' := Aside0.mk H
                                clear H
                                go_wp2_with (first | (go_at_call 114; (with_reducible refine (strings_Trim.calls (t111.extract 0 1) (⟨#[46, 42, 91]⟩ : ByteArray) t112 _ A30.out).mono ?_); rintro e w31 ⟨rfl, hb⟩; have n0_ := Aside0.mk (Kd.R_below (by (with_reducible repeat (first | apply Kd.R_alloc | apply Kd.R_drewN | apply Kd.R_drew)); exact HO_22.out) hb); have n1_ := Aside0.mk (below_step (by repeat (first | (with_reducible first | exact HB.out | apply below_alloc | apply pw_below_drewN | apply below_drew1) | exact HB.out)) hb); clear HO_22; clear HB; have HO_22 := n0_; have HB := n1_; clear n0_ n1_; (try clear hb); (try clear hb2); (try clear hk); (try clear hi)))
                                go_meet
                                case rel => exact ⟨_, ((t112.toList == ([] : List UInt8))), (by first | rfl | (simp; done) | (simp [*]; done)), H', ⟨by have := HJ1.out; have := HK2.out; have := HJ21.out; first | omega | exact Nat.le_refl _⟩, ⟨by (with_reducible repeat (first | apply Kd.R_alloc | apply Kd.R_drewN | apply Kd.R_drew)); exact HO_22.out⟩, ⟨by repeat (first | (with_reducible first | exact HB.out | apply below_alloc | apply pw_below_drewN | apply below_drew1) | exact HB.out)⟩⟩
                              · rw [if_neg c29] at H
                                exact absurd H (by simp)
                            · rw [if_neg c28] at H
                              exact absurd H (by simp)
                        case rest =>
                          clear HC26
                          try clear c1
                          try clear p1
                          try clear q1
                          try clear hx1
                          try clear c2
                          try clear p2
                          try clear c3
                          try clear c3b0
                          try clear c3b1
                          try clear c4
                          try clear c4b0
                          try clear c4b1
                          try clear c6
                          try clear c6b0
                          try clear c6b1
                          try clear p6
                          try clear c7
                          try clear c9
                          try clear c9b0
                          try clear c9b1
                          try clear c10
                          try clear c10b0
                          try clear c10b1
                          try clear c11
                          try clear p11
                          try clear q11
                          try clear hx11
                          try clear c14
                          try clear c18
                          try clear c18b0
                          try clear c19
                          try clear c19b0
                          try clear c20
                          try clear c20b0
                          try clear c24
                          try clear c24b0
                          try clear c24b1
                          try clear c25
                          try clear c27
                          try clear c27b0
                          try clear c27b1
                          try clear c28
                          try clear c28b0
                          try clear c28b1
                          try clear c29
                          try clear c29b0
                          try clear c29b1
                          try clear hx110_0
                          try clear p1
                          try clear p11
                          try clear p110
                          try clear p2
                          try clear p6
                          try clear q1
                          try clear q11
                          try clear q110
                          obtain ⟨kq, x38_25, rfl, HA, HJ25, HO_22, HB⟩ := hcut
                          cases kq with
                          | zero => exact absurd HA.out (by simp [ast_lines.j3])
                          | succ kj25 =>
                            have H := HA.out
                            clear HA
                            simp only [ast_lines.j3] at H
                            by_cases c32 : x38_25 = true
                            · subst c32
                              have H1 : (some false) = some r := by rw [if_pos rfl] at H; exact H
                              clear H
                              have H := H1
                              clear H1
                              obtain rfl := Option.some.inj H
                              go_wp2
                              go_ret
                              exact ⟨by first | rfl | (simp [errW_none, errW_some] <;> rfl) | (simp [*, errW_none, errW_some] <;> rfl), by repeat (first | (with_reducible first | exact HB.out | apply below_alloc | apply pw_below_drewN | apply below_drew1) | exact HB.out)⟩
                            · replace c32 := Bool.eq_false_iff.mpr c32
                              subst c32
                              have H1 : (if x4_2 = 0 then (ast_lines.l0 kj25 a0 (wrap64 (((rdOf ByteArray.empty t106 x24_2).size : Int) - (t111.size : Int))) (wrap64 (x4_2 + 1)) t106 (t106.length : Int) (wrap64 (x24_2 + 1))) else (if (wrap64 (((rdOf ByteArray.empty t106 x24_2).size : Int) - (t111.size : Int))) < x3_2 then (ast_lines.l0 kj25 a0 (wrap64 (((rdOf ByteArray.empty t106 x24_2).size : Int) - (t111.size : Int))) (wrap64 (x4_2 + 1)) t106 (t106.length : Int) (wrap64 (x24_2 + 1))) else (ast_lines.l0 kj25 a0 x3_2 (wrap64 (x4_2 + 1)) t106 (t106.length : Int) (wrap64 (x24_2 + 1))))) = some r := by rw [if_neg (show ¬ (false = true) by decide)] at H; exact H
                              clear H
                              have H := H1
                              clear H1
                              by_cases c33 : x4_2 = 0
                              · rw [if_pos c33] at H
                                have c33b0 : (x4_2 == 0) = true := beq_iff_eq.mpr c33
                                have c33b1 : (x4_2 != 0) = false := bne_eq_false_iff_eq.mpr c33
                                clear c33
                                have H' := Aside0.mk H
                                clear H
                                go_wp2
                                go_roundg kj25
                                case measure => have := HJ1.out; have := HK2.out; have := HJ21.out; have := HJ25.out; omega
                                case rel => exact ⟨(wrap64 (((rdOf ByteArray.empty t106 x24_2).size : Int) - (t111.size : Int))), (wrap64 (x4_2 + 1)), (wrap64 (x24_2 + 1)), (by first | rfl | (simp; done) | (simp [*]; done)), (by first | rfl | (simp; done) | (simp [*]; done)), (by first | rfl | (simp; done) | (simp [*]; done)), H', ⟨by have := HJ1.out; have := HK2.out; have := HJ21.out; have := HJ25.out; omega⟩, ⟨by (with_reducible repeat (first | apply Kd.R_alloc | apply Kd.R_drewN | apply Kd.R_drew)); exact HO_22.out⟩, ⟨by repeat (first | (with_reducible first | exact HB.out | apply below_alloc | apply pw_below_drewN | apply below_drew1) | exact HB.out)⟩⟩
                              · rw [if_neg c33] at H
                                have c33b0 : (x4_2 == 0) = false := beq_eq_false_iff_ne.mpr c33
                                have c33b1 : (x4_2 != 0) = true := bne_iff_ne.mpr c33
                                by_cases c34 : (wrap64 (((rdOf ByteArray.empty t106 x24_2).size : Int) - (t111.size : Int))) < x3_2
                                · rw [if_pos c34] at H
                                  have c34b0 : decide ((wrap64 (((rdOf ByteArray.empty t106 x24_2).size : Int) - (t111.size : Int))) < x3_2) = true := decide_eq_true c34
                                  clear c34
                                  have H' := Aside0.mk H
                                  clear H
                                  go_wp2
                                  go_roundg kj25
                                  case measure => have := HJ1.out; have := HK2.out; have := HJ21.out; have := HJ25.out; omega
                                  case rel => exact ⟨(wrap64 (((rdOf ByteArray.empty t106 x24_2).size : Int) - (t111.size : Int))), (wrap64 (x4_2 + 1)), (wrap64 (x24_2 + 1)), (by first | rfl | (simp; done) | (simp [*]; done)), (by first | rfl | (simp; done) | (simp [*]; done)), (by first | rfl | (simp; done) | (simp [*]; done)), H', ⟨by have := HJ1.out; have := HK2.out; have := HJ21.out; have := HJ25.out; omega⟩, ⟨by (with_reducible repeat (first | apply Kd.R_alloc | apply Kd.R_drewN | apply Kd.R_drew)); exact HO_22.out⟩, ⟨by repeat (first | (with_reducible first | exact HB.out | apply below_alloc | apply pw_below_drewN | apply below_drew1) | exact HB.out)⟩⟩
                                · rw [if_neg c34] at H
                                  have c34b0 : decide ((wrap64 (((rdOf ByteArray.empty t106 x24_2).size : Int) - (t111.size : Int))) < x3_2) = false := decide_eq_false c34
                                  clear c34
                                  have H' := Aside0.mk H
                                  clear H
                                  go_wp2
                                  go_roundg kj25
                                  case measure => have := HJ1.out; have := HK2.out; have := HJ21.out; have := HJ25.out; omega
                                  case rel => exact ⟨(x3_2), (wrap64 (x4_2 + 1)), (wrap64 (x24_2 + 1)), (by first | rfl | (simp; done) | (simp [*]; done)), (by first | rfl | (simp; done) | (simp [*]; done)), (by first | rfl | (simp; done) | (simp [*]; done)), H', ⟨by have := HJ1.out; have := HK2.out; have := HJ21.out; have := HJ25.out; omega⟩, ⟨by (with_reducible repeat (first | apply Kd.R_alloc | apply Kd.R_drewN | apply Kd.R_drew)); exact HO_22.out⟩, ⟨by repeat (first | (with_reducible first | exact HB.out | apply below_alloc | apply pw_below_drewN | apply below_drew1) | exact HB.out)⟩⟩
                · rw [if_neg c20] at H
                  exact absurd H (by simp)
              · rw [if_neg c19] at H
                exact absurd H (by simp)
            · rw [if_neg c18] at H
              have c18b0 : decide (x24_2 < (t106.length : Int)) = false := decide_eq_false c18
              clear c18
              by_cases c35 : x4_2 = 0
              · rw [if_pos c35] at H
                have c35b0 : (x4_2 == 0) = true := beq_iff_eq.mpr c35
                have c35b1 : (x4_2 != 0) = false := bne_eq_false_iff_eq.mpr c35
                clear c35
                obtain rfl := Option.some.inj H
                go_wp2
                go_ret
                exact ⟨by first | rfl | (simp [errW_none, errW_some] <;> rfl) | (simp [*, errW_none, errW_some] <;> rfl), by repeat (first | (with_reducible first | exact HB.out | apply below_alloc | apply pw_below_drewN | apply below_drew1) | exact HB.out)⟩
              · rw [if_neg c35] at H
                have c35b0 : (x4_2 == 0) = false := beq_eq_false_iff_ne.mpr c35
                have c35b1 : (x4_2 != 0) = true := bne_iff_ne.mpr c35
                by_cases c36 : x3_2 = 0
                · rw [if_pos c36] at H
                  have c36b0 : (x3_2 == 0) = true := beq_iff_eq.mpr c36
                  have c36b1 : (x3_2 != 0) = false := bne_eq_false_iff_eq.mpr c36
                  clear c36
                  obtain rfl := Option.some.inj H
                  go_wp2
                  go_ret
                  exact ⟨by first | rfl | (simp [errW_none, errW_some] <;> rfl) | (simp [*, errW_none, errW_some] <;> rfl), by repeat (first | (with_reducible first | exact HB.out | apply below_alloc | apply pw_below_drewN | apply below_drew1) | exact HB.out)⟩
                · rw [if_neg c36] at H
                  have c36b0 : (x3_2 == 0) = false := beq_eq_false_iff_ne.mpr c36
                  have c36b1 : (x3_2 != 0) = true := bne_iff_ne.mpr c36
                  by_cases c37 : 0 ≤ 1
                  · rw [if_pos c37] at H
                    have c37b0 := eq_true c37
                    have c37b1 : decide (0 ≤ 1) = true := decide_eq_true c37
                    clear c37
                    by_cases c38 : 1 ≤ (a0.size : Int)
                    · rw [if_pos c38] at H
                      have c38b0 := eq_true c38
                      have c38b1 : decide (1 ≤ (a0.size : Int)) = true := decide_eq_true c38
                      clear c38
                      replace H := Option.bind_eq_some_iff.mp H
                      obtain ⟨t109, A390, H⟩ := H
                      replace H : (some (t109.toList != ([] : List UInt8))) = some r := H
                      have A39 := Aside0.mk A390
                      clear A390
                      obtain rfl := Option.some.inj H
                      go_wp2_with (first | (go_at_call 114; (with_reducible refine (strings_Trim.calls (a0.extract 0 1) (⟨#[46, 42, 91]⟩ : ByteArray) t109 _ A39.out).mono ?_); rintro e w40 ⟨rfl, hb⟩; have n0_ := Aside0.mk (Kd.R_below (by (with_reducible repeat (first | apply Kd.R_alloc | apply Kd.R_drewN | apply Kd.R_drew)); exact HO_22.out) hb); have n1_ := Aside0.mk (below_step (by repeat (first | (with_reducible first | exact HB.out | apply below_alloc | apply pw_below_drewN | apply below_drew1) | exact HB.out)) hb); clear HO_22; clear HB; have HO_22 := n0_; have HB := n1_; clear n0_ n1_; (try clear hb); (try clear hb2); (try clear hk); (try clear hi)))
                      go_ret
                      exact ⟨by first | rfl | (cases ht_ : t109.toList <;> simp [ht_]; done) | (cases ht_ : t109.toList <;> rfl) | (refine congrArg Ending.returned (congrArg Value.bool ?_); cases ht_ : t109.toList <;> simp_all; done) | (simp [errW_none, errW_some] <;> rfl) | (simp [*, errW_none, errW_some] <;> rfl), by repeat (first | (with_reducible first | exact HB.out | apply below_alloc | apply pw_below_drewN | apply below_drew1) | exact HB.out)⟩
                    · rw [if_neg c38] at H
                      exact absurd H (by simp)
                  · rw [if_neg c37] at H
                    exact absurd H (by simp)
end Go.Proofs.YtipmphgkdomebaaDoor.K
namespace Go.Proofs.YtipmphgkdomebaaDoor
open Go.RowKit
set_option linter.unusedVariables false
set_option linter.unusedSimpArgs false
def setAll (b : Nat) : World → Nat → List Value → World
  | W, _, [] => W
  | W, i, v :: vs => setAll b (W.setCell ⟨b, i, none⟩ v) (i + 1) vs
def over : Array Value → Nat → List Value → Array Value
  | cs, _, [] => cs
  | cs, i, v :: vs => over (cs.setIfInBounds i v) (i + 1) vs
theorem over_at : ∀ (vs : List Value) (cs : Array Value) (i j : Nat), i + vs.length ≤ cs.size → (over cs i vs)[j]? = if i ≤ j ∧ j < i + vs.length then vs[j - i]? else cs[j]?
  | [], cs, i, j, _ => by rw [over, if_neg (fun h => absurd h.2 (by have := h.1; rw [List.length_nil]; omega))]
  | v :: vs, cs, i, j, h => by
    have hl : (v :: vs).length = vs.length + 1 := rfl
    rw [over, over_at vs _ (i + 1) j (by rw [Array.size_setIfInBounds]; omega), hl]
    by_cases h1 : i + 1 ≤ j ∧ j < i + 1 + vs.length
    · rw [if_pos h1, if_pos (by omega), show j - i = (j - (i + 1)) + 1 by omega, List.getElem?_cons_succ]
    · rw [if_neg h1, Array.getElem?_setIfInBounds]
      by_cases h2 : i = j
      · subst h2
        rw [if_pos rfl, if_pos (by omega), if_pos (by omega), Nat.sub_self]
        rfl
      · rw [if_neg h2, if_neg (by omega)]
theorem over_all (vs : List Value) (cs : Array Value) (h : vs.length = cs.size) : over cs 0 vs = vs.toArray := by
  apply Array.ext_getElem?
  intro j
  rw [over_at vs cs 0 j (by omega)]
  by_cases hj : j < vs.length
  · rw [if_pos (by omega), Nat.sub_zero, List.getElem?_toArray]
  · rw [if_neg (by omega), Array.getElem?_eq_none (by omega), Array.getElem?_eq_none (by rw [List.size_toArray]; omega)]
theorem setAll_at {b : Nat} {T : TypeId} {fr : Nat × Nat} : ∀ (vs : List Value) (W : World) (cs : Array Value) (i : Nat), W.heap[b]? = some (.cells cs T fr) → (setAll b W i vs).heap[b]? = some (.cells (over cs i vs) T fr)
  | [], _, _, _, h => h
  | v :: vs, W, cs, i, h => setAll_at vs _ _ _ (heap_set h)
theorem setAll_far {b k : Nat} (h : k ≠ b) : ∀ (vs : List Value) (W : World) (i : Nat), (setAll b W i vs).heap[k]? = W.heap[k]?
  | [], _, _ => rfl
  | v :: vs, W, i => (setAll_far h vs _ _).trans (heap_far h)
theorem setAll_below {b : Nat} : ∀ (vs : List Value) (W : World) (i : Nat), Below b W (setAll b W i vs)
  | [], W, _ => Below.refl b W
  | v :: vs, W, i => ((Below.refl b W).setCell (p := ⟨b, i, none⟩) (Nat.le_refl b) v).trans (setAll_below vs _ _)
theorem Own.setAll {w W : World} {L : List (Nat × Obj)} (h : Own w L W) (i : Nat) {b : Nat} {cs : Array Value} {T : TypeId} {fr : Nat × Nat} (vs : List Value) (hi : L[i]? = some (b, .cells cs T fr)) (hl : vs.length = cs.size) :
    Own w (L.set i (b, .cells vs.toArray T fr)) (Go.Proofs.YtipmphgkdomebaaDoor.setAll b W 0 vs) :=
  h.put i hi ((setAll_at vs W cs 0 (h.at hi)).trans (by rw [over_all vs cs hl])) (fun k hk => setAll_far hk vs W 0) (setAll_below vs W 0)
end Go.Proofs.YtipmphgkdomebaaDoor
namespace Go.Proofs.YtipmphgkdomebaaDoor
open Go.RowKit Go.Proofs.YtipmphgkdomebaaDoorW.PrintWords
set_option linter.unusedVariables false
set_option linter.unusedSimpArgs false
abbrev Tabs (w : World) : Prop := Lib.Utf8Tabs 0 1 w
theorem Tabs_step {w W : World} (h : Tabs w) (b : Below w.heap.size w W) : Tabs W := Utf8Tabs_below h b
theorem valid_any (s : ByteArray) (w : World) (hs : s.size ≤ 9223372036854775807) (hT : Tabs w) :
    Calls Tryd.prog 35 #[.string s] w fun e w' => e = .returned (.bool (Lib.validD s.data.toList)) ∧ Below w.heap.size w w' := Any.utf8_ValidString Tryd.laysx196 s w hs hT
set_option maxRecDepth 100000 in
set_option maxHeartbeats 4000000 in
theorem cont_any (s c : ByteArray) (w : World) (hs : s.size < 4294967281) (hc : c.size < 1000) (has : ∀ (j : Nat) b, s.data.toList[j]? = some b → b.toNat < 128) (hac : ∀ (j : Nat) b, c.data.toList[j]? = some b → b.toNat < 128) :
    Calls Tryd.prog 73 #[.string s, .string c] w fun e w' => e = .returned (.bool (decide (0 ≤ Lib.indexAny s.data.toList c.data.toList))) ∧ Below w.heap.size w w' := by
  have cI := Tryd.strings_IndexAny_laid s c w hs (by omega) has hac
  generalize Lib.indexAny s.data.toList c.data.toList = r at *
  go_enter Tryd.func73, Tryd.ntmps73
  go_wp2_with (go_at_call 113; refine cI.mono ?_; rintro e W1 ⟨rfl, b1⟩)
  go_ret
  exact ⟨rfl, b1⟩
def msgE (s : ByteArray) : EN := ⟨1, 0, ⟨#[]⟩, ⟨#[109]⟩, 1, fun _ => s, fun _ => .no, 0, fun _ => ⟨#[]⟩, fun _ => 0, fun _ _ => ⟨#[]⟩, fun _ _ => .no, 0, 0⟩
set_option maxRecDepth 100000 in
set_option maxHeartbeats 4000000 in
theorem message_any (s : ByteArray) (w : World) : Calls Tryd.prog 33 #[.string s] w fun e w' => (∃ g, e = .returned (.agg #[.int .i64 1, .int .i64 0, .string ⟨#[]⟩, .string ⟨#[109]⟩, .slice (some ⟨g, 0, none⟩) 1 1, .slice none 0 0, .int .i64 0, .int .i64 0]) ∧ (msgE s).R w' (some ⟨g, 0, none⟩) 1 none 0) ∧ Below w.heap.size w w' := by
  have h0 := Own.one w (.cells #[.int .i64 0, .int .i64 0, .string ⟨#[]⟩, .string ⟨#[]⟩, .slice none 0 0, .slice none 0 0, .int .i64 0, .int .i64 0] 29)
  go_enter Tryd.func33, Tryd.ntmps33
  go_upto_region 1 with (fail)
  generalize w.alloc _ = W0 at *
  have h1 := h0.alloc (.cells #[.string s, .pointer none] 42)
  have r0 := h1.c 1 0 rfl rfl
  have f0 := h1.fz 1 0 rfl
  have r1 := h1.c 1 1 rfl rfl
  have f1 := h1.fz 1 1 rfl
  have r2 := h1.c 1 2 rfl rfl
  have f2 := h1.fz 1 2 rfl
  have r3 := h1.c 1 3 rfl rfl
  have f3 := h1.fz 1 3 rfl
  have r4 := h1.c 1 4 rfl rfl
  have f4 := h1.fz 1 4 rfl
  have r5 := h1.c 1 5 rfl rfl
  have f5 := h1.fz 1 5 rfl
  have r6 := h1.c 1 6 rfl rfl
  have f6 := h1.fz 1 6 rfl
  have r7 := h1.c 1 7 rfl rfl
  have f7 := h1.fz 1 7 rfl
  go_upto_region 2 with (fail)
  have h2 : Own w _ (((((((((W0.alloc (.cells #[.string s, .pointer none] 42)).setCell ⟨w.heap.size, 0, none⟩ (.int .i64 1)).setCell ⟨w.heap.size, 1, none⟩ (.int .i64 0)).setCell ⟨w.heap.size, 2, none⟩ (.string ⟨#[]⟩)).setCell ⟨w.heap.size, 3, none⟩ (.string ⟨#[109]⟩)).setCell ⟨w.heap.size, 4, none⟩ (.slice (some ⟨W0.heap.size, 0, none⟩) 1 1)).setCell ⟨w.heap.size, 5, none⟩ (.slice none 0 0)).setCell ⟨w.heap.size, 6, none⟩ (.int .i64 0)).setCell ⟨w.heap.size, 7, none⟩ (.int .i64 0)) := Own.setAll h1 1 [.int .i64 1, .int .i64 0, .string ⟨#[]⟩, .string ⟨#[109]⟩, .slice (some ⟨W0.heap.size, 0, none⟩) 1 1, .slice none 0 0, .int .i64 0, .int .i64 0] rfl rfl
  clear h0 h1 r0 f0 r1 f1 r2 f2 r3 f3 r4 f4 r5 f5 r6 f6 r7 f7
  generalize (((((((((W0.alloc (.cells #[.string s, .pointer none] 42)).setCell ⟨w.heap.size, 0, none⟩ (.int .i64 1)).setCell ⟨w.heap.size, 1, none⟩ (.int .i64 0)).setCell ⟨w.heap.size, 2, none⟩ (.string ⟨#[]⟩)).setCell ⟨w.heap.size, 3, none⟩ (.string ⟨#[109]⟩)).setCell ⟨w.heap.size, 4, none⟩ (.slice (some ⟨W0.heap.size, 0, none⟩) 1 1)).setCell ⟨w.heap.size, 5, none⟩ (.slice none 0 0)).setCell ⟨w.heap.size, 6, none⟩ (.int .i64 0)).setCell ⟨w.heap.size, 7, none⟩ (.int .i64 0)) = W1 at *
  have q0 := h2.c 1 0 rfl rfl
  have q1 := h2.c 1 1 rfl rfl
  have q2 := h2.c 1 2 rfl rfl
  have q3 := h2.c 1 3 rfl rfl
  have q4 := h2.c 1 4 rfl rfl
  have q5 := h2.c 1 5 rfl rfl
  have q6 := h2.c 1 6 rfl rfl
  have q7 := h2.c 1 7 rfl rfl
  have y0 := h2.c 0 0 rfl rfl
  have y1 := h2.c 0 1 rfl rfl
  have bel := h2.bel
  refine bodyPost_ret (v := .agg #[.int .i64 1, .int .i64 0, .string ⟨#[]⟩, .string ⟨#[109]⟩, .slice (some ⟨W0.heap.size, 0, none⟩) 1 1, .slice none 0 0, .int .i64 0, .int .i64 0]) (by simp [results, Tryd.results33, go_sem, q0, q1, q2, q3, q4, q5, q6, q7]) rfl ?_
  refine ⟨⟨W0.heap.size, rfl, Nat.le_refl _, Nat.le_refl _, ?_, ?_⟩, bel⟩
  · intro e he
    obtain rfl : e = 0 := Nat.lt_one_iff.1 he
    exact ⟨W0.heap.size, 0, none, rfl, y0, y1, .inl ⟨rfl, rfl⟩⟩
  · intro v hv
    exact absurd hv (Nat.not_lt_zero _)
theorem msgE_fin (s : ByteArray) (hz : s.size ≤ 281474976710656) : (msgE s).Fin :=
  ⟨Nat.zero_le _, (by show 1 ≤ 281474976710656; decide), (by show 1 ≤ 281474976710656; decide), Nat.zero_le _, fun i _ => ⟨hz, trivial⟩, fun i hi => absurd hi (Nat.not_lt_zero _)⟩
def msgB (s : ByteArray) (va an lv : Bool) : Bool := msgOk (msgE s) (allTo (okE (fun _ => s) (fun _ => .no) (fun _ => va) (fun _ => an) (fun _ => false)) 1 && (decide (1 = 0) || lv)) (fun _ => false)
theorem cat_one (s : ByteArray) : catP (fun _ => s) (fun _ => .no) 1 = s.data.toList := by
  unfold catP catP
  rw [List.nil_append]
  rfl
theorem msg_right (s : ByteArray) (g : Nat) (w : World) (hT : Tabs w) (hM : G.Tab_ w) (hR : (msgE s).R w (some ⟨g, 0, none⟩) 1 none 0) (hz : s.size ≤ 1000) (has : ∀ (j : Nat) b, s.data.toList[j]? = some b → b.toNat < 128) (k : Nat) (lv : Bool) (hl : K.ast_lines.f k s = some lv) (r : Bool)
    (hr : msgB s (Lib.validD s.data.toList) (decide (0 ≤ Lib.indexAny s.data.toList [123, 125, 13])) lv = r) :
    Calls Tryd.prog 18 #[.agg #[.int .i64 1, .int .i64 0, .string ⟨#[]⟩, .string ⟨#[109]⟩, .slice (some ⟨g, 0, none⟩) 1 1, .slice none 0 0, .int .i64 0, .int .i64 0]] w fun e w' => e = .returned (.bool r) ∧ Below w.heap.size w w' := by
  rw [← hr]
  have hz2 := Lib.size_eq s
  refine right_msg (msgE s) (some ⟨g, 0, none⟩) none 1 0 _ (fun _ => false) w (msgE_fin s (by omega)) hR (.inl rfl) ?_ (fun i hi => absurd hi (Nat.not_lt_zero _))
  intro W hW
  refine pattern_any (some ⟨g, 0, none⟩) 1 1 (fun _ => s) (fun _ => .no) 0 (fun _ => Lib.validD s.data.toList) (fun _ => decide (0 ≤ Lib.indexAny s.data.toList [123, 125, 13])) (fun _ => false) lv W (by decide) (hR.val.keep (Kept.of hW)) (by rw [cat_one]; omega) ⟨by decide, by decide⟩ ?_ ?_ ?_ ?_
  · intro i hi W2 hW2
    exact valid_any s W2 (by omega) (Tabs_step (Tabs_step hT hW) hW2)
  · intro i hi W2 hW2
    exact cont_any s ⟨#[123, 125, 13]⟩ W2 (by omega) (by decide) has (G.ascii_at (by kernel_rfl))
  · intro i hi r hr2
    exact hr2.elim
  · intro h0 W2 hW2
    have e : (⟨(catP (fun _ => s) (fun _ => .no) 1).toArray⟩ : ByteArray) = s := by
      rw [cat_one]
    rw [e]
    exact K.ast_lines.calls k s lv W2 hl ((hM.step hW).step hW2)
theorem asc_list {s : ByteArray} (h : G.asciiB s = true) : ∀ (j : Nat) b, s.data.toList[j]? = some b → b.toNat < 128 := G.ascii_at h
set_option maxRecDepth 100000 in
set_option maxHeartbeats 4000000 in
theorem head7_any (w : World) (hT : Tabs w) (hM : G.Tab_ w) : Calls Tryd.prog 16 #[] w fun e w' => e = .returned (.bool true) ∧ Below w.heap.size w w' := by
  have cM1 := message_any ⟨#[46, 97, 10, 98]⟩
  have cM2 := message_any ⟨#[97, 10, 32, 98]⟩
  have cM3 := message_any ⟨#[46, 97, 10, 32, 98]⟩
  have cMx := message_any ⟨#[120]⟩
  have cMy := message_any ⟨#[121]⟩
  have cR1 := fun g W (hW : Below w.heap.size w W) hR => msg_right ⟨#[46, 97, 10, 98]⟩ g W (Tabs_step hT hW) (hM.step hW) hR (by decide) (asc_list (by kernel_rfl)) 20 true (by kernel_rfl) true (by kernel_rfl)
  have cR2 := fun g W (hW : Below w.heap.size w W) hR => msg_right ⟨#[97, 10, 32, 98]⟩ g W (Tabs_step hT hW) (hM.step hW) hR (by decide) (asc_list (by kernel_rfl)) 20 true (by kernel_rfl) true (by kernel_rfl)
  have cR3 := fun g W (hW : Below w.heap.size w W) hR => msg_right ⟨#[46, 97, 10, 32, 98]⟩ g W (Tabs_step hT hW) (hM.step hW) hR (by decide) (asc_list (by kernel_rfl)) 20 false (by kernel_rfl) false (by kernel_rfl)
  have e1 : (msgE ⟨#[120]⟩).same (msgE ⟨#[120]⟩) = true := by kernel_rfl
  have e2 : (msgE ⟨#[120]⟩).same (msgE ⟨#[121]⟩) = false := by kernel_rfl
  have cE1 : ∀ (g1 g2 : Nat) (W : World), (msgE ⟨#[120]⟩).R W (some ⟨g1, 0, none⟩) 1 none 0 → (msgE ⟨#[120]⟩).R W (some ⟨g2, 0, none⟩) 1 none 0 → Calls Tryd.prog 20 #[.agg #[.int .i64 1, .int .i64 0, .string ⟨#[]⟩, .string ⟨#[109]⟩, .slice (some ⟨g1, 0, none⟩) 1 1, .slice none 0 0, .int .i64 0, .int .i64 0], .agg #[.int .i64 1, .int .i64 0, .string ⟨#[]⟩, .string ⟨#[109]⟩, .slice (some ⟨g2, 0, none⟩) 1 1, .slice none 0 0, .int .i64 0, .int .i64 0]] W fun e w' => e = .returned (.bool true) ∧ Below W.heap.size W w' := fun g1 g2 W hR1 hR2 => by
    have h := entry_same (msgE ⟨#[120]⟩) (msgE ⟨#[120]⟩) (some ⟨g1, 0, none⟩) (some ⟨g2, 0, none⟩) none none 1 1 0 0 W (msgE_fin _ (by decide)) (msgE_fin _ (by decide)) hR1 hR2
    rw [e1] at h
    exact h
  have cE2 : ∀ (g1 g2 : Nat) (W : World), (msgE ⟨#[120]⟩).R W (some ⟨g1, 0, none⟩) 1 none 0 → (msgE ⟨#[121]⟩).R W (some ⟨g2, 0, none⟩) 1 none 0 → Calls Tryd.prog 20 #[.agg #[.int .i64 1, .int .i64 0, .string ⟨#[]⟩, .string ⟨#[109]⟩, .slice (some ⟨g1, 0, none⟩) 1 1, .slice none 0 0, .int .i64 0, .int .i64 0], .agg #[.int .i64 1, .int .i64 0, .string ⟨#[]⟩, .string ⟨#[109]⟩, .slice (some ⟨g2, 0, none⟩) 1 1, .slice none 0 0, .int .i64 0, .int .i64 0]] W fun e w' => e = .returned (.bool false) ∧ Below W.heap.size W w' := fun g1 g2 W hR1 hR2 => by
    have h := entry_same (msgE ⟨#[120]⟩) (msgE ⟨#[121]⟩) (some ⟨g1, 0, none⟩) (some ⟨g2, 0, none⟩) none none 1 1 0 0 W (msgE_fin _ (by decide)) (msgE_fin _ (by decide)) hR1 hR2
    rw [e2] at h
    exact h
  clear e1 e2
  go_enter Tryd.func16, Tryd.ntmps16
  go_wp2_with (first
    | (go_at_call 33; have need_ := t9; clear need_; (with_reducible refine (cMx _).mono ?_); rintro e W10 ⟨⟨g6, rfl, R6⟩, b10⟩; have t10 := below_on t9 b10 t9.size)
    | (go_at_call 33; have need_ := R4; clear need_; (with_reducible refine (cMx _).mono ?_); rintro e W8 ⟨⟨g5, rfl, R5⟩, b8⟩; have t8 := below_on t7 b8 t7.size)
    | (go_at_call 33; have need_ := t6; clear need_; (with_reducible refine (cMx _).mono ?_); rintro e W7 ⟨⟨g4, rfl, R4⟩, b7⟩; have t7 := below_on t6 b7 t6.size)
    | (go_at_call 33; (with_reducible refine (cM1 _).mono ?_); rintro e W1 ⟨⟨g1, rfl, R1⟩, b1⟩)
    | (go_at_call 18; (with_reducible refine (cR1 _ _ b1 R1).mono ?_); rintro e W2 ⟨rfl, b2⟩; have t2 := below_on b1 b2 b1.size)
    | (go_at_call 33; (with_reducible refine (cM2 _).mono ?_); rintro e W3 ⟨⟨g2, rfl, R2⟩, b3⟩; have t3 := below_on t2 b3 t2.size)
    | (go_at_call 18; (with_reducible refine (cR2 _ _ t3 R2).mono ?_); rintro e W4 ⟨rfl, b4⟩; have t4 := below_on t3 b4 t3.size)
    | (go_at_call 33; (with_reducible refine (cM3 _).mono ?_); rintro e W5 ⟨⟨g3, rfl, R3⟩, b5⟩; have t5 := below_on t4 b5 t4.size)
    | (go_at_call 18; (with_reducible refine (cR3 _ _ t5 R3).mono ?_); rintro e W6 ⟨rfl, b6⟩; have t6 := below_on t5 b6 t5.size)
    | (go_at_call 20; (with_reducible refine (cE1 _ _ _ (R4.keep (Kept.of b8)) R5).mono ?_); rintro e W9 ⟨rfl, b9⟩; have t9 := below_on t8 b9 t8.size)
    | (go_at_call 33; (with_reducible refine (cMy _).mono ?_); rintro e W11 ⟨⟨g7, rfl, R7⟩, b11⟩; have t11 := below_on t10 b11 t10.size)
    | (go_at_call 20; (with_reducible refine (cE2 _ _ _ (R6.keep (Kept.of b11)) R7).mono ?_); rintro e W12 ⟨rfl, b12⟩; have t12 := below_on t11 b12 t11.size))
  go_ret
  exact ⟨rfl, t12⟩
end Go.Proofs.YtipmphgkdomebaaDoor
namespace Go.Proofs.YtipmphgkdomebaaDoor
open Go.RowKit Go.Proofs.YtipmphgkdomebaaDoorW.PrintWords Go.Proofs.YtipmphgkdomebaaDoorW.PrintLast
set_option linter.unusedVariables false
set_option linter.unusedSimpArgs false
set_option maxRecDepth 100000 in
set_option maxHeartbeats 1000000 in
theorem sames_walk (x y : EN) (A1 B1 A2 B2 : Option Addr) (ca1 cb1 ca2 cb2 : Nat) (u v : Int) (w : World) (fx : x.Fin) (fy : y.Fin) (hx : x.R w A1 ca1 B1 cb1) (hy : y.R w A2 ca2 B2 cb2) (hT : Tabs w) (hM : G.Tab_ w) :
    Calls Tryd.prog 5 #[.agg #[.int .i64 x.ty, .int .i64 x.lv, .string x.text, .string x.name, .slice A1 x.nv ca1, .slice B1 x.na cb1, .int .i64 x.fr, .int .i64 x.ti], .agg #[.int .i64 y.ty, .int .i64 y.lv, .string y.text, .string y.name, .slice A2 y.nv ca2, .slice B2 y.na cb2, .int .i64 y.fr, .int .i64 y.ti], .int .i64 u, .int .i64 v] w fun e w' => e = .returned (.bool true) ∧ Below w.heap.size w w' := by
  have h0 := Own.two w (.cells #[.int .i64 x.ty, .int .i64 x.lv, .string x.text, .string x.name, .slice A1 x.nv ca1, .slice B1 x.na cb1, .int .i64 x.fr, .int .i64 x.ti] 29) (.cells #[.int .i64 y.ty, .int .i64 y.lv, .string y.text, .string y.name, .slice A2 y.nv ca2, .slice B2 y.na cb2, .int .i64 y.fr, .int .i64 y.ti] 29)
  have cH := head7_any _ (Tabs_step hT h0.bel) (hM.step h0.bel)
  have cX := fun W (hW : Below w.heap.size w W) => small_any x A1 B1 ca1 cb1 W fx (hx.keep (Kept.of hW))
  have cY := fun W (hW : Below w.heap.size w W) => small_any y A2 B2 ca2 cb2 W fy (hy.keep (Kept.of hW))
  have cS := fun W (hW : Below w.heap.size w W) => entry_same x y A1 A2 B1 B2 ca1 ca2 cb1 cb2 W fx fy (hx.keep (Kept.of hW)) (hy.keep (Kept.of hW))
  have cL := fun W (hW : Below w.heap.size w W) => law_same x y A1 A2 B1 B2 ca1 ca2 cb1 cb2 W fx fy (hx.keep (Kept.of hW)) (hy.keep (Kept.of hW))
  have cT := fun W (hW : Below w.heap.size w W) => entry_same y x A2 A1 B2 B1 ca2 ca1 cb2 cb1 W fy fx (hy.keep (Kept.of hW)) (hx.keep (Kept.of hW))
  have cR : ∀ W, Below w.heap.size w W → Calls Tryd.prog 20 #[.agg #[.int .i64 x.ty, .int .i64 x.lv, .string x.text, .string x.name, .slice A1 x.nv ca1, .slice B1 x.na cb1, .int .i64 x.fr, .int .i64 x.ti], .agg #[.int .i64 x.ty, .int .i64 x.lv, .string x.text, .string x.name, .slice A1 x.nv ca1, .slice B1 x.na cb1, .int .i64 u, .int .i64 v]] W fun e w' => e = .returned (.bool true) ∧ Below W.heap.size W w' := fun W hW => by
    have h := entry_same x { x with fr := u, ti := v } A1 A1 B1 B1 ca1 ca1 cb1 cb1 W fx ⟨fx.tx, fx.nm, fx.nv, fx.na, fx.vs, fx.ats⟩ (hx.keep (Kept.of hW)) ⟨hx.lv, hx.la, hx.val.keep (Kept.of hW), hx.att.keep (Kept.of hW)⟩
    rw [ent_self] at h
    exact h
  rw [ent_comm y x] at cT
  generalize x.same y = s at *
  have hE := fun g => as5 w g x.ty y.ty x.lv y.lv x.fr y.fr u x.ti y.ti v x.text y.text x.name y.name A1 A2 B1 B2 x.nv y.nv x.na y.na ca1 ca2 cb1 cb2 s cS cL cT cR
  clear cS cL cT cR fx fy hx hy
  go_enter Tryd.func5, Tryd.ntmps5
  go_upto_region 1 with (fail)
  generalize World.alloc (World.alloc w _) _ = W0 at *
  go_upto_region 3 with (go_at_call 16; refine cH.mono ?_; rintro e W1 ⟨rfl, b1⟩; have h1 := h0.step b1)
  have a0 := h1.c 1 0 rfl rfl
  have b0_ := h1.c 0 0 rfl rfl
  have a1 := h1.c 1 1 rfl rfl
  have b1_ := h1.c 0 1 rfl rfl
  have a2 := h1.c 1 2 rfl rfl
  have b2_ := h1.c 0 2 rfl rfl
  have a3 := h1.c 1 3 rfl rfl
  have b3_ := h1.c 0 3 rfl rfl
  have a4 := h1.c 1 4 rfl rfl
  have b4_ := h1.c 0 4 rfl rfl
  have a5 := h1.c 1 5 rfl rfl
  have b5_ := h1.c 0 5 rfl rfl
  have a6 := h1.c 1 6 rfl rfl
  have b6_ := h1.c 0 6 rfl rfl
  have a7 := h1.c 1 7 rfl rfl
  have b7_ := h1.c 0 7 rfl rfl
  go_upto_region 5 with (first
    | (go_at_call 17; (with_reducible refine (cX _ h1.bel).mono ?_); rintro e W2 ⟨⟨p, rfl⟩, b2⟩; have h2 := h1.step b2; have d0 := h2.c 0 0 rfl rfl; have d1 := h2.c 0 1 rfl rfl; have d2 := h2.c 0 2 rfl rfl; have d3 := h2.c 0 3 rfl rfl; have d4 := h2.c 0 4 rfl rfl; have d5 := h2.c 0 5 rfl rfl; have d6 := h2.c 0 6 rfl rfl; have d7 := h2.c 0 7 rfl rfl)
    | (go_at_call 17; (with_reducible refine (cY _ h2.bel).mono ?_); rintro e W3 ⟨⟨q, rfl⟩, b3⟩; have h3 := h2.step b3))
  all_goals first | (go_ret; exact ⟨rfl, h3.bel⟩) | (go_ret; exact ⟨rfl, h2.bel⟩) | skip
  have z0 := h3.c 1 0 rfl rfl
  have z1 := h3.c 1 1 rfl rfl
  have z2 := h3.c 1 2 rfl rfl
  have z3 := h3.c 1 3 rfl rfl
  have z4 := h3.c 1 4 rfl rfl
  have z5 := h3.c 1 5 rfl rfl
  have z6 := h3.c 1 6 rfl rfl
  have z7 := h3.c 1 7 rfl rfl
  go_upto_region 6 with (fail)
  have h4 := h3.alloc (.cells #[.int .i64 x.ty, .int .i64 x.lv, .string x.text, .string x.name, .slice A1 x.nv ca1, .slice B1 x.na cb1, .int .i64 x.fr, .int .i64 x.ti] 29)
  clear h3 h2 h1 h0 b1 b2 b3 cH cX cY a0 b0_ a1 b1_ a2 b2_ a3 b3_ a4 b4_ a5 b5_ a6 b6_ a7 b7_ z0 z1 z2 z3 z4 z5 z6 z7
  generalize W3.alloc _ = W4 at *
  generalize W3.heap.size = g at *
  have f6 := h4.fz 0 6 rfl
  have f7 := h4.fz 0 7 rfl
  have e6 := h4.c 0 6 rfl rfl
  have e7 := h4.c 0 7 rfl rfl
  go_upto_region 8 with (fail)
  have h5 := (h4.set 0 6 (.int .i64 u) rfl).set 0 7 (.int .i64 v) rfl
  have h6 : SamI w g #[.int .i64 x.ty, .int .i64 x.lv, .string x.text, .string x.name, .slice A1 x.nv ca1, .slice B1 x.na cb1, .int .i64 x.fr, .int .i64 x.ti] #[.int .i64 y.ty, .int .i64 y.lv, .string y.text, .string y.name, .slice A2 y.nv ca2, .slice B2 y.na cb2, .int .i64 y.fr, .int .i64 y.ti] #[.int .i64 x.ty, .int .i64 x.lv, .string x.text, .string x.name, .slice A1 x.nv ca1, .slice B1 x.na cb1, .int .i64 u, .int .i64 v] _ := h5
  clear h4 h5 f6 f7 e6 e7
  refine hE g _ rfl rfl rfl rfl _ (Own.drew h6) _ ?_
  intro a9 w9 h9 ha9 hd9 e8
  have bel := Own.bel h9
  clear ha9 hE h6 h9
  go_wp2
  exact bodyPost_ret (results_tmp rfl _ _ _) hd9 ⟨by rw [Array.getD_eq_getD_getElem?, e8]; rfl, bel⟩
end Go.Proofs.YtipmphgkdomebaaDoor
namespace Go.Proofs.YtipmphgkdomebaaDoor.E
open Go.Proofs.YtipmphgkdomebaaDoor Go.ChangeShapes Go.WideShapes Go.ChangeAt Go.RowKit Go.Deep
set_option linter.unusedVariables false
section
variable {H : Type} {enc : TypeId × Value → H} {P : Program} {w : World} {base : Nat} {spare : Nat → Bool} {held : Bool}
def Fits (P : Program) (t : TypeId) (d : DataW H) : Prop := ∀ n ∈ d.weights P t, n ≤ 281474976710656
theorem weightsAll_mem {e : TypeId} : ∀ {l : List (DataW H)} {d : DataW H}, d ∈ l → ∀ n ∈ d.weights P e, n ∈ DataW.weightsAll P e l
  | a :: r, d, h, n, hn => by
    rw [DataW.weightsAll]
    rcases List.mem_cons.1 h with rfl | h
    · exact List.mem_append_left _ hn
    · exact List.mem_append_right _ (weightsAll_mem h n hn)
theorem plain_add {a : Addr} (k : Nat) (h : a.spot = none) : a.add k = ⟨a.block, a.off + k, none⟩ := by
  obtain ⟨b, o, sp⟩ := a
  have h2 : sp = none := h
  subst h2
  exact add_plain _ _ _
theorem slice_at {t e : TypeId} {fuel : Nat} {cs : List Value} {x : DataW H × List MemPlace} (sz : Nat) (ht : P.underlying t = some (.slice e)) (hc : P.cellsOf e = sz) (hs : 0 < sz) (hB : 0 < P.bytesOf e) (h : DataW.trod enc P w base spare held fuel t cs = some x) (hf : Fits P t x.1) :
    ∃ (A : Option Addr) (len cap n : Nat), cs = [.slice A len cap] ∧ len ≤ cap ∧ n < fuel ∧ len ≤ 281474976710656 ∧ ∀ i, i < len → ∃ b o cs' y, A = some ⟨b, o, none⟩ ∧ cs'.length = sz ∧ (∀ j u, cs'[j]? = some u → w.cell? ⟨b, o + i * sz + j, none⟩ = some u) ∧ DataW.trod enc P w base spare held n e cs' = some y ∧ Fits P e y.1 := by
  have hpos : 0 < fuel := by
    rcases Nat.eq_zero_or_pos fuel with h0 | h0
    · subst h0; simp [DataW.trod] at h
    · exact h0
  rcases DataW.trod_slice ht h with ⟨rfl, rfl⟩ | ⟨a, len, cap, elems, rest, n, rfl, rfl, rfl, hb, hl, hm, hlen, hel, hsp, hns⟩
  · exact ⟨none, 0, 0, 0, rfl, Nat.le_refl _, hpos, Nat.zero_le _, fun i hi => absurd hi (Nat.not_lt_zero _)⟩
  · have ew : ∀ es sp : List (DataW H), (DataW.slice es sp).weights P t = (es.length + sp.length) * P.bytesOf e :: (DataW.weightsAll P e es ++ DataW.weightsAll P e sp) := fun es sp => by simp [DataW.weights, ht]
    unfold Fits at hf
    rw [ew] at hf
    have h1 := hf _ (.head _)
    rw [List.length_map] at h1
    have hle : len ≤ 281474976710656 := by
      have h2 : len ≤ len * P.bytesOf e := Nat.le_mul_of_pos_right len hB
      have h3 : len * P.bytesOf e ≤ (elems.length + (rest.map (·.1)).length) * P.bytesOf e := Nat.mul_le_mul_right _ (by omega)
      omega
    refine ⟨some a, len, cap, n, rfl, hl, Nat.lt_succ_self n, hle, fun i hi => ?_⟩
    have hi2 : i < elems.length := by omega
    have he := hel i hi
    rw [List.getElem?_eq_getElem hi2] at he
    obtain ⟨cs', e1, e2⟩ := Option.bind_eq_some_iff.1 he
    rw [hc] at e1
    obtain ⟨_, g1, g2⟩ := World.cells?_some e1
    have hspot : a.spot = none := by
      have he0 := hel 0 (by omega)
      rw [List.getElem?_eq_getElem (by omega)] at he0
      obtain ⟨cs0, e3, _⟩ := Option.bind_eq_some_iff.1 he0
      rw [hc] at e3
      obtain ⟨_, g3, g4⟩ := World.cells?_some e3
      have h0 := g4 0 (by omega)
      rw [List.getElem?_eq_getElem (by omega)] at h0
      have := World.cell?_spot h0
      simpa [Addr.add] using this
    refine ⟨a.block, a.off, cs', elems[i], by obtain ⟨b, o, sp⟩ := a; exact congrArg some (by rw [show sp = none from hspot]), g1, fun j u hu => ?_, e2, fun q hq => hf q (.tail _ (List.mem_append_left _ (weightsAll_mem (List.mem_map_of_mem (List.getElem_mem hi2)) q hq)))⟩
    have hj := (List.getElem?_eq_some_iff.1 hu).1
    have h2 := g2 j (by omega)
    rw [plain_add _ hspot, plain_add _ rfl] at h2
    rw [h2, hu]
theorem ptr_at {t e : TypeId} {fuel : Nat} {cs : List Value} {x : DataW H × List MemPlace} (sz : Nat) (ht : P.underlying t = some (.pointer e)) (hc : P.cellsOf e = sz) (hs : 0 < sz) (h : DataW.trod enc P w base spare held fuel t cs = some x) (hf : Fits P t x.1) :
    cs = [.pointer none] ∨ ∃ b o cs' y n, n < fuel ∧ cs = [.pointer (some ⟨b, o, none⟩)] ∧ cs'.length = sz ∧ (∀ j u, cs'[j]? = some u → w.cell? ⟨b, o + j, none⟩ = some u) ∧ DataW.trod enc P w base spare held n e cs' = some y ∧ Fits P e y.1 := by
  rcases DataW.trod_pointer ht h with ⟨rfl, rfl⟩ | ⟨a, cs', y, n, rfl, rfl, rfl, h1, h2⟩
  · exact .inl rfl
  · rw [hc] at h1
    obtain ⟨_, g1, g2⟩ := World.cells?_some h1
    have hspot : a.spot = none := by
      have h0 := g2 0 (by omega)
      rw [List.getElem?_eq_getElem (by omega)] at h0
      have := World.cell?_spot h0
      simpa [Addr.add] using this
    refine .inr ⟨a.block, a.off, cs', y, n, Nat.lt_succ_self n, by obtain ⟨b, o, sp⟩ := a; rw [show sp = none from hspot], g1, fun j u hu => ?_, h2, fun q hq => hf q ?_⟩
    · have hj := (List.getElem?_eq_some_iff.1 hu).1
      have h3 := g2 j (by omega)
      rw [plain_add _ hspot] at h3
      rw [h3, hu]
    · have ew : ∀ d : DataW H, (DataW.ptr d).weights P t = d.weights P e := fun d => by simp [DataW.weights, ht]
      rw [ew]
      exact hq
theorem struct_at {t : TypeId} {fs : Array Field} {fuel : Nat} {cs : List Value} {x : DataW H × List MemPlace} (ht : P.underlying t = some (.struct fs)) (h : DataW.trod enc P w base spare held fuel t cs = some x) (hq : Fits P t x.1) :
    cs.length = P.cellsOf t ∧ ∃ n, n < fuel ∧ ∀ (i : Nat) (f : Field), fs[i]? = some f → ∃ y, DataW.trod enc P w base spare held n f.type ((cs.drop f.offset).take (P.cellsOf f.type)) = some y ∧ Fits P f.type y.1 := by
  obtain ⟨xs, n, rfl, rfl, hl, hlen, hf⟩ := DataW.trod_struct ht h
  refine ⟨hl, n, Nat.lt_succ_self n, fun i f hi => ?_⟩
  have hlt : i < fs.size := (Array.getElem?_eq_some_iff.1 hi).1
  have := hf i f hi
  rw [List.getElem?_eq_getElem (by omega)] at this
  have ew : ∀ ps : List (DataW H), (DataW.agg ps).weights P t = DataW.weightsEach P (fs.toList.map (·.type)) ps := fun ps => by simp [DataW.weights, ht]
  unfold Fits at hq
  rw [ew] at hq
  refine ⟨_, this, fun q hq' => hq q (DataW.weights_mem_each (j := i) (t := f.type) (d := (xs[i]'(by omega)).1) ?_ ?_ q hq')⟩
  · rw [List.getElem?_map, Array.getElem?_toList, hi]
    rfl
  · rw [List.getElem?_map, List.getElem?_eq_getElem (by omega)]
    rfl
end
end Go.Proofs.YtipmphgkdomebaaDoor.E
namespace Go.Proofs.YtipmphgkdomebaaDoor.E
open Go.Proofs.YtipmphgkdomebaaDoor Go.ChangeShapes Go.WideShapes Go.ChangeAt Go.RowKit Go.Deep
set_option linter.unusedVariables false
instance : Inhabited EX := ⟨.no⟩
theorem c_str : Tryd.prog.cellsOf 9 = 1 := by kernel_rfl
theorem c_bool : Tryd.prog.cellsOf 4 = 1 := by kernel_rfl
theorem c_int : Tryd.prog.cellsOf 3 = 1 := by kernel_rfl
theorem c_kind : Tryd.prog.cellsOf 35 = 1 := by kernel_rfl
theorem c_type : Tryd.prog.cellsOf 25 = 1 := by kernel_rfl
theorem c_expr : Tryd.prog.cellsOf 40 = 7 := by kernel_rfl
theorem c_ptr : Tryd.prog.cellsOf 37 = 1 := by kernel_rfl
theorem c_elems : Tryd.prog.cellsOf 26 = 1 := by kernel_rfl
theorem c_args : Tryd.prog.cellsOf 36 = 1 := by kernel_rfl
theorem c_vars : Tryd.prog.cellsOf 38 = 1 := by kernel_rfl
theorem c_attrs : Tryd.prog.cellsOf 27 = 1 := by kernel_rfl
theorem c_elem : Tryd.prog.cellsOf 42 = 2 := by kernel_rfl
theorem c_arg : Tryd.prog.cellsOf 77 = 8 := by kernel_rfl
theorem c_var : Tryd.prog.cellsOf 136 = 3 := by kernel_rfl
theorem c_attr : Tryd.prog.cellsOf 44 = 2 := by kernel_rfl
theorem c_entry : Tryd.prog.cellsOf 29 = 8 := by kernel_rfl
theorem b_elem : 0 < Tryd.prog.bytesOf 42 := by decide +kernel
theorem b_arg : 0 < Tryd.prog.bytesOf 77 := by decide +kernel
theorem b_var : 0 < Tryd.prog.bytesOf 136 := by decide +kernel
theorem b_attr : 0 < Tryd.prog.bytesOf 44 := by decide +kernel
theorem lst2 {α : Type} {l : List α} (h : l.length = 2) : ∃ c0 c1, l = [c0, c1] := by
  match l, h with
  | [c0, c1], _ => exact ⟨c0, c1, rfl⟩
theorem lst3 {α : Type} {l : List α} (h : l.length = 3) : ∃ c0 c1 c2, l = [c0, c1, c2] := by
  match l, h with
  | [c0, c1, c2], _ => exact ⟨c0, c1, c2, rfl⟩
theorem lst7 {α : Type} {l : List α} (h : l.length = 7) : ∃ c0 c1 c2 c3 c4 c5 c6, l = [c0, c1, c2, c3, c4, c5, c6] := by
  match l, h with
  | [c0, c1, c2, c3, c4, c5, c6], _ => exact ⟨c0, c1, c2, c3, c4, c5, c6, rfl⟩
theorem lst8 {α : Type} {l : List α} (h : l.length = 8) : ∃ c0 c1 c2 c3 c4 c5 c6 c7, l = [c0, c1, c2, c3, c4, c5, c6, c7] := by
  match l, h with
  | [c0, c1, c2, c3, c4, c5, c6, c7], _ => exact ⟨c0, c1, c2, c3, c4, c5, c6, c7, rfl⟩
section
variable {H : Type} {enc : TypeId × Value → H} {w : World} {base : Nat} {spare : Nat → Bool} {held : Bool}
theorem str_fits {n : Nat} {cs : List Value} {y : DataW H × List MemPlace} (h : DataW.trod enc Tryd.prog w base spare held n 9 cs = some y) (hf : Fits Tryd.prog 9 y.1) : ∃ s : ByteArray, cs = [.string s] ∧ s.size ≤ 281474976710656 := by
  obtain ⟨s, e, rfl, hs⟩ := DataW.trod_string Tryd.underlying9 h
  exact ⟨s, e, hf s.data.toList.length (by simp [DataW.weights])⟩
variable (enc w base spare held) in
def ExOk (N : Nat) : Prop := ∀ m, m < N → ∀ cs y, DataW.trod enc Tryd.prog w base spare held m 40 cs = some y → Fits Tryd.prog 40 y.1 → ∃ (T : EX) (q : Tri), cs = (T.vals q).toList ∧ T.isNo = false ∧ T.Fin ∧ T.R w q
set_option maxRecDepth 100000 in
theorem exat_of {b o : Nat} {T : EX} {q : Tri} {cs : List Value} (hcs : cs = (T.vals q).toList) (h : ∀ j u, cs[j]? = some u → w.cell? ⟨b, o + j, none⟩ = some u) : ExAt w ⟨b, o, none⟩ T q := by
  subst hcs
  exact ⟨h 0 _ rfl, h 1 _ rfl, h 2 _ rfl, h 3 _ rfl, h 4 _ rfl, h 5 _ rfl, h 6 _ rfl⟩
set_option maxRecDepth 100000 in
theorem ptr_open {N m : Nat} (hN : ExOk enc w base spare held N) (hm : m ≤ N) {cs : List Value} {y : DataW H × List MemPlace} (h : DataW.trod enc Tryd.prog w base spare held m 37 cs = some y) (hf : Fits Tryd.prog 37 y.1) : ∃ (T : EX) (p : Option Addr), cs = [.pointer p] ∧ T.Ptr w p ∧ T.Fin := by
  rcases ptr_at 7 Tryd.underlying37 c_expr (by decide) h hf with rfl | ⟨b, o, cs', y2, n, hn, rfl, hl, hcell, h2, hf2⟩
  · exact ⟨.no, none, rfl, .inl ⟨rfl, rfl⟩, trivial⟩
  · obtain ⟨T, q, hcs, hno, hfin, hR⟩ := hN n (by omega) cs' y2 h2 hf2
    exact ⟨T, some ⟨b, o, none⟩, rfl, .inr ⟨b, o, q, rfl, exat_of hcs hcell, hR⟩, hfin⟩
set_option maxRecDepth 100000 in
theorem elems_open {N m : Nat} (hN : ExOk enc w base spare held N) (hm : m ≤ N) {cs : List Value} {y : DataW H × List MemPlace} (h : DataW.trod enc Tryd.prog w base spare held m 26 cs = some y) (hf : Fits Tryd.prog 26 y.1) :
    ∃ (A : Option Addr) (n c : Nat) (t : Nat → ByteArray) (x : Nat → EX), cs = [.slice A n c] ∧ n ≤ c ∧ n ≤ 281474976710656 ∧ Elems w A n t x ∧ ∀ e, e < n → (t e).size ≤ 281474976710656 ∧ (x e).Fin := by
  obtain ⟨A, len, cap, n, rfl, hl, hn, hle, hel⟩ := slice_at 2 Tryd.underlying26 c_elem (by decide) b_elem h hf
  obtain ⟨f, hfn⟩ := choose_lt (α := ByteArray × EX) (n := len) (p := fun i x => (∃ b o p, A = some ⟨b, o, none⟩ ∧ w.cell? ⟨b, o + i * 2, none⟩ = some (.string x.1) ∧ w.cell? ⟨b, o + i * 2 + 1, none⟩ = some (.pointer p) ∧ x.2.Ptr w p) ∧ x.1.size ≤ 281474976710656 ∧ x.2.Fin) (fun i hi => by
    obtain ⟨b, o, cs', y2, rfl, hl2, hcell, h2, hf2⟩ := hel i hi
    obtain ⟨hl3, m2, hm2, hfz⟩ := struct_at Tryd.underlying42 h2 hf2
    obtain ⟨c0, c1, rfl⟩ := lst2 hl2
    obtain ⟨z0, hz0, fz0⟩ := hfz 0 _ rfl
    change DataW.trod enc Tryd.prog w base spare held m2 9 (([c0, c1].drop 0).take (Tryd.prog.cellsOf 9)) = some z0 at hz0
    rw [c_str] at hz0
    obtain ⟨z1, hz1, fz1⟩ := hfz 1 _ rfl
    change DataW.trod enc Tryd.prog w base spare held m2 37 (([c0, c1].drop 1).take (Tryd.prog.cellsOf 37)) = some z1 at hz1
    rw [c_ptr] at hz1
    obtain ⟨s, e0, hs⟩ := str_fits hz0 fz0
    obtain ⟨T, p, e1, hp, hT⟩ := ptr_open hN (by omega) hz1 fz1
    simp at e0 e1
    subst e0 e1
    exact ⟨(s, T), ⟨b, o, p, rfl, hcell 0 _ rfl, hcell 1 _ rfl, hp⟩, hs, hT⟩)
  exact ⟨A, len, cap, fun i => (f i).1, fun i => (f i).2, rfl, hl, hle, fun e he => (hfn e he).1, fun e he => (hfn e he).2⟩
set_option maxRecDepth 100000 in
set_option maxHeartbeats 1000000 in
theorem expr_open : ∀ N, ExOk enc w base spare held N := by
  intro N
  induction N with
  | zero => intro m hm; exact absurd hm (Nat.not_lt_zero _)
  | succ N ih =>
    intro m hm cs y h hf
    obtain ⟨hl, n, hn, hfz⟩ := struct_at Tryd.underlying40 h hf
    rw [c_expr] at hl
    obtain ⟨c0, c1, c2, c3, c4, c5, c6, rfl⟩ := lst7 hl
    obtain ⟨z0, hz0, fz0⟩ := hfz 0 _ rfl
    change DataW.trod enc Tryd.prog w base spare held n 35 (([c0, c1, c2, c3, c4, c5, c6].drop 0).take (Tryd.prog.cellsOf 35)) = some z0 at hz0
    rw [c_kind] at hz0
    obtain ⟨z1, hz1, fz1⟩ := hfz 1 _ rfl
    change DataW.trod enc Tryd.prog w base spare held n 9 (([c0, c1, c2, c3, c4, c5, c6].drop 1).take (Tryd.prog.cellsOf 9)) = some z1 at hz1
    rw [c_str] at hz1
    obtain ⟨z2, hz2, fz2⟩ := hfz 2 _ rfl
    change DataW.trod enc Tryd.prog w base spare held n 9 (([c0, c1, c2, c3, c4, c5, c6].drop 2).take (Tryd.prog.cellsOf 9)) = some z2 at hz2
    rw [c_str] at hz2
    obtain ⟨z3, hz3, fz3⟩ := hfz 3 _ rfl
    change DataW.trod enc Tryd.prog w base spare held n 9 (([c0, c1, c2, c3, c4, c5, c6].drop 3).take (Tryd.prog.cellsOf 9)) = some z3 at hz3
    rw [c_str] at hz3
    obtain ⟨z4, hz4, fz4⟩ := hfz 4 _ rfl
    change DataW.trod enc Tryd.prog w base spare held n 36 (([c0, c1, c2, c3, c4, c5, c6].drop 4).take (Tryd.prog.cellsOf 36)) = some z4 at hz4
    rw [c_args] at hz4
    obtain ⟨z5, hz5, fz5⟩ := hfz 5 _ rfl
    change DataW.trod enc Tryd.prog w base spare held n 37 (([c0, c1, c2, c3, c4, c5, c6].drop 5).take (Tryd.prog.cellsOf 37)) = some z5 at hz5
    rw [c_ptr] at hz5
    obtain ⟨z6, hz6, fz6⟩ := hfz 6 _ rfl
    change DataW.trod enc Tryd.prog w base spare held n 38 (([c0, c1, c2, c3, c4, c5, c6].drop 6).take (Tryd.prog.cellsOf 38)) = some z6 at hz6
    rw [c_vars] at hz6
    obtain ⟨kd, e0, _, _⟩ := DataW.trod_int Tryd.underlying35 hz0
    obtain ⟨tx, e1, s1⟩ := str_fits hz1 fz1
    obtain ⟨nm, e2, s2⟩ := str_fits hz2 fz2
    obtain ⟨at_, e3, s3⟩ := str_fits hz3 fz3
    obtain ⟨I, P, e5, hI, fI⟩ := ptr_open ih (by omega) hz5 fz5
    obtain ⟨A, na, ca, na0, e4, la, hna, bA, hA⟩ := slice_at 8 Tryd.underlying36 c_arg (by decide) b_arg hz4 fz4
    obtain ⟨V, nv, cv, nv0, e6, lv, hnv, bV, hV⟩ := slice_at 3 Tryd.underlying38 c_var (by decide) b_var hz6 fz6
    obtain ⟨fa, hfa⟩ := choose_lt (α := ByteArray × EX) (n := na) (p := fun i x => (∃ b o r, A = some ⟨b, o, none⟩ ∧ w.cell? ⟨b, o + i * 8, none⟩ = some (.string x.1) ∧ ExAt w ⟨b, o + i * 8 + 1, none⟩ x.2 r ∧ x.2.R w r) ∧ x.1.size ≤ 281474976710656 ∧ x.2.Fin) (fun i hi => by
      obtain ⟨b, o, cs', y2, rfl, hl2, hcell, h2, hf2⟩ := hA i hi
      obtain ⟨hl3, m2, hm2, hfz⟩ := struct_at Tryd.underlying77 h2 hf2
      obtain ⟨c0, c1, c2, c3, c4, c5, c6, c7, rfl⟩ := lst8 hl2
      obtain ⟨z0, hz0, fz0⟩ := hfz 0 _ rfl
      change DataW.trod enc Tryd.prog w base spare held m2 9 (([c0, c1, c2, c3, c4, c5, c6, c7].drop 0).take (Tryd.prog.cellsOf 9)) = some z0 at hz0
      rw [c_str] at hz0
      obtain ⟨z1, hz1, fz1⟩ := hfz 1 _ rfl
      change DataW.trod enc Tryd.prog w base spare held m2 40 (([c0, c1, c2, c3, c4, c5, c6, c7].drop 1).take (Tryd.prog.cellsOf 40)) = some z1 at hz1
      rw [c_expr] at hz1
      obtain ⟨s, e0, hs⟩ := str_fits hz0 fz0
      obtain ⟨T, q, hcs, _, hfin, hR⟩ := ih _ (by omega) _ _ hz1 fz1
      simp at e0
      subst e0
      exact ⟨(s, T), ⟨b, o, q, rfl, hcell 0 _ rfl, exat_of hcs (fun j u hu => by
        have h3 := hcell (j + 1) u (by
          rw [List.drop_succ_cons, List.drop_zero] at hu
          rw [List.getElem?_cons_succ]
          have hj := (List.getElem?_eq_some_iff.1 hu).1
          rwa [List.getElem?_take, if_pos (by simp at hj; omega)] at hu)
        rw [show o + i * 8 + 1 + j = o + i * 8 + (j + 1) by omega]
        exact h3), hR⟩, hs, hfin⟩)
    obtain ⟨fv, hfv⟩ := choose_lt (α := ByteArray × Bool × Nat × (Nat → ByteArray) × (Nat → EX)) (n := nv) (p := fun v x => (∃ b o A2 c, V = some ⟨b, o, none⟩ ∧ w.cell? ⟨b, o + v * 3, none⟩ = some (.string x.1) ∧ w.cell? ⟨b, o + v * 3 + 1, none⟩ = some (.bool x.2.1) ∧ w.cell? ⟨b, o + v * 3 + 2, none⟩ = some (.slice A2 x.2.2.1 c) ∧ x.2.2.1 ≤ c ∧ Elems w A2 x.2.2.1 x.2.2.2.1 x.2.2.2.2) ∧ x.1.size ≤ 281474976710656 ∧ x.2.2.1 ≤ 281474976710656 ∧ ∀ e, e < x.2.2.1 → (x.2.2.2.1 e).size ≤ 281474976710656 ∧ (x.2.2.2.2 e).Fin) (fun v hv => by
      obtain ⟨b, o, cs', y2, rfl, hl2, hcell, h2, hf2⟩ := hV v hv
      obtain ⟨hl3, m2, hm2, hfz⟩ := struct_at Tryd.underlying136 h2 hf2
      obtain ⟨c0, c1, c2, rfl⟩ := lst3 hl2
      obtain ⟨z0, hz0, fz0⟩ := hfz 0 _ rfl
      change DataW.trod enc Tryd.prog w base spare held m2 9 (([c0, c1, c2].drop 0).take (Tryd.prog.cellsOf 9)) = some z0 at hz0
      rw [c_str] at hz0
      obtain ⟨z1, hz1, fz1⟩ := hfz 1 _ rfl
      change DataW.trod enc Tryd.prog w base spare held m2 4 (([c0, c1, c2].drop 1).take (Tryd.prog.cellsOf 4)) = some z1 at hz1
      rw [c_bool] at hz1
      obtain ⟨z2, hz2, fz2⟩ := hfz 2 _ rfl
      change DataW.trod enc Tryd.prog w base spare held m2 26 (([c0, c1, c2].drop 2).take (Tryd.prog.cellsOf 26)) = some z2 at hz2
      rw [c_elems] at hz2
      obtain ⟨s, e0, hs⟩ := str_fits hz0 fz0
      obtain ⟨d, e1, _⟩ := DataW.trod_bool Tryd.underlying4 hz1
      obtain ⟨A2, n2, c, t, x, e2, l2, b2, hE, hF⟩ := elems_open ih (by omega) hz2 fz2
      simp at e0 e1 e2
      subst e0 e1 e2
      exact ⟨(s, d, n2, t, x), ⟨b, o, A2, c, rfl, hcell 0 _ rfl, hcell 1 _ rfl, hcell 2 _ rfl, l2, hE⟩, hs, b2, hF⟩)
    simp at e0 e1 e2 e3 e4 e5 e6
    subst e0 e1 e2 e3 e4 e5 e6
    refine ⟨.mk kd tx nm at_ na (fun i => (fa i).1) (fun i => (fa i).2) I nv (fun v => (fv v).1) (fun v => (fv v).2.1) (fun v => (fv v).2.2.1) (fun v => (fv v).2.2.2.1) (fun v => (fv v).2.2.2.2), ⟨A, ca, P, V, cv⟩, rfl, rfl, ⟨s1, s2, s3, bA, bV, fun i hi => (hfa i hi).2, fI, fun v hv => (hfv v hv).2⟩, ?_⟩
    exact EX.R_of (fun e => by cases e) la lv (fun i hi => (hfa i hi).1) hI (fun v hv => (hfv v hv).1)
set_option maxRecDepth 100000 in
set_option maxHeartbeats 1000000 in
theorem entry_at {m : Nat} {cs : List Value} {y : DataW H × List MemPlace} (h : DataW.trod enc Tryd.prog w base spare held m 29 cs = some y) (hf : Fits Tryd.prog 29 y.1) :
    ∃ (e : EN) (A : Option Addr) (ca : Nat) (B : Option Addr) (cb : Nat), cs = [.int .i64 e.ty, .int .i64 e.lv, .string e.text, .string e.name, .slice A e.nv ca, .slice B e.na cb, .int .i64 e.fr, .int .i64 e.ti] ∧ e.Fin ∧ e.R w A ca B cb := by
  have ih := expr_open (enc := enc) (w := w) (base := base) (spare := spare) (held := held) m
  obtain ⟨hl, n, hn, hfz⟩ := struct_at Tryd.underlying29 h hf
  rw [c_entry] at hl
  obtain ⟨c0, c1, c2, c3, c4, c5, c6, c7, rfl⟩ := lst8 hl
  obtain ⟨z0, hz0, fz0⟩ := hfz 0 _ rfl
  change DataW.trod enc Tryd.prog w base spare held n 25 (([c0, c1, c2, c3, c4, c5, c6, c7].drop 0).take (Tryd.prog.cellsOf 25)) = some z0 at hz0
  rw [c_type] at hz0
  obtain ⟨z1, hz1, fz1⟩ := hfz 1 _ rfl
  change DataW.trod enc Tryd.prog w base spare held n 3 (([c0, c1, c2, c3, c4, c5, c6, c7].drop 1).take (Tryd.prog.cellsOf 3)) = some z1 at hz1
  rw [c_int] at hz1
  obtain ⟨z2, hz2, fz2⟩ := hfz 2 _ rfl
  change DataW.trod enc Tryd.prog w base spare held n 9 (([c0, c1, c2, c3, c4, c5, c6, c7].drop 2).take (Tryd.prog.cellsOf 9)) = some z2 at hz2
  rw [c_str] at hz2
  obtain ⟨z3, hz3, fz3⟩ := hfz 3 _ rfl
  change DataW.trod enc Tryd.prog w base spare held n 9 (([c0, c1, c2, c3, c4, c5, c6, c7].drop 3).take (Tryd.prog.cellsOf 9)) = some z3 at hz3
  rw [c_str] at hz3
  obtain ⟨z4, hz4, fz4⟩ := hfz 4 _ rfl
  change DataW.trod enc Tryd.prog w base spare held n 26 (([c0, c1, c2, c3, c4, c5, c6, c7].drop 4).take (Tryd.prog.cellsOf 26)) = some z4 at hz4
  rw [c_elems] at hz4
  obtain ⟨z5, hz5, fz5⟩ := hfz 5 _ rfl
  change DataW.trod enc Tryd.prog w base spare held n 27 (([c0, c1, c2, c3, c4, c5, c6, c7].drop 5).take (Tryd.prog.cellsOf 27)) = some z5 at hz5
  rw [c_attrs] at hz5
  obtain ⟨z6, hz6, fz6⟩ := hfz 6 _ rfl
  change DataW.trod enc Tryd.prog w base spare held n 3 (([c0, c1, c2, c3, c4, c5, c6, c7].drop 6).take (Tryd.prog.cellsOf 3)) = some z6 at hz6
  rw [c_int] at hz6
  obtain ⟨z7, hz7, fz7⟩ := hfz 7 _ rfl
  change DataW.trod enc Tryd.prog w base spare held n 3 (([c0, c1, c2, c3, c4, c5, c6, c7].drop 7).take (Tryd.prog.cellsOf 3)) = some z7 at hz7
  rw [c_int] at hz7
  obtain ⟨ty, e0, _, _⟩ := DataW.trod_int Tryd.underlying25 hz0
  obtain ⟨lv, e1, _, _⟩ := DataW.trod_int Tryd.underlying3 hz1
  obtain ⟨tx, e2, s2⟩ := str_fits hz2 fz2
  obtain ⟨nm, e3, s3⟩ := str_fits hz3 fz3
  obtain ⟨A, nv, ca, vt, vp, e4, l4, b4, hE, hF⟩ := elems_open ih (by omega) hz4 fz4
  obtain ⟨B, na, cb, na0, e5, l5, hna, b5, hB⟩ := slice_at 2 Tryd.underlying27 c_attr (by decide) b_attr hz5 fz5
  obtain ⟨fr, e6, _, _⟩ := DataW.trod_int Tryd.underlying3 hz6
  obtain ⟨ti, e7, _, _⟩ := DataW.trod_int Tryd.underlying3 hz7
  obtain ⟨fa, hfa⟩ := choose_lt (α := ByteArray × Nat × (Nat → ByteArray) × (Nat → EX)) (n := na) (p := fun v x => (∃ b o A2 c, B = some ⟨b, o, none⟩ ∧ w.cell? ⟨b, o + v * 2, none⟩ = some (.string x.1) ∧ w.cell? ⟨b, o + v * 2 + 1, none⟩ = some (.slice A2 x.2.1 c) ∧ x.2.1 ≤ c ∧ Elems w A2 x.2.1 x.2.2.1 x.2.2.2) ∧ x.1.size ≤ 281474976710656 ∧ x.2.1 ≤ 281474976710656 ∧ ∀ e, e < x.2.1 → (x.2.2.1 e).size ≤ 281474976710656 ∧ (x.2.2.2 e).Fin) (fun v hv => by
    obtain ⟨b, o, cs', y2, rfl, hl2, hcell, h2, hf2⟩ := hB v hv
    obtain ⟨hl3, m2, hm2, hfz⟩ := struct_at Tryd.underlying44 h2 hf2
    obtain ⟨c0, c1, rfl⟩ := lst2 hl2
    obtain ⟨z0, hz0, fz0⟩ := hfz 0 _ rfl
    change DataW.trod enc Tryd.prog w base spare held m2 9 (([c0, c1].drop 0).take (Tryd.prog.cellsOf 9)) = some z0 at hz0
    rw [c_str] at hz0
    obtain ⟨z1, hz1, fz1⟩ := hfz 1 _ rfl
    change DataW.trod enc Tryd.prog w base spare held m2 26 (([c0, c1].drop 1).take (Tryd.prog.cellsOf 26)) = some z1 at hz1
    rw [c_elems] at hz1
    obtain ⟨s, e0, hs⟩ := str_fits hz0 fz0
    obtain ⟨A2, n2, c, t, x, e1, l2, b2, hE2, hF2⟩ := elems_open ih (by omega) hz1 fz1
    simp at e0 e1
    subst e0 e1
    exact ⟨(s, n2, t, x), ⟨b, o, A2, c, rfl, hcell 0 _ rfl, hcell 1 _ rfl, l2, hE2⟩, hs, b2, hF2⟩)
  simp at e0 e1 e2 e3 e4 e5 e6 e7
  subst e0 e1 e2 e3 e4 e5 e6 e7
  exact ⟨⟨ty, lv, tx, nm, nv, vt, vp, na, fun i => (fa i).1, fun i => (fa i).2.1, fun i => (fa i).2.2.1, fun i => (fa i).2.2.2, fr, ti⟩, A, ca, B, cb, rfl, ⟨s2, s3, b4, b5, hF, fun i hi => (hfa i hi).2⟩, l4, l5, hE, fun i hi => (hfa i hi).1⟩
end
set_option maxRecDepth 100000 in
theorem open_entry {H : Type} {enc : TypeId × Value → H} {W : World} {base : Nat} {v : Value} {d : DataW H} {p : List MemPlace} (hval : Value.okWide Tryd.prog W .any base 29 v) (h : DataW.Trod enc Tryd.prog W 0 (fun _ => true) true 29 v d p) (hq : Fits Tryd.prog 29 d) :
    ∃ (e : EN) (A : Option Addr) (ca : Nat) (B : Option Addr) (cb : Nat), v = .agg #[.int .i64 e.ty, .int .i64 e.lv, .string e.text, .string e.name, .slice A e.nv ca, .slice B e.na cb, .int .i64 e.fr, .int .i64 e.ti] ∧ e.Fin ∧ e.R W A ca B cb := by
  obtain ⟨cs, rfl, hsz⟩ := okWide_struct Tryd.underlying29 hval
  obtain ⟨fuel, hf0⟩ := h
  obtain ⟨e, A, ca, B, cb, hcs, hfin, hR⟩ := entry_at hf0 hq
  refine ⟨e, A, ca, B, cb, ?_, hfin, hR⟩
  congr 1
  exact Array.ext' hcs
end Go.Proofs.YtipmphgkdomebaaDoor.E
namespace Go.Proofs.YtipmphgkdomebaaDoor.E
open Go.Proofs.YtipmphgkdomebaaDoor Go.ChangeShapes Go.WideShapes Go.ChangeAt Go.RowKit Go.Deep
set_option linter.unusedVariables false
theorem own : ownKnob Tryd.prog.godebug = none := by kernel_rfl
theorem laidOut : laidOutB Tryd.prog = true := by kernel_rfl
theorem args_below {P : Program} (hl : laidOutB P = true) {H : Type} {enc : TypeId × Value → H} {W W' : World} (hb : Below W.heap.size W W') : ∀ (ts : List TypeId) (vs : List Value) (ds : List (DataW H)) (ps : List MemPlace),
    (∀ t ∈ ts, P.readableRec t = true ∧ t < P.types.size) → DataW.TrodAll enc P W 0 (fun _ => true) true ts vs ds ps → (∀ x ∈ ps, x.block < W.heap.size) →
    DataW.TrodAll enc P W' 0 (fun b => decide (b < W.heap.size)) true ts vs ds ps
  | [], [], [], ps, _, h, _ => h
  | t :: ts, v :: vs, d :: ds, ps, hr, h, hlt => by
    obtain ⟨p, q, h0, h1, rfl⟩ := h
    exact ⟨p, q, Below.trod hl (hr t (.head _)).1 (hr t (.head _)).2 h0 hb (fun x hx => hlt x (List.mem_append.2 (Or.inl hx))), args_below hl hb ts vs ds q (fun t ht => hr t (.tail _ ht)) h1 (fun x hx => hlt x (List.mem_append.2 (Or.inr hx))), rfl⟩
  | [], _ :: _, _, _, _, h, _ => h.elim
  | _ :: _, [], _, _, _, h, _ => h.elim
  | [], [], _ :: _, _, _, h, _ => h.elim
  | _ :: _, _ :: _, [], _, _, h, _ => h.elim
noncomputable def laidWorld (os : Os) : World :=
  let w0 := World.holding Tryd.prog os ⟨#[], #[], []⟩
  let put (h : Array Obj) (g : Nat) (cs : Array Value) : Array Obj := h.modify g fun
    | .cells _ t frozen => .cells cs t frozen
    | o => o
  let h1 := put w0.heap 0 (Lib.firstTab.map fun z => Value.int .u8 z).toArray
  let h2 := put h1 1 ((List.range 16).flatMap fun i => [Value.int .u8 (Lib.accLo i), Value.int .u8 (Lib.accHi i)]).toArray
  { w0 with heap := h2 }
theorem tabs_of {W : World} (ha : Lib.VarReads Tryd.prog W "unicode/utf8.acceptRanges" Rows.laid_unicode_utf8_acceptRanges) (hf : Lib.VarReads Tryd.prog W "unicode/utf8.first" Rows.laid_unicode_utf8_first) : Tabs W := by
  have e1 : Rows.laid_unicode_utf8_first = Lib.firstData := Pinned.utf8First_eq
  have e2 : (Rows.laid_unicode_utf8_acceptRanges : DataW Unit) = Lib.acceptData := by kernel_rfl
  rw [e1] at hf
  rw [e2] at ha
  exact utf8Tabs_of_readsT (U8Types.of260 Tryd.lays260) ⟨by kernel_rfl, by kernel_rfl, by kernel_rfl, by kernel_rfl, by kernel_rfl, by kernel_rfl, by kernel_rfl⟩ hf ha
theorem tabs_laid {W : World} (hL : laidMetH Tryd.prog [("unicode/utf8.acceptRanges", Rows.laid_unicode_utf8_acceptRanges), ("unicode/utf8.first", Rows.laid_unicode_utf8_first)] W) : Tabs W :=
  tabs_of (Lib.laidMet.reads hL (.head _)) (Lib.laidMet.reads hL (.tail _ (.head _)))
theorem tab_of {W : World} (h : W.ShapedOpen Tryd.prog) : G.Tab_ W := Tryd.laysM146.s1_3 W h
end Go.Proofs.YtipmphgkdomebaaDoor.E
namespace Go.Proofs.YtipmphgkdomebaaDoor.astSames
open Go.ChangeShapes Go.WideShapes Go.ChangeAt Go.RowKit Go.Proofs.YtipmphgkdomebaaDoor.E
open Go.ChangeMaps (open_string shut_string)
set_option linter.unusedVariables false
set_option linter.unusedSimpArgs false
theorem laid_met (os : Os) : laidMet Tryd.prog Rows.astSamesRow.laid ((laidWorld os).forCall (fun _ _ => 0) ⟨#[], #[.agg #[.int .i64 0, .int .i64 0, .string ByteArray.empty, .string ByteArray.empty, .slice none 0 0, .slice none 0 0, .int .i64 0, .int .i64 0], .agg #[.int .i64 0, .int .i64 0, .string ByteArray.empty, .string ByteArray.empty, .slice none 0 0, .slice none 0 0, .int .i64 0, .int .i64 0], .int .i64 0, .int .i64 0], []⟩).memory :=
  laidMet_of_run3 8 (by kernel_rfl) (by kernel_rfl) (by kernel_rfl)
set_option maxRecDepth 100000 in
theorem reads (os : Os) {H : Type} (enc : TypeId × Value → H) : ∃ places, DataW.whole enc Tryd.prog ((laidWorld os).forCall (fun _ _ => 0) ⟨#[], #[.agg #[.int .i64 0, .int .i64 0, .string ByteArray.empty, .string ByteArray.empty, .slice none 0 0, .slice none 0 0, .int .i64 0, .int .i64 0], .agg #[.int .i64 0, .int .i64 0, .string ByteArray.empty, .string ByteArray.empty, .slice none 0 0, .slice none 0 0, .int .i64 0, .int .i64 0], .int .i64 0, .int .i64 0], []⟩).memory Tryd.f5.params.toList Rows.astSamesSpec.vars false #[Value.agg #[.int .i64 0, .int .i64 0, .string ByteArray.empty, .string ByteArray.empty, .slice none 0 0, .slice none 0 0, .int .i64 0, .int .i64 0], Value.agg #[.int .i64 0, .int .i64 0, .string ByteArray.empty, .string ByteArray.empty, .slice none 0 0, .slice none 0 0, .int .i64 0, .int .i64 0], Value.int .i64 0, Value.int .i64 0].toList 8 = some ([.agg [.lit (.int .i64 0), .lit (.int .i64 0), .lit (.string []), .lit (.string []), .nil, .nil, .lit (.int .i64 0), .lit (.int .i64 0)], .agg [.lit (.int .i64 0), .lit (.int .i64 0), .lit (.string []), .lit (.string []), .nil, .nil, .lit (.int .i64 0), .lit (.int .i64 0)], .lit (.int .i64 0), .lit (.int .i64 0)], [], places) :=
  ⟨[], by kernel_rfl⟩
set_option maxRecDepth 100000 in
theorem contract (H : Type) (enc : TypeId × Value → H) (W : World) (base : Nat) (args : Array Value) (ds gs : List (DataW H)) (before : List MemPlace)
    (hval : ∀ (j : Nat) t v, Tryd.f5.params[j]? = some t → args[j]? = some v → Value.okWide Tryd.prog W .any base t v)
    (hW : DataW.Whole enc Tryd.prog Tryd.f5.params.toList Rows.astSamesSpec.vars false W args.toList ds gs before) (hL : laidMetH Tryd.prog Rows.astSamesRow.laid W) (hS : W.ShapedOpen Tryd.prog) (hsz : (DataW.weightsEach Tryd.prog (Tryd.f5.params.toList ++ (OpenSpec.ofChange Rows.astSamesSpec).bare.plain.varTypes Tryd.prog) (ds ++ gs)).all (· ≤ reachBytes) = true) :
    Calls Tryd.prog 5 args W fun e W' => ∃ v, e = .returned v ∧ Rows.astSamesSpec.post enc Tryd.prog Tryd.f5 false true false false W args v W' := by
  have hW' := hW
  obtain ⟨p, q, hA0, hV, rfl, hfz, hnd⟩ := hW
  have hA : DataW.TrodAll enc Tryd.prog W 0 (fun _ => true) true Tryd.f5.params.toList args.toList ds p := hA0
  rw [Tryd.params5] at hA hval
  have hAk := hA
  have hlt : ∀ x ∈ p, x.block < W.heap.size := fun x hx => by simpa using hW'.lt x (List.mem_append.2 (Or.inl hx))
  obtain ⟨v0, vs0, d0, ds0, p0, q0, hargs, rfl, rfl, h0, r0⟩ := trodAll_cons hA
  obtain ⟨v1, vs1, d1, ds1, p1, q1, rfl, rfl, rfl, h1, r1⟩ := trodAll_cons r0
  obtain ⟨v2, vs2, d2, ds2, p2, q2, rfl, rfl, rfl, h2, r2⟩ := trodAll_cons r1
  obtain ⟨v3, vs3, d3, ds3, p3, q3, rfl, rfl, rfl, h3, r3⟩ := trodAll_cons r2
  obtain ⟨rfl, rfl, rfl⟩ := trodAll_nil r3
  obtain rfl : args = #[v0, v1, v2, v3] := by cases args; simp_all
  obtain ⟨rfl, rfl⟩ := trodVars_none hV
  obtain ⟨x0, A0, ca0, B0, cb0, rfl, fx0, R0⟩ := open_entry (hval 0 29 v0 rfl rfl) h0 (fun n hn => by have := of_decide_eq_true (List.all_eq_true.1 hsz n (DataW.weights_mem_each (j := 0) rfl rfl n hn)); unfold reachBytes at this; omega)
  obtain ⟨x1, A1, ca1, B1, cb1, rfl, fx1, R1⟩ := open_entry (hval 1 29 v1 rfl rfl) h1 (fun n hn => by have := of_decide_eq_true (List.all_eq_true.1 hsz n (DataW.weights_mem_each (j := 1) rfl rfl n hn)); unfold reachBytes at this; omega)
  obtain ⟨n2, rfl, rfl, rfl, hm2⟩ := open_int Tryd.underlying3 (hval 2 3 v2 rfl rfl) h2
  obtain ⟨n3, rfl, rfl, rfl, hm3⟩ := open_int Tryd.underlying3 (hval 3 3 v3 rfl rfl) h3
  clear hA0
  simp only [List.append_nil] at hW' hAk hlt
  have hT := tabs_laid hL
  refine (sames_walk x0 x1 A0 B0 A1 B1 ca0 cb0 ca1 cb1 n2 n3 W fx0 fx1 R0 R1 hT (tab_of hS)).mono fun e W' ⟨he, hb⟩ => ?_
  subst he
  exact ⟨_, rfl, _, _, _, [], _, [], hW', trodAll_mk1 (shut_bool Tryd.underlying4 _), args_below laidOut hb _ _ _ _ (by decide +kernel) hAk hlt, rfl, hb.frame _, fun h => by cases h⟩
set_option maxRecDepth 100000 in
theorem lifted (os : Os) (started : os.Started) (H : Type) (enc : TypeId × Value → H) (F : Stop.Interp) :
    ReturnsInHanded {} Tryd.checked os 5 .any ((OpenSpec.ofChange Rows.astSamesSpec).preRow enc Tryd.prog Tryd.f5 Rows.astSamesRow.domain false Rows.astSamesRow.laid) (((OpenSpec.ofChange Rows.astSamesSpec).at F).post enc Tryd.prog Tryd.f5 false true false false) := by
  obtain ⟨places, hx⟩ := reads os enc
  refine returnsInHanded_of_row (C := Tryd.checked) (s := OpenSpec.ofChange Rows.astSamesSpec) own started (by kernel_rfl) Tryd.func5
    (witness_row_atRef (enc := enc) (C := Tryd.checked) false (laidWorld os) #[.agg #[.int .i64 0, .int .i64 0, .string ByteArray.empty, .string ByteArray.empty, .slice none 0 0, .slice none 0 0, .int .i64 0, .int .i64 0], .agg #[.int .i64 0, .int .i64 0, .string ByteArray.empty, .string ByteArray.empty, .slice none 0 0, .slice none 0 0, .int .i64 0, .int .i64 0], .int .i64 0, .int .i64 0] rfl (by kernel_rfl) (by kernel_rfl) (by kernel_rfl)
      (OpenSpec.preRow_of_cond 8 hx (by kernel_rfl) (fun k hk => by cases hk) (by kernel_rfl) (laid_met os))) ?_
  intro W base args ds gs before hval hW _ _ hsz hL hS _
  exact contract H enc W base args ds gs before hval hW hL hS hsz
theorem said : Rows.AstSamesSaid :=
  OpenClaim.holds_of_cond 5 Tryd.f5 rfl rfl rfl rfl rfl rfl rfl ⟨rfl, rfl, rfl, rfl, rfl⟩ rfl rfl rfl rfl rfl (by kernel_rfl) Tryd.func5 (by kernel_rfl)
    (of_decide_eq_true (by kernel_rfl)) (by unfold Func.isWrapper; first | (rw [if_pos (by decide +kernel)]; kernel_rfl) | (rw [if_neg (by decide +kernel)]; exact ⟨rfl, rfl⟩))
    (fun os started H enc _ F => by rw [OpenClaim.pre_eq_preRow]; exact lifted os started H enc F)
theorem plain (f : FuncId) (fn : Func) (hf : Tryd.pinned.checked.prog.funcNamed "polyglot/polyglotlaw07.AstSames" = some f) (hfn : Tryd.pinned.checked.prog.funcs[f]? = some fn) :
    false = Tryd.pinned.checked.prog.looks [] ∧ ∀ (j : Nat) t, fn.params[j]? = some t → Tryd.pinned.checked.prog.wantsStandIn t = false := by
  obtain rfl : f = 5 := Option.some.inj ((show Tryd.prog.funcNamed "polyglot/polyglotlaw07.AstSames" = some 5 by kernel_rfl).symm.trans hf) |>.symm
  obtain rfl : fn = Tryd.f5 := (Option.some.inj (Tryd.func5.symm.trans hfn)).symm
  refine ⟨by kernel_rfl, fun j t ht => ?_⟩
  rw [Tryd.params5] at ht
  have hmem := Array.mem_of_getElem? ht
  have hall : ∀ t ∈ (#[29, 29, 3, 3] : Array TypeId), Tryd.prog.wantsStandIn t = false := by
    intro t ht
    simp at ht
    rcases ht with rfl | rfl
    all_goals kernel_rfl
  exact hall t hmem
end Go.Proofs.YtipmphgkdomebaaDoor.astSames
namespace Go.Proofs.YtipmphgkdomebaaDoor
theorem astSames_holds : Rows.AstSamesCardSaid :=
  Claim7.holds_tied_plain_at .later [] _ _ _ _ astSames.said (fun _ h => by cases h) (by kernel_rfl) (fun _ h => by cases h) astSames_row_tie rfl ⟨rfl, rfl⟩ (by kernel_rfl) rfl astSames.plain (by kernel_rfl)
end Go.Proofs.YtipmphgkdomebaaDoor
