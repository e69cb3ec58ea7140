/- The walk of TextRights: it returns true. -/
import Derived.Test.YtaijjabbkmdcdaaDoorTlawDec
import Derived.Lib.ConvBytes
namespace Go.Proofs.YtaijjabbkmdcdaaDoor
open Go.RowKit
set_option linter.unusedVariables false
set_option linter.unusedSimpArgs false

/-- []byte(s): the world behind it. -/
theorem below_bytes (w : World) (s : ByteArray) : Below w.heap.size w (Lib.bytesWorld w 5 s) :=
  Lib.below_freeze (((Below.refl _ w).drew).alloc (Nat.le_refl _) _) (p := ⟨w.heap.size, _, none⟩) (Nat.le_refl _) 1
theorem decode_str (s : ByteArray) (w : World) (hs : s.size < 35184372088832) (hT : Tabs w) :
    Calls Tryd.prog 10 #[.slice (some ⟨w.heap.size, 0, none⟩) s.size (grownCap w s.size 0 5)] (Lib.bytesWorld w 5 s) fun e w' => e = .returned (.string ⟨(Tx.dec s.data.toList).toArray⟩) ∧ Below w.heap.size w w' := by
  have hb := below_bytes w s
  refine (decode_any s _ _ _ hs (grownCap_ge w s.size 0 _) (fun h0 => ⟨_, _, rfl, fun j hj => ?_⟩) (Utf8Tabs_below hT hb)).mono ?_
  · rw [Nat.zero_add, Lib.bytesWorld_cell w _ s j hj, Lib.getD_get!']
  · rintro e w' ⟨rfl, h⟩
    exact ⟨rfl, hb.trans (h.mono hb.size)⟩

/-- A later world of the call: the tables stand, and what lay below. -/
def Good (w W : World) : Prop := Tabs W ∧ Below w.heap.size w W
theorem Good.start {w : World} (h : Tabs w) : Good w w := ⟨h, Below.refl _ _⟩
theorem Good.step {w W W' : World} (h : Good w W) (b : Below W.heap.size W W') : Good w W' := ⟨Utf8Tabs_below h.1 b, h.2.trans (b.mono h.2.size)⟩
theorem Good.calls {w W : World} {P : Program} {f : FuncId} {args : Array Value} {v : Value} (h : Good w W) (c : Calls P f args W fun e w' => e = .returned v ∧ Below W.heap.size W w') : Calls P f args W fun e w' => e = .returned v ∧ Good w w' :=
  c.mono fun e w' ⟨he, hb⟩ => ⟨he, h.step hb⟩
theorem own_mono {w : World} {B B' : Nat} {e : TypeId} {k : Nat} {v : Value} {n : Nat} {xs : List Value} (h : w.ownsRow B e k v n xs) (hB : B' ≤ B) : w.ownsRow B' e k v n xs := by
  refine ⟨h.1, ?_⟩
  rcases h.2 with h2 | ⟨g, cap, cur, hv, hg, r⟩
  · exact Or.inl h2
  · exact Or.inr ⟨g, cap, cur, hv, by omega, r⟩
theorem mk_eq (D : List UInt8) (t : ByteArray) (h : D = t.data.toList) : (⟨D.toArray⟩ : ByteArray) = t := by subst h; exact mk_list t

set_option maxRecDepth 100000 in
set_option maxHeartbeats 4000000 in
theorem rights_walk (s : ByteArray) (w : World) (hm : s.size ≤ 9223372036854775807) (hT : Tabs w) :
    Calls Tryd.prog 7 #[.string s] w fun e w' => e = .returned (.bool true) ∧ Below w.heap.size w w' := by
  have hlen : s.data.toList.length = s.size := (Lib.size_eq s).symm
  have cH := head_any w hT
  by_cases h300 : s.size > 300
  · have hz : (s.size : Int) > 300 := by omega
    go_enter Tryd.func7, Tryd.ntmps7
    go_wp2_with (go_at_call 8; refine cH.mono ?_; rintro e W1 ⟨rfl, b1⟩)
    go_ret
    exact ⟨rfl, b1⟩
  · have hz : ¬ (s.size : Int) > 300 := by omega
    obtain ⟨q1, q2, q3, q4⟩ := Tx.rights s.data.toList
    have hdl := Tx.dec_len s.data.toList.length s.data.toList (Nat.le_refl _)
    have cR : ∀ W, Good w W → Calls Tryd.prog 15 #[.string s] W fun e w' => e = .returned (.bool (rightB s.data.toList)) ∧ Good w w' := fun W h => h.calls (right_any s W (by omega) h.1)
    have cL : ∀ W, Good w W → Calls Tryd.prog 16 #[.string s] W fun e w' => e = .returned (.bool (rightB s.data.toList)) ∧ Good w w' := fun W h => by
      have := lright_any s W (by omega) h.1
      rw [Tx.right_eq] at this
      exact h.calls this
    obtain ⟨D, hD⟩ : ∃ D : ByteArray, (⟨(Tx.dec s.data.toList).toArray⟩ : ByteArray) = D := ⟨_, rfl⟩
    have hDl : D.data.toList = Tx.dec s.data.toList := by rw [← hD]
    have hDs : D.size ≤ 1200 := by rw [Lib.size_eq, hDl]; omega
    have cD : ∀ W, Good w W → Calls Tryd.prog 10 #[.slice (some ⟨W.heap.size, 0, none⟩) s.size (grownCap W s.size 0 5)] (Lib.bytesWorld W 5 s) fun e w' => e = .returned (.string D) ∧ Good w w' := fun W h => by
      have := decode_str s W (by omega) h.1
      rw [hD] at this
      exact this.mono fun e w' ⟨he, hb⟩ => ⟨he, h.step hb⟩
    have cD2 : ∀ W, Good w W → Calls Tryd.prog 10 #[.slice (some ⟨W.heap.size, 0, none⟩) D.size (grownCap W D.size 0 5)] (Lib.bytesWorld W 5 D) fun e w' => e = .returned (.string D) ∧ Good w w' := fun W h => by
      have := decode_str D W (by omega) h.1
      rw [hDl, q3, hD] at this
      exact this.mono fun e w' ⟨he, hb⟩ => ⟨he, h.step hb⟩
    have cRD : ∀ W, Good w W → Calls Tryd.prog 15 #[.string D] W fun e w' => e = .returned (.bool true) ∧ Good w w' := fun W h => by
      have := right_any D W (by omega) h.1
      rw [show rightB D.data.toList = true by rw [hDl]; exact q2] at this
      exact h.calls this
    have cLD : ∀ W, Good w W → Calls Tryd.prog 16 #[.string D] W fun e w' => e = .returned (.bool true) ∧ Good w w' := fun W h => by
      have := lright_any D W (by omega) h.1
      rw [hDl, q1] at this
      exact h.calls this
    have hcv := fun w => Lib.run_convert_string_bytes (P := Tryd.prog) w 9 22 5 s Tryd.underlying9 Tryd.underlying22 Tryd.underlying5
    have hcv2 := fun w => Lib.run_convert_string_bytes (P := Tryd.prog) w 9 22 5 D Tryd.underlying9 Tryd.underlying22 Tryd.underlying5
    have hDs2 : rightB s.data.toList = true → D = s := fun h => by rw [← hD]; exact mk_eq _ _ (q4 h)
    have HD := Lib.hid hD; clear hD hDl q1 q2 q3 q4
    obtain ⟨b, hb⟩ : ∃ b, rightB s.data.toList = b := ⟨_, rfl⟩
    rw [hb] at cR cL hDs2
    clear hb hlen
    have hG := Good.start hT
    have cH' := hG.calls cH
    cases b with
    | true =>
      obtain rfl := hDs2 rfl
      clear hDs2
      go_enter Tryd.func7, Tryd.ntmps7
      go_wp2_with (first
        | (go_at_call 8; refine cH'.mono ?_; rintro e W1 ⟨rfl, hG1⟩)
        | (go_at_call 15; refine (cR _ (by assumption)).mono ?_; rintro e W1 ⟨rfl, hG1⟩)
        | (go_at_call 16; refine (cL _ (by assumption)).mono ?_; rintro e W1 ⟨rfl, hG1⟩)
        | (go_at_call 10; refine (cD _ (by assumption)).mono ?_; rintro e W1 ⟨rfl, hG1⟩))
      go_ret
      exact ⟨rfl, hG1.2⟩
    | false =>
      clear hDs2
      go_enter Tryd.func7, Tryd.ntmps7
      go_wp2_with (first
        | (go_at_call 8; refine cH'.mono ?_; rintro e W1 ⟨rfl, hG1⟩)
        | (go_at_call 15; ((with_reducible refine (cR _ (by assumption)).mono ?_); rintro e W1 ⟨rfl, hG1⟩))
        | (go_at_call 15; ((with_reducible refine (cRD _ (by assumption)).mono ?_); rintro e W1 ⟨rfl, hG1⟩))
        | (go_at_call 16; ((with_reducible refine (cL _ (by assumption)).mono ?_); rintro e W1 ⟨rfl, hG1⟩))
        | (go_at_call 16; ((with_reducible refine (cLD _ (by assumption)).mono ?_); rintro e W1 ⟨rfl, hG1⟩))
        | (go_at_call 10; ((with_reducible refine (cD _ (by assumption)).mono ?_); rintro e W1 ⟨rfl, hG1⟩))
        | (go_at_call 10; ((with_reducible refine (cD2 _ (by assumption)).mono ?_); rintro e W1 ⟨rfl, hG1⟩)))
      go_ret
      exact ⟨rfl, hG1.2⟩
end Go.Proofs.YtaijjabbkmdcdaaDoor
