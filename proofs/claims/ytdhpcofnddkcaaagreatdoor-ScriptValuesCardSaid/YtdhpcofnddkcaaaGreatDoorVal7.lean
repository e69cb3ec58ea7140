/- polyglotlaw18.ScriptValues: whatever argument comes in, the call returns true and leaves it unchanged. (Text 8 of 9: what the law's proof rests on, joined; walks printed by the kit's print over given contracts, walks and plain laws by hand.) -/
import Derived.IntWalk
import Derived.Lib.Hide
import Derived.Test.YtdhpcofnddkcaaaGreatDoorVal0
import Derived.Test.YtdhpcofnddkcaaaGreatDoorVal1
import Derived.Test.YtdhpcofnddkcaaaGreatDoorVal2
import Derived.Test.YtdhpcofnddkcaaaGreatDoorVal3
import Derived.Test.YtdhpcofnddkcaaaGreatDoorVal4
import Derived.Test.YtdhpcofnddkcaaaGreatDoorVal5
import Derived.Test.YtdhpcofnddkcaaaGreatDoorVal6
namespace Go.Proofs.YtdhpcofnddkcaaaGreatDoor.S
open Go.RowKit Go.Proofs.YtdhpcofnddkcaaaGreatDoor.G Go.Proofs.YtdhpcofnddkcaaaGreatDoorW.PrintWords Go.Proofs.YtdhpcofnddkcaaaGreatDoorW.PrintLast Go.Proofs.YtdhpcofnddkcaaaGreatDoorW.PrintMore
attribute [local go_sem] max2_int min2_int max_two min_two max_three min_three max_four min_four
set_option linter.unusedVariables false
set_option linter.unusedSimpArgs false
def DecEnd (r0 : List S29) (r1 r2 : Int) (w : World) (e : Ending) (w' : World) : Prop :=
  ∃ v, e = .returned (.tuple #[v, .int .i64 r1, .int .i64 r2]) ∧ Kd.S k29 29 w' w.heap.size (fun _ => True) v r0 ∧ Below w.heap.size w w'
def DecRel (s : ByteArray) (L : List S29) (n : Nat) (e : Int) (w : World) (g fuel a : Nat) (v : Value) (w' : World) : Prop :=
  ∃ xs : List S29, xs.length ≤ 4096 ∧ a ≤ s.size ∧ s.size < fuel + a ∧ L = xs ++ (Net.decR okA (Net.lb s) fuel (4096 - xs.length) a).1.map ofSt ∧ n = (Net.decR okA (Net.lb s) fuel (4096 - xs.length) a).2.1 ∧ e = (Net.decR okA (Net.lb s) fuel (4096 - xs.length) a).2.2 ∧
    IsS71 w w' g s (a : Int) false ∧ Kd.S k29 29 w' w.heap.size (fun k => k ≠ g) v xs ∧ Below w.heap.size w w'
set_option maxHeartbeats 8000000 in
set_option maxRecDepth 100000 in
theorem decode_any (A : Option Addr) (c : Nat) (l : List Int) (w : World) (hr : Kd.C (Kd.int .u8) w A l.length l) (hc : l.length ≤ c) (hl : l.length ≤ 262144) (k : Nat) (s : ByteArray) (hs : strOfNums l = s) (hsz : s.size = l.length)
    (hS : ∀ a : Nat, a < s.size → match Net.stepR (Net.lb s) a with
      | some (st, b) => script_reader_step.f k s (a : Int) false = some ((ofSt st).f0, (ofSt st).f1, (ofSt st).f2, (ofSt st).f3, (ofSt st).f4, (ofSt st).f5, (ofSt st).f6, (ofSt st).f7, s, (b : Int), false) ∧ (Net.right okA st = true → a < b) ∧ b ≤ s.size ∧
          script_Step_Right.f k (ofSt st).f0 (ofSt st).f1 (ofSt st).f2 (ofSt st).f3 (ofSt st).f4 (ofSt st).f5 (ofSt st).f6 (ofSt st).f7 = some (Net.right okA st)
      | none => ∃ (q : Int) (t b : ByteArray) (o : Bool) (ws : List ByteArray) (n m : ByteArray) (ags : List S44) (a1 : Int), script_reader_step.f k s (a : Int) false = some (q, t, b, o, ws, n, m, ags, s, a1, true))
    (L : List S29) (n : Nat) (e : Int) (h1 : L = (Net.decR okA (Net.lb s) (l.length + 1) 4096 0).1.map ofSt) (h2 : n = (Net.decR okA (Net.lb s) (l.length + 1) 4096 0).2.1) (h3 : e = (Net.decR okA (Net.lb s) (l.length + 1) 4096 0).2.2)
    (HT : Tab_ w) (HP : TabP_ w) (HE : TabE_ w) :
    Calls Tryz.prog 15 #[.slice A l.length c] w (DecEnd L n e w) := by
  have n1 : decide ((262144 : Int) < (l.length : Int)) = false := decide_eq_false (by omega)
  have n2 : (l.length : Int) ≤ 262144 := by omega
  have hcv : (convert 32 9 (.slice A l.length c)).run Tryz.prog w = .ok (.string s) w := by
    rw [← hs]
    exact Kd.C_string Tryz.underlying32 Tryz.underlying5 Tryz.underlying9 hr
  have HS := Lib.hid hS
  have HC := Lib.hid hr
  have H1 := Lib.hid h1
  have H2 := Lib.hid h2
  have H3 := Lib.hid h3
  have HSZ := Lib.hid hsz
  have m1 : (s.size : Int) ≤ 262144 := by omega
  clear hS hr hs h1 h2 h3 hsz
  go_enter Tryz.func15, Tryz.ntmps15
  go_wp2
  go_loopg [6] (l.length + 1) (fun fuel v6 w' => ∃ a : Nat, DecRel s L n e w w.heap.size fuel a v6 w')
  case atStart =>
    have hI := IsS71.new w w s 0 false (Below.refl _ _)
    refine ⟨0, [], by simp, by omega, by have := HSZ.out; omega, H1.out, H2.out, H3.out, hI, Kd.S_nil _ _ _ _ _, below_alloc (Below.refl _ _) _⟩
  case round =>
    obtain ⟨a, xs, hx, ha, hf, g1, g2, g3, hI, hv, hb⟩ := hrel
    have k0 := cellS71_0 hI.1
    have k1 := cellS71_1 hI.1
    have k2 := cellS71_2 hI.1
    have HI := Lib.hid hI
    have HV := Lib.hid hv
    have HB := Lib.hid hb
    obtain ⟨Ax, cx, rfl⟩ := Kd.S_slice hv
    clear hI hv hb
    by_cases hlt : a < s.size
    · have q0 : decide (a < s.size) = true := decide_eq_true hlt
      have HG1 := Lib.hid g1
      have HG2 := Lib.hid g2
      have HG3 := Lib.hid g3
      have HF := Lib.hid hf
      have HA := Lib.hid hlt
      have HX := Lib.hid hx
      clear g1 g2 g3 hf hlt ha hx
      go_wp2
      go_quiet (fail)
      go_upto_region 7 with (fail)
      have cS := HS.out a HA.out
      have HTw := Tab_.step HT HB.out
      have HPw := TabP_.step HP HB.out
      have HEw := TabE_.step HE HB.out
      cases hst : Net.stepR (Net.lb s) a with
      | none =>
        rw [hst] at cS
        obtain ⟨q, t, b, o, ws, nm, mm, ags, a1, hf⟩ := cS
        have cC := script_reader_step.calls k w.heap.size s (a : Int) false q t b o ws nm mm ags s a1 true w (wr.drewN nq) (IsS71.drewN HI.out nq) (pw_below_drewN HB.out nq) hf HT HP HE
        have HST := Lib.hid hst
        clear hst hf
        go_upto_region 8 with (first
          | (go_at_call 25; refine cC.mono ?_; rintro e1 W1 ⟨v4, v7, rfl, h4, h7, hI1, hb1, hk1⟩; obtain ⟨A4, c4, rfl⟩ := Kd.R_slice h4; obtain ⟨A7, c7, rfl⟩ := Kd.R_slice h7; have HI1 := Lib.hid hI1; have HB1 := Lib.hid hb1; have HK1 := Lib.hid hk1; clear h4 h7 hI1 hb1 hk1)
          | ((with_reducible refine gate_dst (N := 8) rfl ?_); (try (refine gate_guard (by rfl) ?_; dsimp only)); refine box_event ?hg (N := 8) ?hd (cs := #[.int .i64 0, .string (⟨#[]⟩ : ByteArray), .string (⟨#[]⟩ : ByteArray), .bool false, .slice none 0 0, .string (⟨#[]⟩ : ByteArray), .string (⟨#[]⟩ : ByteArray), .slice none 0 0]) (t := 29) ?hr ?_; (case hd => rfl); (case hg => rfl); (case hr => first | (go_simp; done) | (go_simp; rfl)); intro gb hg W2 hbox hb; have hfz0 := blk_frozen hbox 0; have hfz1 := blk_frozen hbox 1; have hfz2 := blk_frozen hbox 2; have hfz3 := blk_frozen hbox 3; have hfz4 := blk_frozen hbox 4; have hfz5 := blk_frozen hbox 5; have hfz6 := blk_frozen hbox 6; have hfz7 := blk_frozen hbox 7; have hc0 := blk_cell hbox 0; have hc1 := blk_cell hbox 1; have hc2 := blk_cell hbox 2; have hc3 := blk_cell hbox 3; have hc4 := blk_cell hbox 4; have hc5 := blk_cell hbox 5; have hc6 := blk_cell hbox 6; have hc7 := blk_cell hbox 7; have HBX := Lib.hid hbox; have HBB := Lib.hid hb; have HGB := Lib.hid hg; clear hbox hb hg))
        have hgb : gb = W1.heap.size := HGB.out
        have BK := blk_put8 HBX.out (.int .i64 q) (.string t) (.string b) (.bool o) (.slice A4 ws.length c4) (.string nm) (.string mm) (.slice A7 ags.length c7)
        have HS8 := below_set8 HBB.out (by omega : W1.heap.size ≤ gb) (.int .i64 q) (.string t) (.string b) (.bool o) (.slice A4 ws.length c4) (.string nm) (.string mm) (.slice A7 ags.length c7)
        generalize ((((((((W2.setCell ⟨gb, 0, none⟩ (.int .i64 q)).setCell ⟨gb, 1, none⟩ (.string t)).setCell ⟨gb, 2, none⟩ (.string b)).setCell ⟨gb, 3, none⟩ (.bool o)).setCell ⟨gb, 4, none⟩ (.slice A4 ws.length c4)).setCell ⟨gb, 5, none⟩ (.string nm)).setCell ⟨gb, 6, none⟩ (.string mm)).setCell ⟨gb, 7, none⟩ (.slice A7 ags.length c7)) = W3 at BK HS8 ⊢
        have hI3 := HI1.out.below HS8
        have hB3 := below_step HB1.out HS8
        have hV3 := Kd.S_below (Kd.S_keep (Kd.S_drewN (Kd.S_mono (Kd.S_bound HV.out) (fun k_ hk_ => (⟨hk_.1, Nat.not_le.2 hk_.2.2.1⟩ : k_ ≠ w.heap.size ∧ ¬ wr.heap.size ≤ k_))) nq) HK1.out (fun _ h => h.1)) HS8
        clear HS8 BK hgb hfz0 hfz1 hfz2 hfz3 hfz4 hfz5 hfz6 hfz7 hc0 hc1 hc2 hc3 hc4 hc5 hc6 hc7 HBX HBB HGB k0 k1 k2 cC
        have y0 := cellS71_0 hI3.1
        have y1 := cellS71_1 hI3.1
        have y2 := cellS71_2 hI3.1
        have HI3 := Lib.hid hI3
        have HB3 := Lib.hid hB3
        have HV3 := Lib.hid hV3
        clear hI3 hB3 hV3
        have hD : Net.decR okA (Net.lb s) gk (4096 - xs.length) a = ([], a, 2) := by
          obtain ⟨m, hm⟩ : ∃ m, gk = m + 1 := ⟨gk - 1, by have := HF.out; have := HA.out; omega⟩
          have hl : a < (Net.lb s).length := by
            have := Lib.size_eq s
            have := HA.out
            show a < s.data.toList.length
            omega
          rw [hm, Net.decR, if_pos hl, HST.out]
        have g1 := HG1.out
        have g2 := HG2.out
        have g3 := HG3.out
        rw [hD] at g1 g2 g3
        have e1 : L = xs := by rw [g1]; simp
        have e2 : n = a := g2
        have e3 : e = 2 := g3
        subst e1 e2 e3
        clear hD g1 g2 g3 HG1 HG2 HG3 H1 H2 H3
        go_wp2
        go_ret3
        exact ⟨_, rfl, Kd.S_mono HV3.out (fun _ _ => trivial), HB3.out⟩
      | some r =>
        obtain ⟨st, b⟩ := r
        rw [hst] at cS
        obtain ⟨hf, hab, hbs, hRt⟩ := cS
        generalize hxx : ofSt st = x at hf hRt
        have cC := script_reader_step.calls k w.heap.size s (a : Int) false x.f0 x.f1 x.f2 x.f3 x.f4 x.f5 x.f6 x.f7 s b false w (wr.drewN nq) (IsS71.drewN HI.out nq) (pw_below_drewN HB.out nq) hf HT HP HE
        have HST := Lib.hid hst
        have HXX := Lib.hid hxx
        have HRT := Lib.hid hRt
        have HAB := Lib.hid hab
        have HBS := Lib.hid hbs
        clear hst hf hxx hRt hab hbs
        go_upto_region 8 with (first
          | (go_at_call 25; refine cC.mono ?_; rintro e1 W1 ⟨v4, v7, rfl, h4, h7, hI1, hb1, hk1⟩; obtain ⟨A4, c4, rfl⟩ := Kd.R_slice h4; obtain ⟨A7, c7, rfl⟩ := Kd.R_slice h7; have HI1 := Lib.hid hI1; have HB1 := Lib.hid hb1; have HK1 := Lib.hid hk1; have H4 := Lib.hid h4; have H7 := Lib.hid h7; clear h4 h7 hI1 hb1 hk1)
          | ((with_reducible refine gate_dst (N := 8) rfl ?_); (try (refine gate_guard (by rfl) ?_; dsimp only)); refine box_event ?hg (N := 8) ?hd (cs := #[.int .i64 0, .string (⟨#[]⟩ : ByteArray), .string (⟨#[]⟩ : ByteArray), .bool false, .slice none 0 0, .string (⟨#[]⟩ : ByteArray), .string (⟨#[]⟩ : ByteArray), .slice none 0 0]) (t := 29) ?hr ?_; (case hd => rfl); (case hg => rfl); (case hr => first | (go_simp; done) | (go_simp; rfl)); intro gb hg W2 hbox hb; have hfz0 := blk_frozen hbox 0; have hfz1 := blk_frozen hbox 1; have hfz2 := blk_frozen hbox 2; have hfz3 := blk_frozen hbox 3; have hfz4 := blk_frozen hbox 4; have hfz5 := blk_frozen hbox 5; have hfz6 := blk_frozen hbox 6; have hfz7 := blk_frozen hbox 7; have hc0 := blk_cell hbox 0; have hc1 := blk_cell hbox 1; have hc2 := blk_cell hbox 2; have hc3 := blk_cell hbox 3; have hc4 := blk_cell hbox 4; have hc5 := blk_cell hbox 5; have hc6 := blk_cell hbox 6; have hc7 := blk_cell hbox 7; have HBX := Lib.hid hbox; have HBB := Lib.hid hb; have HGB := Lib.hid hg; clear hbox hb hg))
        have hgb : gb = W1.heap.size := HGB.out
        have BK := blk_put8 HBX.out (.int .i64 x.f0) (.string x.f1) (.string x.f2) (.bool x.f3) (.slice A4 x.f4.length c4) (.string x.f5) (.string x.f6) (.slice A7 x.f7.length c7)
        have HS8 := below_set8 HBB.out (by omega : W1.heap.size ≤ gb) (.int .i64 x.f0) (.string x.f1) (.string x.f2) (.bool x.f3) (.slice A4 x.f4.length c4) (.string x.f5) (.string x.f6) (.slice A7 x.f7.length c7)
        generalize ((((((((W2.setCell ⟨gb, 0, none⟩ (.int .i64 x.f0)).setCell ⟨gb, 1, none⟩ (.string x.f1)).setCell ⟨gb, 2, none⟩ (.string x.f2)).setCell ⟨gb, 3, none⟩ (.bool x.f3)).setCell ⟨gb, 4, none⟩ (.slice A4 x.f4.length c4)).setCell ⟨gb, 5, none⟩ (.string x.f5)).setCell ⟨gb, 6, none⟩ (.string x.f6)).setCell ⟨gb, 7, none⟩ (.slice A7 x.f7.length c7)) = W3 at BK HS8 ⊢
        have hI3 := HI1.out.below HS8
        have hB3 := below_step HB1.out HS8
        have hV3 := Kd.S_below (Kd.S_keep (Kd.S_drewN (Kd.S_mono (Kd.S_bound HV.out) (fun k_ hk_ => (⟨hk_.1, Nat.not_le.2 hk_.2.2.1⟩ : k_ ≠ w.heap.size ∧ ¬ wr.heap.size ≤ k_))) nq) HK1.out (fun _ h => h.1)) HS8
        have h43 := Kd.R_below H4.out HS8
        have h73 := Kd.R_below H7.out HS8
        have hN : wr.heap.size ≤ W3.heap.size := by have := HK1.out.1; have := HS8.size; simp at *; omega
        clear HS8 hgb hfz0 hfz1 hfz2 hfz3 hfz4 hfz5 hfz6 hfz7 hc0 hc1 hc2 hc3 hc4 hc5 hc6 hc7 HBX HBB HGB k0 k1 k2 cC
        have y0 := cellS71_0 hI3.1
        have y1 := cellS71_1 hI3.1
        have y2 := cellS71_2 hI3.1
        have HI3 := Lib.hid hI3
        have HB3 := Lib.hid hB3
        have HV3 := Lib.hid hV3
        clear hI3 hB3 hV3
        have hxl := HX.out
        have hlt : a < (Net.lb s).length := by
          have := Lib.size_eq s
          have := HA.out
          show a < s.data.toList.length
          omega
        obtain ⟨m, hm⟩ : ∃ m, gk = m + 1 := ⟨gk - 1, by have := HF.out; have := HA.out; omega⟩
        subst hm
        have z0 := blk_cell BK 0
        have z1 := blk_cell BK 1
        have z2 := blk_cell BK 2
        have z3 := blk_cell BK 3
        have z4 := blk_cell BK 4
        have z5 := blk_cell BK 5
        have z6 := blk_cell BK 6
        have z7 := blk_cell BK 7
        have cR := script_Step_Right.calls k x.f0 x.f1 x.f2 x.f3 A4 c4 x.f4 x.f5 x.f6 A7 c7 x.f7 (Net.right okA st) W3 (Kd.R_reads' h43).2.2 (Kd.R_reads' h43).2.1 (Kd.R_reads' h73).2.2 (Kd.R_reads' h73).2.1 HRT.out (Tab_.step HT HB3.out) (TabP_.step HP HB3.out) (TabE_.step HE HB3.out)
        have BK3 := Lib.hid BK
        have H43 := Lib.hid h43
        have H73 := Lib.hid h73
        have HNN := Lib.hid hN
        have HLT := Lib.hid hlt
        clear BK h43 h73 hN hlt
        by_cases hRx : Net.right okA st = true
        · rw [hRx] at cR
          have HRX := Lib.hid hRx
          clear hRx
          by_cases hfull : xs.length = 4096
          · have hD : Net.decR okA (Net.lb s) (m + 1) (4096 - xs.length) a = ([], a, 4) := by
              rw [Net.decR, if_pos HLT.out, HST.out]
              show (if Net.right okA st = true then _ else _) = _
              rw [if_pos HRX.out, if_pos (by omega)]
            have g1 := HG1.out
            have g2 := HG2.out
            have g3 := HG3.out
            rw [hD] at g1 g2 g3
            have e1 : L = xs := by rw [g1]; simp
            have e2 : n = a := g2
            have e3 : e = 4 := g3
            subst e1 e2 e3
            have q1 : ((L.length : Int) == 4096) = true := by rw [hfull]; rfl
            clear hD g1 g2 g3 HG1 HG2 HG3 H1 H2 H3 hfull hxl HX
            go_wp2_with ((go_at_call 11; refine cR.mono ?_; rintro e1 W5 ⟨rfl, b5⟩; have HB5 := Lib.hid (below_step HB3.out b5); have HV5 := Lib.hid (Kd.S_below HV3.out b5); clear b5))
            go_ret3
            exact ⟨_, rfl, Kd.S_mono HV5.out (fun _ _ => trivial), HB5.out⟩
          · have q1 : ((xs.length : Int) == 4096) = false := by
              rw [beq_eq_false_iff_ne]
              omega
            have q2 : (xs.length : Int) ≤ 4095 := by omega
            have hD : Net.decR okA (Net.lb s) (m + 1) (4096 - xs.length) a = (st :: (Net.decR okA (Net.lb s) m (4096 - (xs.length + 1)) b).1, (Net.decR okA (Net.lb s) m (4096 - (xs.length + 1)) b).2.1, (Net.decR okA (Net.lb s) m (4096 - (xs.length + 1)) b).2.2) := by
              rw [Net.decR, if_pos HLT.out, HST.out]
              show (if Net.right okA st = true then _ else _) = _
              rw [if_pos HRX.out, if_neg (by omega), show 4096 - xs.length - 1 = 4096 - (xs.length + 1) by omega]
            have g1 := HG1.out
            have g2 := HG2.out
            have g3 := HG3.out
            rw [hD] at g1 g2 g3
            rw [List.map_cons, HXX.out] at g1
            have HG4 := Lib.hid g1
            have HG5 := Lib.hid g2
            have HG6 := Lib.hid g3
            have hx5 : xs.length ≤ 4095 := by omega
            have HX5 := Lib.hid hx5
            clear hD g1 g2 g3 HG1 HG2 HG3 H1 H2 H3 hfull hxl HX hx5
            go_wp2_with (first
              | (go_at_call 11; refine cR.mono ?_; rintro e1 W5 ⟨rfl, b5⟩; have BK5 := blk_below BK3.out b5; have t0 := blk_cell BK5 0; have t1 := blk_cell BK5 1; have t2 := blk_cell BK5 2; have t3 := blk_cell BK5 3; have t4 := blk_cell BK5 4; have t5 := blk_cell BK5 5; have t6 := blk_cell BK5 6; have t7 := blk_cell BK5 7; have HB5 := Lib.hid (below_step HB3.out b5); have HV5 := Lib.hid (Kd.S_below HV3.out b5); have HI5 := Lib.hid (HI3.out.below b5); have H45 := Lib.hid (Kd.R_below H43.out b5); have H75 := Lib.hid (Kd.R_below H73.out b5); clear b5 BK5)
              | (at_builtin; refine Kd.S_append k29 (w0 := w) w.heap.size rfl (.tmp 48) (.tmp 50) 22 29 _ 128 rfl Tryz.underlying22 info29 rfl (by decide) (by decide) (.slice Ax xs.length cx) xs x [.int .i64 x.f0, .string x.f1, .string x.f2, .bool x.f3, .slice A4 x.f4.length c4, .string x.f5, .string x.f6, .slice A7 x.f7.length c7] (fun k_ => k_ ≠ w.heap.size) (fun k_ => wr.heap.size ≤ k_) rfl rfl ?c1 ?c2 ?c3 HV5.out HB5.out HB5.out.size ?c4 ?_))
            case c1 => exact k29_mkM _ _ _ x (Kd.R_lower (Kd.R_mono (Kd.R_bound H45.out) (fun _ hk => hk.2.1)) HB.out.size) (Kd.R_lower (Kd.R_mono (Kd.R_bound H75.out) (fun _ hk => hk.2.1)) HB.out.size)
            case c2 => exact fun k_ hk_ => ⟨by have := HI.out.lt; omega, fun he => by have := Kd.S_lt HV.out k_ he.symm; omega⟩
            case c3 => exact fun k_ hk_ => by have := HI5.out.lt; omega
            case c4 => have := HX5.out; omega
            intro v1 W6 hv1 hb1 hg1 hat
            have hI6 := HI5.out.grown hg1 (IsS71.own_neS HI.out HV.out (by decide))
            have HI6 := Lib.hid hI6
            have HV6 := Lib.hid hv1
            have HB6 := Lib.hid hb1
            clear hI6 hv1 hb1 hg1 hat
            go_wp2
            go_roundg m
            case measure => omega
            case rel =>
              refine ⟨b, xs ++ [x], ?_, HBS.out, ?_, ?_, ?_, ?_, HI6.out, HV6.out, HB6.out⟩
              · rw [List.length_append]
                have := HX5.out
                simp
                omega
              · have := HF.out
                have := HAB.out HRX.out
                omega
              · rw [HG4.out, List.length_append, List.append_assoc]
                rfl
              · rw [HG5.out, List.length_append]
                rfl
              · rw [HG6.out, List.length_append]
                rfl
        · have hRf : Net.right okA st = false := by simpa using hRx
          rw [hRf] at cR
          have hD : Net.decR okA (Net.lb s) (m + 1) (4096 - xs.length) a = ([], a, 2) := by
            rw [Net.decR, if_pos HLT.out, HST.out]
            show (if Net.right okA st = true then _ else _) = _
            rw [if_neg hRx]
          have g1 := HG1.out
          have g2 := HG2.out
          have g3 := HG3.out
          rw [hD] at g1 g2 g3
          have e1 : L = xs := by rw [g1]; simp
          have e2 : n = a := g2
          have e3 : e = 2 := g3
          subst e1 e2 e3
          clear hD g1 g2 g3 HG1 HG2 HG3 H1 H2 H3 hRx hRf hxl HX
          go_wp2_with ((go_at_call 11; refine cR.mono ?_; rintro e1 W5 ⟨rfl, b5⟩; have HB5 := Lib.hid (below_step HB3.out b5); have HV5 := Lib.hid (Kd.S_below HV3.out b5); clear b5))
          go_ret3
          exact ⟨_, rfl, Kd.S_mono HV5.out (fun _ _ => trivial), HB5.out⟩
    · have q0 : decide (a < s.size) = false := decide_eq_false hlt
      have hD : Net.decR okA (Net.lb s) gk (4096 - xs.length) a = ([], a, 0) := by
        obtain ⟨m, rfl⟩ : ∃ m, gk = m + 1 := ⟨gk - 1, by omega⟩
        have : ¬ a < (Net.lb s).length := by
          have := Lib.size_eq s
          show ¬ a < s.data.toList.length
          omega
        rw [Net.decR, if_neg this]
      rw [hD] at g1 g2 g3
      have e1 : L = xs := by rw [g1]; simp
      have e2 : n = a := g2
      have e3 : e = 0 := g3
      subst e1 e2 e3
      clear hD g1 g2 g3 hf hlt ha hx H1 H2 H3
      go_wp2
      go_quiet (fail)
      go_wp2
      go_quiet (fail)
      go_wp2
      go_ret3
      exact ⟨_, rfl, Kd.S_mono (Kd.S_drewN (Kd.S_drewN HV.out _) _) (fun _ _ => trivial), pw_below_drewN (pw_below_drewN HB.out _) _⟩
end Go.Proofs.YtdhpcofnddkcaaaGreatDoor.S
namespace Go.Proofs.YtdhpcofnddkcaaaGreatDoor.S
open Go.RowKit Go.Proofs.YtdhpcofnddkcaaaGreatDoor.G Go.Proofs.YtdhpcofnddkcaaaGreatDoorW.PrintWords Go.Proofs.YtdhpcofnddkcaaaGreatDoorW.PrintLast Go.Proofs.YtdhpcofnddkcaaaGreatDoorW.PrintMore
set_option linter.unusedVariables false
set_option linter.unusedSimpArgs false
theorem rd44 (l : List S44) (i : Nat) (h : i < l.length) : rd_T44 l (i : Int) = l[i] := by
  unfold rd_T44
  rw [Int.toNat_natCast, List.getD_eq_getElem?_getD, List.getElem?_eq_getElem h]
  rfl
def okS (a : S44) : Bool := okA (toAr a)
theorem flag_ok (a : S44) : (valF a.f1 a.f2).2.2.2.2.2.2.2.2.2.2.2.2 = okS a := valF_ok a.f0 a.f1 a.f2
theorem drop_all (l : List S44) (i : Nat) (h : i < l.length) : (l.drop i).all okS = (okS l[i] && (l.drop (i + 1)).all okS) := by
  rw [List.drop_eq_getElem_cons h, List.all_cons]
theorem right_loop (l : List S44) (hl : l.length ≤ 1000000) (hs : ∀ a ∈ l, a.f2.size ≤ 100000) : ∀ (d i : Nat), l.length - i ≤ d → i ≤ l.length → script_Step_Right.l0 (d + 1) l (l.length : Int) (i : Int) = some ((l.drop i).all okS) := by
  intro d
  induction d with
  | zero =>
    intro i h1 h2
    rw [script_Step_Right.l0, if_neg (by omega), List.drop_of_length_le (by omega)]
    rfl
  | succ d ih =>
    intro i h1 h2
    by_cases hi : i < l.length
    · rw [script_Step_Right.l0, if_pos (by omega), if_pos (by omega), if_pos (by omega), rd44 l i hi, value_f _ _ _ (hs _ (List.getElem_mem hi)), Option.bind_some, flag_ok, drop_all l i hi]
      cases h : okS l[i]
      · rfl
      · rw [if_pos rfl, w64 _ (by omega) (by omega), show (i : Int) + 1 = ((i + 1 : Nat) : Int) by omega, ih (i + 1) (by omega) (by omega)]
        rfl
    · rw [script_Step_Right.l0, if_neg (by omega), List.drop_of_length_le (by omega)]
      rfl
theorem lright_loop (l : List S44) (hl : l.length ≤ 1000000) (hs : ∀ a ∈ l, a.f2.size ≤ 100000) : ∃ k0, ∀ k, k0 ≤ k → ∀ a ∈ l, polyglotlaw18_Value.f k a.f0 a.f1 a.f2 = some (valF a.f1 a.f2) := by
  induction l with
  | nil => exact ⟨0, fun k _ a ha => by cases ha⟩
  | cons a t ih =>
    obtain ⟨k1, h1⟩ := ih (by simp at hl; omega) (fun x hx => hs x (.tail _ hx))
    obtain ⟨k2, h2⟩ := lvalue_f a.f0 a.f1 a.f2 (hs a (.head _))
    refine ⟨max k1 k2, fun k hk x hx => ?_⟩
    rcases List.mem_cons.1 hx with rfl | hx
    · exact h2 k (by omega)
    · exact h1 k (by omega) x hx
def rightS (s : S29) : Bool := Net.right okA (toSt s)
theorem toSt_all (l : List S44) : (l.map toAr).all okA = l.all okS := by
  rw [List.all_map]
  rfl
theorem em_iff (s : ByteArray) : s = Net.em ↔ s.toList = ([] : List UInt8) := by
  rw [tl]
  exact ⟨fun h => by rw [h]; rfl, fun h => ba_ext h⟩
theorem map_nil_iff (l : List S44) : l.map toAr = [] ↔ (l.length : Int) = 0 := by
  cases l with
  | nil => simp
  | cons a t => simp; omega
theorem len_nil_iff (l : List ByteArray) : l = [] ↔ (l.length : Int) = 0 := by
  cases l with
  | nil => simp
  | cons a t => simp; omega
def shapeS (s : S29) : Bool :=
  if s.f0 = 0 then decide (s.f5 = Net.em ∧ s.f6 = Net.em ∧ s.f7.map toAr = [] ∧ s.f4 = []) else if s.f0 = 1 then decide (s.f5 = Net.em ∧ s.f6 = Net.em ∧ s.f7.map toAr = [] ∧ s.f2 = Net.em ∧ s.f3 = false)
  else if s.f0 = 2 then decide (s.f2 = Net.em ∧ s.f3 = false ∧ s.f1 = Net.em ∧ s.f4 = []) else false
theorem rightS_eq (s : S29) : rightS s = (s.f7.all okS && shapeS s) := by
  unfold rightS
  show ((s.f7.map toAr).all okA && _) = _
  rw [toSt_all]
  rfl
theorem right_f (s : S29) (k : Nat) (hk : s.f7.length + 2 ≤ k) (hl : s.f7.length ≤ 1000000) (hs : ∀ a ∈ s.f7, a.f2.size ≤ 100000) :
    script_Step_Right.f k s.f0 s.f1 s.f2 s.f3 s.f4 s.f5 s.f6 s.f7 = some (rightS s) := by
  obtain ⟨m, rfl⟩ : ∃ m, k = m + 1 := ⟨k - 1, by omega⟩
  have hj0 : script_Step_Right.j0 (m + 1) true s.f0 s.f1 s.f2 s.f3 s.f4 s.f5 s.f6 s.f7 = some false := by rw [script_Step_Right.j0, if_pos rfl]
  have hj1 : script_Step_Right.j0 (m + 1) false s.f0 s.f1 s.f2 s.f3 s.f4 s.f5 s.f6 s.f7 = some (s.f7.all okS) := by
    obtain ⟨d, rfl⟩ : ∃ d, m = d + 1 := ⟨m - 1, by omega⟩
    have := right_loop s.f7 hl hs d 0 (by omega) (by omega)
    rw [List.drop_zero] at this
    rw [script_Step_Right.j0, if_neg (by decide)]
    exact this
  rw [rightS_eq]
  unfold script_Step_Right.f shapeS
  simp only [em_iff, map_nil_iff, len_nil_iff]
  have h4 : (s.f4.length : Int) = 0 ∨ (s.f4.length : Int) > 0 := by omega
  have h7 : (s.f7.length : Int) = 0 ∨ (s.f7.length : Int) > 0 := by omega
  generalize (s.f7.length : Int) = n7 at *
  generalize s.f7.all okS = A at *
  generalize (s.f4.length : Int) = n4 at *
  obtain ⟨f0, f1, f2, f3, f4, f5, f6, f7⟩ := s
  have hD : ∀ n : Int, n = 0 ∨ n > 0 → decide (n > 0) = !decide (n = 0) := by
    intro n hn
    rcases hn with rfl | h
    · rfl
    · rw [decide_eq_true h, decide_eq_false (by omega)]
      rfl
  have hJ : ∀ b : Bool, script_Step_Right.j0 (m + 1) b f0 f1 f2 f3 f4 f5 f6 f7 = some (!b && A) := by
    intro b
    cases b
    · rw [hj1]; rfl
    · rw [hj0]; rfl
  simp only [hJ, hD n7 h7, hD n4 h4] at *
  clear hj0 hj1 hJ hD hl hs hk
  have e4 : (n4 > 0) = ¬ (n4 = 0) := by
    rw [eq_iff_iff]
    omega
  have e7 : (n7 > 0) = ¬ (n7 = 0) := by
    rw [eq_iff_iff]
    omega
  simp only [e4, e7] at *
  have hf : f0 = 0 ∨ f0 = 1 ∨ f0 = 2 ∨ f0 < 0 ∨ f0 > 2 := by omega
  rcases hf with rfl | rfl | rfl | h | h
  · by_cases c4 : n4 = 0 <;> by_cases c5 : f5.toList = [] <;> by_cases c6 : f6.toList = [] <;> by_cases c7 : n7 = 0 <;> simp [c4, c5, c6, c7]
  · cases f3 <;> by_cases c2 : f2.toList = [] <;> by_cases c5 : f5.toList = [] <;> by_cases c6 : f6.toList = [] <;> by_cases c7 : n7 = 0 <;> simp [c2, c5, c6, c7]
  · cases f3 <;> by_cases c2 : f2.toList = [] <;> by_cases c1 : f1.toList = [] <;> by_cases c4 : n4 = 0 <;> simp [c1, c2, c4]
  · rw [if_pos h, if_neg (by omega), if_neg (by omega), if_neg (by omega)]
    simp
  · rw [if_neg (by omega), if_pos h, if_neg (by omega), if_neg (by omega), if_neg (by omega)]
    simp
end Go.Proofs.YtdhpcofnddkcaaaGreatDoor.S
namespace Go.Proofs.YtdhpcofnddkcaaaGreatDoor.S
open Go.RowKit Go.Proofs.YtdhpcofnddkcaaaGreatDoor.G Go.Proofs.YtdhpcofnddkcaaaGreatDoorW.PrintWords Go.Proofs.YtdhpcofnddkcaaaGreatDoorW.PrintLast Go.Proofs.YtdhpcofnddkcaaaGreatDoorW.PrintMore
set_option linter.unusedVariables false
set_option linter.unusedSimpArgs false
theorem dig20 (n0 : Nat) (ht : n0 ≤ 1000000) : (Lib.decDigits n0).length ≤ 20 := by
  rw [Lib.decDigits_length]
  have : ∀ (n u : Nat), u ≤ n → Lib.nDigits u ≤ u + 1 := by
    intro n
    induction n with
    | zero =>
      intro u hu
      rw [Lib.nDigits_small (by omega)]
      omega
    | succ n ih =>
      intro u hu
      by_cases h : u < 10
      · rw [Lib.nDigits_small h]; omega
      · rw [Lib.nDigits_big h]
        have := ih (u / 10) (by omega)
        omega
  have h1 : Lib.nDigits n0 ≤ 7 := by
    rcases Nat.lt_or_ge n0 1000000 with h | h
    · rcases Nat.lt_or_ge (Lib.nDigits n0) 8 with h2 | h2
      · omega
      · exfalso
        have key : ∀ (k u : Nat), k + 1 < Lib.nDigits u → 10 ^ (k + 1) ≤ u := by
          intro k
          induction k with
          | zero =>
            intro u hk
            by_cases h : u < 10
            · rw [Lib.nDigits_small h] at hk; omega
            · omega
          | succ k ih =>
            intro u hk
            by_cases h : u < 10
            · rw [Lib.nDigits_small h] at hk; omega
            · rw [Lib.nDigits_big h] at hk
              have := ih (u / 10) (by omega)
              rw [Nat.pow_succ]
              omega
        have := key 6 n0 (by omega)
        omega
    · have : n0 = 1000000 := by omega
      rw [this]
      rw [show (1000000 : Nat) = 10 ^ 6 from rfl] at *
      rw [Lib.nDigits_unique 6 _ (Nat.le_refl _) (by decide)]
      decide
  omega
theorem bl_bs (l : List UInt8) : bl (Net.bs l) = l := Net.lb_bs l
theorem bs_app (a b : List UInt8) : Net.bs a ++ Net.bs b = Net.bs (a ++ b) := ba_ext (by rw [bl_app, bl_bs, bl_bs, bl_bs])
theorem sz_bs (l : List UInt8) : (Net.bs l).size = l.length := by rw [sz, bl_bs]
theorem encB_ge (t : ByteArray) : t.size ≤ (Net.encB t).length := by
  unfold Net.encB
  rw [Net.enc_length, sz]
  show (bl t).length ≤ _ + (bl t).length + 2
  omega
theorem itoa_f (n : Nat) (h : n ≤ 1000000) : strconv_Itoa.f (n : Int) = some (Net.itoaB n) := by
  unfold strconv_Itoa.f
  rw [if_pos (by omega), Lib.itoa_nonneg]
  rfl
theorem rightS_kind {s : S29} (h : rightS s = true) : (s.f0 = 0 ∨ s.f0 = 1 ∨ s.f0 = 2) ∧ ∀ a ∈ s.f7, a.f1 = 0 ∨ a.f1 = 1 ∨ a.f1 = 2 := by
  rw [rightS_eq] at h
  obtain ⟨h1, h2⟩ := Bool.and_eq_true _ _ ▸ h
  refine ⟨?_, fun a ha => okA_kind _ (List.all_eq_true.1 h1 a ha)⟩
  unfold shapeS at h2
  split at h2
  · rename_i c; exact Or.inl c
  · split at h2
    · rename_i c; exact Or.inr (Or.inl c)
    · split at h2
      · rename_i c; exact Or.inr (Or.inr c)
      · cases h2
theorem part_f (t : ByteArray) (ht : t.size ≤ 1000000) : script_part.f t = some (Net.bs (Net.encB t)) := by
  have hz : t.size = (bl t).length := sz t
  unfold script_part.f strconv_Itoa.f
  rw [if_pos (by omega), Option.bind_some, Lib.itoa_nonneg]
  have hd := dig20 t.size ht
  have h1 : (⟨(Lib.decDigits t.size).toArray⟩ : ByteArray).size = (Lib.decDigits t.size).length := sz _
  rw [if_pos (by rw [h1]; omega), if_pos (by rw [sz_app, h1]; show _ + 1 + _ ≤ _; omega), if_pos (by rw [sz_app, sz_app, h1]; show _ + 1 + _ + 1 ≤ _; omega)]
  refine congrArg some (ba_ext ?_)
  rw [bl_app, bl_app, bl_app]
  show Lib.decDigits t.size ++ [58] ++ bl t ++ [44] = bl (Net.bs (Net.encB t))
  have : bl (Net.bs (Net.encB t)) = Net.encB t := Net.lb_bs _
  rw [this]
  unfold Net.encB Net.enc
  rw [hz]
  simp
theorem tnm_enc (k : Int) (h : k = 0 ∨ k = 1 ∨ k = 2) : Utf8.encode (bt (⟨#[116, 110, 109]⟩ : ByteArray) k) = Net.tnm k := by
  rcases h with rfl | rfl | rfl <;> decide
theorem parts_l0 (l : List S44) (hl : l.length ≤ 1000000) (hk : ∀ a ∈ l, a.f1 = 0 ∨ a.f1 = 1 ∨ a.f1 = 2) : ∀ (d i : Nat) (acc : List ByteArray), l.length - i ≤ d → i ≤ l.length → acc.length ≤ 10 + 3 * i → ∀ k, d + 1 ≤ k →
    script_Step_parts.l0 k acc l (l.length : Int) (i : Int) = some (acc ++ Net.argsT ((l.drop i).map toAr)) := by
  intro d
  induction d with
  | zero =>
    intro i acc h1 h2 h3 k hkk
    obtain ⟨m, rfl⟩ : ∃ m, k = m + 1 := ⟨k - 1, by omega⟩
    rw [script_Step_parts.l0, if_neg (by omega), List.drop_of_length_le (by omega)]
    show _ = some (acc ++ [])
    rw [List.append_nil]
  | succ d ih =>
    intro i acc h1 h2 h3 k hkk
    obtain ⟨m, rfl⟩ : ∃ m, k = m + 1 := ⟨k - 1, by omega⟩
    by_cases hi : i < l.length
    · have hki := hk _ (List.getElem_mem hi)
      rw [script_Step_parts.l0, if_pos (by omega), if_pos (by omega), if_pos (by omega), rd44 l i hi, if_pos (by omega), if_pos (by omega), Option.bind_some, if_pos (by show acc.length + 3 < _; omega), tnm_enc _ hki, w64 _ (by omega) (by omega),
        show (i : Int) + 1 = ((i + 1 : Nat) : Int) by omega, ih (i + 1) _ (by omega) (by omega) (by rw [List.length_append]; show _ + 3 ≤ _; omega) m (by omega), List.drop_eq_getElem_cons hi, List.map_cons, Net.argsT_cons, List.append_assoc]
      rfl
    · rw [script_Step_parts.l0, if_neg (by omega), List.drop_of_length_le (by omega)]
      show _ = some (acc ++ [])
      rw [List.append_nil]
theorem parts_f (s : S29) (hr : rightS s = true) (hl : s.f7.length ≤ 1000000) (hw : s.f4.length ≤ 1000000) (k : Nat) (hk : s.f7.length + 2 ≤ k) :
    script_Step_parts.f k s.f0 s.f1 s.f2 s.f3 s.f4 s.f5 s.f6 s.f7 = some (Net.parts (toSt s)) := by
  obtain ⟨hk0, hk7⟩ := rightS_kind hr
  obtain ⟨f0, f1, f2, f3, f4, f5, f6, f7⟩ := s
  simp only at *
  unfold script_Step_parts.f
  show _ = some (if f0 = 0 then [Net.cA, f1, if f3 = true then Net.c1 else Net.c0, f2] else if f0 = 1 then [Net.cC, f1, Net.itoaB f4.length] ++ f4 else [Net.cQ, f5, f6, Net.itoaB (f7.map toAr).length] ++ Net.argsT (f7.map toAr))
  by_cases h0 : f0 = 0
  · rw [if_pos h0, if_pos h0]
    cases f3 <;> rfl
  · rw [if_neg h0, if_neg h0]
    by_cases h1 : f0 = 1
    · rw [if_pos h1, if_pos h1, itoa_f _ (by omega), Option.bind_some, Option.bind_some, if_pos (by show 3 + _ < _; omega)]
      rfl
    · rw [if_neg h1, if_neg h1, itoa_f _ (by omega), Option.bind_some, List.length_map]
      have := parts_l0 f7 (by omega) hk7 f7.length 0 [(⟨#[113]⟩ : ByteArray), f5, f6, Net.itoaB f7.length] (by omega) (by omega) (by show 4 ≤ 10 + 3 * 0; omega) k (by omega)
      rw [List.drop_zero] at this
      exact this
theorem toAr_of (a : Net.Ar) : toAr (ofAr a) = a := rfl
theorem toSt_of (s : Net.St) : toSt (ofSt s) = s := by
  obtain ⟨k, tag, by_, ov, ws, nm, at_, ags⟩ := s
  show (k, tag, by_, ov, ws, nm, at_, (ags.map ofAr).map toAr) = _
  rw [List.map_map]
  have : (toAr ∘ ofAr) = id := rfl
  rw [this, List.map_id]
end Go.Proofs.YtdhpcofnddkcaaaGreatDoor.S
namespace Go.Proofs.YtdhpcofnddkcaaaGreatDoor.S
open Go.RowKit Go.Proofs.YtdhpcofnddkcaaaGreatDoor.G Go.Proofs.YtdhpcofnddkcaaaGreatDoorW.PrintWords Go.Proofs.YtdhpcofnddkcaaaGreatDoorW.PrintLast Go.Proofs.YtdhpcofnddkcaaaGreatDoorW.PrintMore
set_option linter.unusedVariables false
set_option linter.unusedSimpArgs false
theorem tx_none (s : ByteArray) (hs : s.size ≤ 1000000) (a : Nat) (ha : a ≤ s.size) : script_reader_text.f s (a : Int) true = some (Net.em, s, (a : Int), true) := by
  unfold script_reader_text.f
  rw [if_pos ⟨hs, by omega, by omega⟩, if_pos rfl]
  rfl
theorem tx_fail (s : ByteArray) (hs : s.size ≤ 1000000) (a : Nat) (ha : a ≤ s.size) (h : Net.rdB (bl s) a = none) : script_reader_text.f s (a : Int) false = some (Net.em, s, (a : Int), true) := by
  unfold script_reader_text.f
  rw [if_pos ⟨hs, by omega, by omega⟩, if_neg (by decide), Int.toNat_natCast]
  show (match Net.rdB (bl s) a with | some (p, b) => _ | none => _) = _
  rw [h]
  rfl
theorem tx_ok (s : ByteArray) (hs : s.size ≤ 1000000) (a : Nat) (ha : a ≤ s.size) {p : ByteArray} {b : Nat} (h : Net.rdB (bl s) a = some (p, b)) : script_reader_text.f s (a : Int) false = some (p, s, (b : Int), false) ∧ b ≤ s.size := by
  have hz : s.size = (bl s).length := sz s
  refine ⟨?_, ?_⟩
  · unfold script_reader_text.f
    rw [if_pos ⟨hs, by omega, by omega⟩, if_neg (by decide), Int.toNat_natCast]
    show (match Net.rdB (bl s) a with | some (p, b) => _ | none => _) = _
    rw [h]
  · obtain ⟨_, h2, h3⟩ := Net.rdB_sound h
    have := Net.drop_le h3 (by omega)
    omega
theorem cnt_em : Net.cnt (bl Net.em) = none := by
  cases h : Net.cnt (bl Net.em) with
  | none => rfl
  | some n => exact absurd (Net.cnt_some h).2.symm (Net.dec_ne n)
theorem count_none {p : ByteArray} (hp : p.size ≤ 281474976710656) (h : Net.cnt (bl p) = none) : ∃ v, script_count.f p = some (v, false) := by
  obtain ⟨v, b, h1, h2⟩ := count_cnt p hp
  have h2' : (match Net.cnt (bl p) with | some n => v = (n : Int) ∧ b = true | none => b = false) := h2
  rw [h] at h2'
  have : b = false := h2'
  subst this
  exact ⟨v, h1⟩
theorem count_some {p : ByteArray} {n : Nat} (hp : p.size ≤ 281474976710656) (h : Net.cnt (bl p) = some n) : script_count.f p = some ((n : Int), true) := by
  obtain ⟨v, b, h1, h2⟩ := count_cnt p hp
  have h2' : (match Net.cnt (bl p) with | some n => v = (n : Int) ∧ b = true | none => b = false) := h2
  rw [h] at h2'
  obtain ⟨rfl, rfl⟩ : v = (n : Int) ∧ b = true := h2'
  exact h1
theorem num_none (s : ByteArray) (hs : s.size ≤ 1000000) (a : Nat) (ha : a ≤ s.size) : script_reader_number.f s (a : Int) true = some (0, s, (a : Int), true) := by
  obtain ⟨v, hv⟩ := count_none (p := Net.em) (by decide) cnt_em
  unfold script_reader_number.f
  rw [tx_none s hs a ha, Option.bind_some, hv, Option.bind_some]
  rfl
theorem num_fail (s : ByteArray) (hs : s.size ≤ 1000000) (a : Nat) (ha : a ≤ s.size) (h : Net.rdB (bl s) a = none) : script_reader_number.f s (a : Int) false = some (0, s, (a : Int), true) := by
  obtain ⟨v, hv⟩ := count_none (p := Net.em) (by decide) cnt_em
  unfold script_reader_number.f
  rw [tx_fail s hs a ha h, Option.bind_some, hv, Option.bind_some]
  rfl
theorem num_no (s : ByteArray) (hs : s.size ≤ 1000000) (a : Nat) (ha : a ≤ s.size) {p : ByteArray} {b : Nat} (h : Net.rdB (bl s) a = some (p, b)) (hc : Net.cnt (bl p) = none) : script_reader_number.f s (a : Int) false = some (0, s, (b : Int), true) ∧ b ≤ s.size := by
  obtain ⟨h1, h2⟩ := tx_ok s hs a ha h
  obtain ⟨v, hv⟩ := count_none (p := p) (by
    have h3 : (bl p).length ≤ 262144 := (Net.rdB_sound h).1
    have := sz p
    omega) hc
  refine ⟨?_, h2⟩
  unfold script_reader_number.f
  rw [h1, Option.bind_some, hv, Option.bind_some]
  rfl
theorem num_ok (s : ByteArray) (hs : s.size ≤ 1000000) (a : Nat) (ha : a ≤ s.size) {p : ByteArray} {b n : Nat} (h : Net.rdB (bl s) a = some (p, b)) (hc : Net.cnt (bl p) = some n) : script_reader_number.f s (a : Int) false = some ((n : Int), s, (b : Int), false) ∧ b ≤ s.size := by
  obtain ⟨h1, h2⟩ := tx_ok s hs a ha h
  have hv := count_some (p := p) (by
    have h3 : (bl p).length ≤ 262144 := (Net.rdB_sound h).1
    have := sz p
    omega) hc
  refine ⟨?_, h2⟩
  unfold script_reader_number.f
  rw [h1, Option.bind_some, hv, Option.bind_some]
  rfl
abbrev RT := Int × ByteArray × ByteArray × Bool × List ByteArray × ByteArray × ByteArray × (List (S44)) × ByteArray × Int × Bool
def Fails (s : ByteArray) (r : Option RT) : Prop := ∃ (q : Int) (t b : ByteArray) (o : Bool) (ws : List ByteArray) (n m : ByteArray) (ags : List S44) (a : Nat), r = some (q, t, b, o, ws, n, m, ags, s, (a : Int), true)
def Reads (s : ByteArray) (st : S29) (b : Nat) (r : Option RT) : Prop := r = some (st.f0, st.f1, st.f2, st.f3, st.f4, st.f5, st.f6, st.f7, s, (b : Int), false) ∧ b ≤ s.size
theorem wish_loop (s : ByteArray) (hs : s.size ≤ 1000000) (q : Int) (t b0 : ByteArray) (o : Bool) (nm at_ : ByteArray) : ∀ (n a : Nat) (acc : List ByteArray), a ≤ s.size → acc.length + n ≤ 1000000 → ∀ k, n + 2 ≤ k →
    match Net.rdN (bl s) n a with
    | some (ws, b) => script_reader_step.l0 k (n : Int) s (a : Int) false q t b0 o acc nm at_ = some (q, t, b0, o, acc ++ ws, nm, at_, [], s, (b : Int), false) ∧ b ≤ s.size
    | none => Fails s (script_reader_step.l0 k (n : Int) s (a : Int) false q t b0 o acc nm at_) := by
  intro n
  induction n with
  | zero =>
    intro a acc ha hacc k hk
    obtain ⟨m, rfl⟩ : ∃ m, k = m + 1 := ⟨k - 1, by omega⟩
    show script_reader_step.l0 (m + 1) ((0 : Nat) : Int) s (a : Int) false q t b0 o acc nm at_ = some (q, t, b0, o, acc ++ [], nm, at_, [], s, (a : Int), false) ∧ a ≤ s.size
    rw [script_reader_step.l0, if_neg (by omega), List.append_nil]
    exact ⟨rfl, ha⟩
  | succ n ih =>
    intro a acc ha hacc k hk
    obtain ⟨m, rfl⟩ : ∃ m, k = m + 1 := ⟨k - 1, by omega⟩
    rw [Net.rdN]
    cases h : Net.rdB (bl s) a with
    | none =>
      show Fails s _
      obtain ⟨j, rfl⟩ : ∃ j, m = j + 1 := ⟨m - 1, by omega⟩
      rw [script_reader_step.l0, if_pos (by omega), if_neg (by decide), tx_fail s hs a ha h, Option.bind_some, if_pos (by omega), script_reader_step.l0]
      by_cases hp : wrap64 (((n + 1 : Nat) : Int) - 1) > 0
      · rw [if_pos hp, if_pos rfl]
        exact ⟨_, _, _, _, _, _, _, _, _, rfl⟩
      · rw [if_neg hp]
        exact ⟨_, _, _, _, _, _, _, _, _, rfl⟩
    | some r =>
      obtain ⟨p, b⟩ := r
      obtain ⟨h1, h2⟩ := tx_ok s hs a ha h
      have hstep : script_reader_step.l0 (m + 1) ((n + 1 : Nat) : Int) s (a : Int) false q t b0 o acc nm at_ = script_reader_step.l0 m (n : Int) s (b : Int) false q t b0 o (acc ++ [p]) nm at_ := by
        rw [script_reader_step.l0, if_pos (by omega), if_neg (by decide), h1, Option.bind_some, if_pos (by omega), w64 _ (by omega) (by omega), show ((n + 1 : Nat) : Int) - 1 = (n : Int) by omega]
      have := ih b (acc ++ [p]) h2 (by simp; omega) m (by omega)
      rw [hstep]
      show (match (match Net.rdN (bl s) n b with | none => none | some (ts, a2) => some (p :: ts, a2)) with
        | some (ws, b) => _
        | none => _)
      cases h3 : Net.rdN (bl s) n b with
      | none =>
        rw [h3] at this
        exact this
      | some r2 =>
        obtain ⟨ws, c⟩ := r2
        rw [h3] at this
        obtain ⟨e1, e2⟩ : _ ∧ _ := this
        refine ⟨?_, e2⟩
        rw [e1, List.append_assoc]
        rfl
end Go.Proofs.YtdhpcofnddkcaaaGreatDoor.S
namespace Go.Proofs.YtdhpcofnddkcaaaGreatDoor.S
open Go.RowKit Go.Proofs.YtdhpcofnddkcaaaGreatDoor.G Go.Proofs.YtdhpcofnddkcaaaGreatDoorW.PrintWords Go.Proofs.YtdhpcofnddkcaaaGreatDoorW.PrintLast Go.Proofs.YtdhpcofnddkcaaaGreatDoorW.PrintMore
set_option linter.unusedVariables false
set_option linter.unusedSimpArgs false
theorem arg_stop (s : ByteArray) (q : Int) (t b0 : ByteArray) (o : Bool) (nm at_ : ByteArray) (acc : List S44) (x : Int) (a : Nat) (k : Nat) (hk : 2 ≤ k) : Fails s (script_reader_step.l1 k x s (a : Int) true q t b0 o nm at_ acc) := by
  obtain ⟨m, rfl⟩ : ∃ m, k = m + 1 + 1 := ⟨k - 2, by omega⟩
  rw [script_reader_step.l1]
  by_cases h : x > 0
  · rw [if_pos h, script_reader_step.j2, if_neg (by decide)]
    exact ⟨_, _, _, _, _, _, _, _, _, rfl⟩
  · rw [if_neg h, script_reader_step.j2, if_neg (by decide)]
    exact ⟨_, _, _, _, _, _, _, _, _, rfl⟩
theorem idx_f (k : ByteArray) : strings_Index.f (⟨#[116, 110, 109]⟩ : ByteArray) k = some (Net.kindOf k) := by
  unfold strings_Index.f
  rw [if_pos (by decide)]
  rfl
theorem arg_loop (s : ByteArray) (hs : s.size ≤ 1000000) (q : Int) (t b0 : ByteArray) (o : Bool) (nm at_ : ByteArray) : ∀ (n a : Nat) (acc : List S44), a ≤ s.size → acc.length + n ≤ 1000000 → ∀ k, 2 * n + 4 ≤ k →
    match Net.rdA (bl s) n a with
    | some (ags, b) => script_reader_step.l1 k (n : Int) s (a : Int) false q t b0 o nm at_ acc = some (q, t, b0, o, [], nm, at_, acc ++ ags.map ofAr, s, (b : Int), false) ∧ b ≤ s.size
    | none => Fails s (script_reader_step.l1 k (n : Int) s (a : Int) false q t b0 o nm at_ acc) := by
  intro n
  induction n with
  | zero =>
    intro a acc ha hacc k hk
    obtain ⟨m, rfl⟩ : ∃ m, k = m + 1 + 1 := ⟨k - 2, by omega⟩
    show script_reader_step.l1 (m + 1 + 1) ((0 : Nat) : Int) s (a : Int) false q t b0 o nm at_ acc = some (q, t, b0, o, [], nm, at_, acc ++ [], s, (a : Int), false) ∧ a ≤ s.size
    rw [script_reader_step.l1, if_neg (by omega), script_reader_step.j2, if_neg (by decide), List.append_nil]
    exact ⟨rfl, ha⟩
  | succ n ih =>
    intro a acc ha hacc k hk
    obtain ⟨m, rfl⟩ : ∃ m, k = m + 1 + 1 := ⟨k - 2, by omega⟩
    have hin : script_reader_step.l1 (m + 1 + 1) ((n + 1 : Nat) : Int) s (a : Int) false q t b0 o nm at_ acc = script_reader_step.j2 (m + 1) ((n + 1 : Nat) : Int) true s (a : Int) false q t b0 o nm at_ acc := by
      rw [script_reader_step.l1, if_pos (by omega)]
      rfl
    rw [hin, script_reader_step.j2, if_pos rfl, Net.rdA]
    have hx : wrap64 (((n + 1 : Nat) : Int) - 1) = (n : Int) := by rw [w64 _ (by omega) (by omega)]; omega
    cases h : Net.rdB (bl s) a with
    | none =>
      show Fails s _
      rw [tx_fail s hs a ha h, Option.bind_some, tx_none s hs a ha, Option.bind_some, idx_f, Option.bind_some, tx_none s hs a ha, Option.bind_some, if_pos rfl, if_pos (by omega)]
      exact arg_stop s q t b0 o nm at_ _ _ a m (by omega)
    | some r =>
      obtain ⟨p, b⟩ := r
      obtain ⟨h1, h2⟩ := tx_ok s hs a ha h
      rw [h1, Option.bind_some]
      cases hk2 : Net.rdB (bl s) b with
      | none =>
        simp only [hk2]
        rw [tx_fail s hs b h2 hk2, Option.bind_some, idx_f, Option.bind_some, tx_none s hs b h2, Option.bind_some, if_pos rfl, if_pos (by omega)]
        exact arg_stop s q t b0 o nm at_ _ _ b m (by omega)
      | some r =>
        obtain ⟨kk, c⟩ := r
        obtain ⟨h3, h4⟩ := tx_ok s hs b h2 hk2
        simp only [hk2]
        rw [h3, Option.bind_some, idx_f, Option.bind_some]
        cases hk3 : Net.rdB (bl s) c with
        | none =>
          simp only []
          rw [tx_fail s hs c h4 hk3, Option.bind_some, if_pos rfl, if_pos (by omega)]
          exact arg_stop s q t b0 o nm at_ _ _ c m (by omega)
        | some r =>
          obtain ⟨tx, d⟩ := r
          obtain ⟨h5, h6⟩ := tx_ok s hs c h4 hk3
          simp only []
          have hzk : kk.size = (Net.lb kk).length := sz kk
          by_cases hl : (Net.lb kk).length = 1
          · rw [if_pos hl, h5, Option.bind_some, if_neg Bool.false_ne_true, if_pos (by omega), hx]
            have hb : ((kk.size : Int) != 1) = false := by rw [hzk, hl]; rfl
            show (match (match Net.rdA (bl s) n d with | none => none | some (ags, a4) => some ((p, Net.kindOf kk, tx) :: ags, a4)) with
              | some (ags, b) => script_reader_step.l1 m (n : Int) s (d : Int) ((kk.size : Int) != 1) q t b0 o nm at_ (acc ++ [(⟨p, Net.kindOf kk, tx⟩ : S44)]) = _ ∧ _
              | none => Fails s (script_reader_step.l1 m (n : Int) s (d : Int) ((kk.size : Int) != 1) q t b0 o nm at_ (acc ++ [(⟨p, Net.kindOf kk, tx⟩ : S44)])))
            rw [hb]
            have := ih d (acc ++ [(⟨p, Net.kindOf kk, tx⟩ : S44)]) h6 (by simp; omega) m (by omega)
            cases h7 : Net.rdA (bl s) n d with
            | none =>
              rw [h7] at this
              exact this
            | some r2 =>
              obtain ⟨ags, e⟩ := r2
              rw [h7] at this
              obtain ⟨e1, e2⟩ : _ ∧ _ := this
              refine ⟨?_, e2⟩
              rw [e1, List.append_assoc]
              rfl
          · rw [if_neg hl, h5, Option.bind_some, if_neg Bool.false_ne_true, if_pos (by omega), hx]
            have hb : ((kk.size : Int) != 1) = true := by
              rw [bne_iff_ne]
              omega
            show Fails s (script_reader_step.l1 m (n : Int) s (d : Int) ((kk.size : Int) != 1) q t b0 o nm at_ (acc ++ [(⟨p, Net.kindOf kk, tx⟩ : S44)]))
            rw [hb]
            exact arg_stop s q t b0 o nm at_ _ _ d m (by omega)
theorem toL (t : ByteArray) (c : UInt8) : (t.toList = [c]) = (t = ⟨#[c]⟩) := by
  rw [tl, eq_iff_iff]
  exact ⟨fun h => ba_ext h, fun h => by rw [h]⟩
theorem step_f (s : ByteArray) (hs : s.size ≤ 1000000) (a : Nat) (ha : a ≤ s.size) (k : Nat) (hk : 600000 ≤ k) :
    match Net.stepR (bl s) a with
    | some (st, b) => Reads s (ofSt st) b (script_reader_step.f k s (a : Int) false)
    | none => Fails s (script_reader_step.f k s (a : Int) false) := by
  unfold script_reader_step.f Net.stepR
  cases h0 : Net.rdB (bl s) a with
  | none =>
    simp only []
    rw [tx_fail s hs a ha h0, Option.bind_some, if_neg (show ¬ Net.em.toList = [97] by rw [tl]; decide), if_neg (show ¬ Net.em.toList = [99] by rw [tl]; decide), if_neg (show ¬ Net.em.toList = [113] by rw [tl]; decide)]
    exact ⟨_, _, _, _, _, _, _, _, _, rfl⟩
  | some r =>
    obtain ⟨t, a0⟩ := r
    obtain ⟨x0, y0⟩ := tx_ok s hs a ha h0
    simp only []
    rw [x0, Option.bind_some]
    simp only [toL]
    by_cases hA : t = Net.cA
    · rw [if_pos hA, if_pos (show t = ⟨#[97]⟩ from hA)]
      cases h1 : Net.rdB (bl s) a0 with
      | none =>
        simp only []
        rw [tx_fail s hs a0 y0 h1, Option.bind_some, tx_none s hs a0 y0, Option.bind_some, if_pos rfl, tx_none s hs a0 y0, Option.bind_some]
        exact ⟨_, _, _, _, _, _, _, _, _, rfl⟩
      | some r =>
        obtain ⟨tag, a1⟩ := r
        obtain ⟨x1, y1⟩ := tx_ok s hs a0 y0 h1
        simp only []
        rw [x1, Option.bind_some]
        cases h2 : Net.rdB (bl s) a1 with
        | none =>
          simp only []
          rw [tx_fail s hs a1 y1 h2, Option.bind_some, if_pos rfl, tx_none s hs a1 y1, Option.bind_some]
          exact ⟨_, _, _, _, _, _, _, _, _, rfl⟩
        | some r =>
          obtain ⟨ov, a2⟩ := r
          obtain ⟨x2, y2⟩ := tx_ok s hs a1 y1 h2
          simp only []
          have hov1 : (ov.toList == ([49] : List UInt8)) = decide (ov = Net.c1) := by
            rw [tl]
            by_cases h : ov = Net.c1
            · rw [decide_eq_true h, h]; rfl
            · rw [decide_eq_false h]
              exact beq_eq_false_iff_ne.2 fun e => h (ba_ext e)
          by_cases hc0 : ov = Net.c0
          · rw [if_pos (Or.inl hc0), x2, Option.bind_some, if_neg Bool.false_ne_true, if_pos (show ov = ⟨#[48]⟩ from hc0)]
            cases h3 : Net.rdB (bl s) a2 with
            | none =>
              simp only []
              rw [tx_fail s hs a2 y2 h3, Option.bind_some]
              exact ⟨_, _, _, _, _, _, _, _, _, rfl⟩
            | some r =>
              obtain ⟨by_, a3⟩ := r
              obtain ⟨x3, y3⟩ := tx_ok s hs a2 y2 h3
              simp only []
              rw [x3, Option.bind_some, hov1]
              exact ⟨rfl, y3⟩
          · by_cases hc1 : ov = Net.c1
            · have hb : (ov.toList != ([49] : List UInt8)) = false := by
                show (!(ov.toList == ([49] : List UInt8))) = false
                rw [hov1, decide_eq_true hc1]
                rfl
              rw [if_pos (Or.inr hc1), x2, Option.bind_some, if_neg Bool.false_ne_true, if_neg (show ¬ ov = ⟨#[48]⟩ from hc0), hb]
              cases h3 : Net.rdB (bl s) a2 with
              | none =>
                simp only []
                rw [tx_fail s hs a2 y2 h3, Option.bind_some]
                exact ⟨_, _, _, _, _, _, _, _, _, rfl⟩
              | some r =>
                obtain ⟨by_, a3⟩ := r
                obtain ⟨x3, y3⟩ := tx_ok s hs a2 y2 h3
                simp only []
                rw [x3, Option.bind_some, hov1]
                exact ⟨rfl, y3⟩
            · have hb : (ov.toList != ([49] : List UInt8)) = true := by
                show (!(ov.toList == ([49] : List UInt8))) = true
                rw [hov1, decide_eq_false hc1]
                rfl
              rw [if_neg (show ¬ (ov = Net.c0 ∨ ov = Net.c1) from fun h => h.elim hc0 hc1), x2, Option.bind_some, if_neg Bool.false_ne_true, if_neg (show ¬ ov = ⟨#[48]⟩ from hc0), hb, tx_none s hs a2 y2, Option.bind_some]
              exact ⟨_, _, _, _, _, _, _, _, _, rfl⟩
    · rw [if_neg hA, if_neg (show ¬ t = ⟨#[97]⟩ from hA)]
      by_cases hC : t = Net.cC
      · rw [if_pos hC, if_pos (show t = ⟨#[99]⟩ from hC)]
        cases h1 : Net.rdB (bl s) a0 with
        | none =>
          simp only []
          rw [tx_fail s hs a0 y0 h1, Option.bind_some, num_none s hs a0 y0, Option.bind_some]
          obtain ⟨m, rfl⟩ : ∃ m, k = m + 1 := ⟨k - 1, by omega⟩
          rw [script_reader_step.l0, if_neg (by show ¬ (0 : Int) > 0; decide)]
          exact ⟨_, _, _, _, _, _, _, _, _, rfl⟩
        | some r =>
          obtain ⟨tag, a1⟩ := r
          obtain ⟨x1, y1⟩ := tx_ok s hs a0 y0 h1
          simp only []
          rw [x1, Option.bind_some]
          cases h2 : Net.rdB (bl s) a1 with
          | none =>
            simp only []
            rw [num_fail s hs a1 y1 h2, Option.bind_some]
            obtain ⟨m, rfl⟩ : ∃ m, k = m + 1 := ⟨k - 1, by omega⟩
            rw [script_reader_step.l0, if_neg (by show ¬ (0 : Int) > 0; decide)]
            exact ⟨_, _, _, _, _, _, _, _, _, rfl⟩
          | some r =>
            obtain ⟨cn, a2⟩ := r
            simp only []
            cases hc : Net.cnt (Net.lb cn) with
            | none =>
              obtain ⟨x2, y2⟩ := num_no s hs a1 y1 h2 hc
              simp only []
              rw [x2, Option.bind_some]
              obtain ⟨m, rfl⟩ : ∃ m, k = m + 1 := ⟨k - 1, by omega⟩
              rw [script_reader_step.l0, if_neg (by show ¬ (0 : Int) > 0; decide)]
              exact ⟨_, _, _, _, _, _, _, _, _, rfl⟩
            | some n =>
              obtain ⟨x2, y2⟩ := num_ok s hs a1 y1 h2 hc
              have hn := (Net.cnt_some hc).1
              simp only []
              rw [x2, Option.bind_some]
              have := wish_loop s hs 1 tag (⟨#[]⟩ : ByteArray) false (⟨#[]⟩ : ByteArray) (⟨#[]⟩ : ByteArray) n a2 [] y2 (by simp; omega) k (by omega)
              cases h3 : Net.rdN (bl s) n a2 with
              | none =>
                rw [h3] at this
                exact this
              | some r =>
                obtain ⟨ws, b⟩ := r
                rw [h3] at this
                exact this
      · rw [if_neg hC, if_neg (show ¬ t = ⟨#[99]⟩ from hC)]
        by_cases hQ : t = Net.cQ
        · rw [if_pos hQ, if_pos (show t = ⟨#[113]⟩ from hQ)]
          cases h1 : Net.rdB (bl s) a0 with
          | none =>
            simp only []
            rw [tx_fail s hs a0 y0 h1, Option.bind_some, tx_none s hs a0 y0, Option.bind_some, num_none s hs a0 y0, Option.bind_some]
            exact arg_stop s _ _ _ _ _ _ _ _ a0 k (by omega)
          | some r =>
            obtain ⟨nm, a1⟩ := r
            obtain ⟨x1, y1⟩ := tx_ok s hs a0 y0 h1
            simp only []
            rw [x1, Option.bind_some]
            cases h2 : Net.rdB (bl s) a1 with
            | none =>
              simp only []
              rw [tx_fail s hs a1 y1 h2, Option.bind_some, num_none s hs a1 y1, Option.bind_some]
              exact arg_stop s _ _ _ _ _ _ _ _ a1 k (by omega)
            | some r =>
              obtain ⟨at_, a2⟩ := r
              obtain ⟨x2, y2⟩ := tx_ok s hs a1 y1 h2
              simp only []
              rw [x2, Option.bind_some]
              cases h3 : Net.rdB (bl s) a2 with
              | none =>
                simp only []
                rw [num_fail s hs a2 y2 h3, Option.bind_some]
                exact arg_stop s _ _ _ _ _ _ _ _ a2 k (by omega)
              | some r =>
                obtain ⟨cn, a3⟩ := r
                simp only []
                cases hc : Net.cnt (Net.lb cn) with
                | none =>
                  obtain ⟨x3, y3⟩ := num_no s hs a2 y2 h3 hc
                  simp only []
                  rw [x3, Option.bind_some]
                  exact arg_stop s _ _ _ _ _ _ _ _ a3 k (by omega)
                | some n =>
                  obtain ⟨x3, y3⟩ := num_ok s hs a2 y2 h3 hc
                  have hn := (Net.cnt_some hc).1
                  simp only []
                  rw [x3, Option.bind_some]
                  have := arg_loop s hs 2 (⟨#[]⟩ : ByteArray) (⟨#[]⟩ : ByteArray) false nm at_ n a3 [] y3 (by simp; omega) k (by omega)
                  cases h4 : Net.rdA (bl s) n a3 with
                  | none =>
                    rw [h4] at this
                    exact this
                  | some r =>
                    obtain ⟨ags, b⟩ := r
                    rw [h4] at this
                    exact this
        · rw [if_neg hQ, if_neg (show ¬ t = ⟨#[113]⟩ from hQ)]
          exact ⟨_, _, _, _, _, _, _, _, _, rfl⟩
end Go.Proofs.YtdhpcofnddkcaaaGreatDoor.S
namespace Go.Proofs.YtdhpcofnddkcaaaGreatDoor.Net
theorem rd_len {l p : List UInt8} {m : Nat} (h : rd l = some (p, m)) : p.length ≤ l.length := by
  obtain ⟨_, _, r, e⟩ := rd_sound h
  rw [e, List.length_append, enc_length]
  omega
theorem rdB_len {l : List UInt8} {a b : Nat} {p : ByteArray} (h : rdB l a = some (p, b)) : p.size ≤ l.length := by
  unfold rdB at h
  cases hr : rd (l.drop a) with
  | none => rw [hr] at h; cases h
  | some q =>
    rw [hr] at h
    obtain ⟨h1, -⟩ := Prod.mk.inj (Option.some.inj h)
    have := rd_len (p := q.1) (m := q.2) hr
    rw [List.length_drop] at this
    have e : p.size = (lb p).length := Lib.size_eq p
    rw [e, ← h1, lb_bs]
    omega
theorem rdA_len {l : List UInt8} : ∀ {n a b : Nat} {ags : List Ar}, rdA l n a = some (ags, b) → ags.length = n ∧ ∀ x ∈ ags, x.2.2.size ≤ l.length
  | 0, a, b, ags, h => by
    obtain ⟨h1, -⟩ := Prod.mk.inj (Option.some.inj h)
    subst h1
    exact ⟨rfl, fun x hx => by cases hx⟩
  | n + 1, a, b, ags, h => by
    unfold rdA at h
    cases h1 : rdB l a with
    | none => rw [h1] at h; cases h
    | some r1 =>
      obtain ⟨nm, a1⟩ := r1
      rw [h1] at h
      simp only at h
      cases h2 : rdB l a1 with
      | none => rw [h2] at h; cases h
      | some r2 =>
        obtain ⟨k, a2⟩ := r2
        rw [h2] at h
        simp only at h
        cases h3 : rdB l a2 with
        | none => rw [h3] at h; cases h
        | some r3 =>
          obtain ⟨tx, a3⟩ := r3
          rw [h3] at h
          simp only at h
          by_cases hk : (lb k).length = 1
          · rw [if_pos hk] at h
            cases h4 : rdA l n a3 with
            | none => rw [h4] at h; cases h
            | some r4 =>
              obtain ⟨t, a4⟩ := r4
              rw [h4] at h
              obtain ⟨e1, -⟩ := Prod.mk.inj (Option.some.inj h)
              subst e1
              obtain ⟨l1, l2⟩ := rdA_len h4
              refine ⟨by simp [l1], fun x hx => ?_⟩
              rcases List.mem_cons.1 hx with rfl | hx
              · exact rdB_len h3
              · exact l2 x hx
          · rw [if_neg hk] at h
            cases h
def argsOf (s : St) : List Ar := s.2.2.2.2.2.2.2
theorem stepR_len {l : List UInt8} {a b : Nat} {s : St} (h : stepR l a = some (s, b)) : (argsOf s).length ≤ 262144 ∧ ∀ x ∈ argsOf s, x.2.2.size ≤ l.length := by
  unfold stepR at h
  cases h1 : rdB l a with
  | none => rw [h1] at h; cases h
  | some r1 =>
    obtain ⟨t, a0⟩ := r1
    rw [h1] at h
    simp only at h
    by_cases c1 : t = cA
    · rw [if_pos c1] at h
      cases h2 : rdB l a0 with
      | none => rw [h2] at h; cases h
      | some r2 =>
        obtain ⟨tag, a1⟩ := r2
        rw [h2] at h
        simp only at h
        cases h3 : rdB l a1 with
        | none => rw [h3] at h; cases h
        | some r3 =>
          obtain ⟨ov, a2⟩ := r3
          rw [h3] at h
          simp only at h
          by_cases c2 : ov = c0 ∨ ov = Net.c1
          · rw [if_pos c2] at h
            cases h4 : rdB l a2 with
            | none => rw [h4] at h; cases h
            | some r4 =>
              rw [h4] at h
              obtain ⟨e1, -⟩ := Prod.mk.inj (Option.some.inj h)
              subst e1
              exact ⟨Nat.zero_le _, fun x hx => by cases hx⟩
          · rw [if_neg c2] at h
            cases h
    · rw [if_neg c1] at h
      by_cases c2 : t = cC
      · rw [if_pos c2] at h
        cases h2 : rdB l a0 with
        | none => rw [h2] at h; cases h
        | some r2 =>
          obtain ⟨tag, a1⟩ := r2
          rw [h2] at h
          simp only at h
          cases h3 : rdB l a1 with
          | none => rw [h3] at h; cases h
          | some r3 =>
            obtain ⟨cn, a2⟩ := r3
            rw [h3] at h
            simp only at h
            cases h4 : cnt (lb cn) with
            | none => rw [h4] at h; cases h
            | some n =>
              rw [h4] at h
              simp only at h
              cases h5 : rdN l n a2 with
              | none => rw [h5] at h; cases h
              | some r5 =>
                rw [h5] at h
                obtain ⟨e1, -⟩ := Prod.mk.inj (Option.some.inj h)
                subst e1
                exact ⟨Nat.zero_le _, fun x hx => by cases hx⟩
      · rw [if_neg c2] at h
        by_cases c3 : t = cQ
        · rw [if_pos c3] at h
          cases h2 : rdB l a0 with
          | none => rw [h2] at h; cases h
          | some r2 =>
            obtain ⟨nm, a1⟩ := r2
            rw [h2] at h
            simp only at h
            cases h3 : rdB l a1 with
            | none => rw [h3] at h; cases h
            | some r3 =>
              obtain ⟨at_, a2⟩ := r3
              rw [h3] at h
              simp only at h
              cases h4 : rdB l a2 with
              | none => rw [h4] at h; cases h
              | some r4 =>
                obtain ⟨cn, a3⟩ := r4
                rw [h4] at h
                simp only at h
                cases h5 : cnt (lb cn) with
                | none => rw [h5] at h; cases h
                | some n =>
                  rw [h5] at h
                  simp only at h
                  cases h6 : rdA l n a3 with
                  | none => rw [h6] at h; cases h
                  | some r6 =>
                    obtain ⟨ags, a4⟩ := r6
                    rw [h6] at h
                    obtain ⟨e1, -⟩ := Prod.mk.inj (Option.some.inj h)
                    subst e1
                    obtain ⟨l1, l2⟩ := rdA_len h6
                    have := (cnt_some h5).1
                    exact ⟨by show ags.length ≤ _; omega, l2⟩
        · rw [if_neg c3] at h
          cases h
end Go.Proofs.YtdhpcofnddkcaaaGreatDoor.Net
namespace Go.Proofs.YtdhpcofnddkcaaaGreatDoor.S
open Go.RowKit Go.Proofs.YtdhpcofnddkcaaaGreatDoor.G Go.Proofs.YtdhpcofnddkcaaaGreatDoorW.PrintWords Go.Proofs.YtdhpcofnddkcaaaGreatDoorW.PrintLast Go.Proofs.YtdhpcofnddkcaaaGreatDoorW.PrintMore
set_option linter.unusedVariables false
set_option linter.unusedSimpArgs false
theorem cat_enc (l : List S29) : catS (fun s => Net.parts (toSt s)) (fun p => Net.bs (Net.encB p)) l = Net.encS (l.map toSt) := by
  unfold catS Net.encS catT Net.encs
  rw [List.flatMap_map]
  rfl
theorem encs_mem {ps : List ByteArray} {p : ByteArray} (h : p ∈ ps) : (Net.encB p).length ≤ (Net.encs ps).length := by
  induction ps with
  | nil => cases h
  | cons a t ih =>
    rw [Net.encs_cons, List.length_append]
    rcases List.mem_cons.1 h with rfl | h
    · omega
    · have := ih h
      omega
theorem encs_count' (ps : List ByteArray) : ps.length ≤ (Net.encs ps).length := by
  induction ps with
  | nil => exact Nat.zero_le _
  | cons p t ih =>
    rw [Net.encs_cons, List.length_append, List.length_cons]
    have : 1 ≤ (Net.encB p).length := by unfold Net.encB; rw [Net.enc_length]; omega
    omega
theorem encS_mem' {L : List Net.St} {s : Net.St} (h : s ∈ L) : (Net.encs (Net.parts s)).length ≤ (Net.encS L).length := by
  induction L with
  | nil => cases h
  | cons a t ih =>
    rw [Net.encS_cons, List.length_append]
    rcases List.mem_cons.1 h with rfl | h
    · omega
    · have := ih h
      omega
theorem parts_pos (s : Net.St) : 0 < (Net.parts s).length := by
  obtain ⟨k, tag, by_, ov, ws, nm, at_, ags⟩ := s
  show 0 < (if k = 0 then [Net.cA, tag, if ov = true then Net.c1 else Net.c0, by_] else if k = 1 then [Net.cC, tag, Net.itoaB ws.length] ++ ws else [Net.cQ, nm, at_, Net.itoaB ags.length] ++ Net.argsT ags).length
  split
  · exact Nat.succ_pos _
  · split
    · simp
    · simp
theorem script_Encode.calls (A : Option Addr) (c : Nat) (l : List S29) (r0 : List Int) (r1 : Int) (w : World) (hr : Kd.C k29 w A l.length l) (hc : l.length ≤ c) (h : script_Encode.f l = some (r0, r1))
    (HT0_ : Tab_ w := by exact Tab_.step HT0_ (by repeat (first | (with_reducible first | exact HB.out | apply below_alloc | apply pw_below_drewN | apply below_drew1 | refine below_set ?_ (Aside0.out (by assumption))) | exact HB.out)))
    (HP0_ : TabP_ w := by exact TabP_.step HP0_ (by repeat (first | (with_reducible first | exact HB.out | apply below_alloc | apply pw_below_drewN | apply below_drew1 | refine below_set ?_ (Aside0.out (by assumption))) | exact HB.out)))
    (HE0_ : TabE_ w := by exact TabE_.step HE0_ (by repeat (first | (with_reducible first | exact HB.out | apply below_alloc | apply pw_below_drewN | apply below_drew1 | refine below_set ?_ (Aside0.out (by assumption))) | exact HB.out))) :
    Calls Tryz.prog 14 #[.slice A l.length c] w fun e w' => ∃ v, e = .returned (.tuple #[v, .int .i64 r1]) ∧ Kd.V (Kd.int .u8) 5 w' w.heap.size (fun k_ => w.heap.size ≤ k_) v r0 ∧ Below w.heap.size w w' := by
  unfold script_Encode.f at h
  by_cases hn : l.length ≤ 4096
  · rw [if_pos hn] at h
    by_cases hz : (Net.encS (l.map toSt)).length ≤ 1000000 ∧ (∀ s ∈ l, s.f4.length ≤ 1000000 ∧ s.f7.length ≤ 1000000 ∧ ∀ a ∈ s.f7, a.f2.size ≤ 100000)
    · rw [if_pos hz] at h
      obtain ⟨z1, z2⟩ := hz
      have hall : (l.map toSt).all (Net.right okA) = l.all rightS := by rw [List.all_map]; rfl
      rw [hall] at h
      refine encode_any A c l w hr hc hn 1000003 rightS (fun s => Net.parts (toSt s)) (fun p => Net.bs (Net.encB p)) (fun s hs => right_f s 1000003 (by have := (z2 s hs).2.1; omega) (z2 s hs).2.1 (z2 s hs).2.2) (fun s hs hrs => ⟨parts_f s hrs (z2 s hs).2.1 (z2 s hs).1 1000003 (by have := (z2 s hs).2.1; omega), parts_pos _, ?_⟩) (fun s hs hrs p hp => part_f p ?_) (by rw [cat_enc]; exact z1) HT0_ HP0_ HE0_ r0 r1 (fun h1 => ?_) (fun h1 => ?_)
      · have h1 := encs_count' (Net.parts (toSt s))
        have h2 := encS_mem' (List.mem_map_of_mem (f := toSt) hs)
        omega
      · have h1 := encs_mem hp
        have h2 := encS_mem' (List.mem_map_of_mem (f := toSt) hs)
        have h3 := encB_ge p
        omega
      · rw [if_pos h1] at h
        obtain ⟨e1, e2⟩ := Prod.mk.inj (Option.some.inj h)
        rw [cat_enc]
        exact ⟨e1.symm, e2.symm⟩
      · rw [if_neg (by rw [h1]; decide)] at h
        obtain ⟨e1, e2⟩ := Prod.mk.inj (Option.some.inj h)
        exact ⟨e1.symm, e2.symm⟩
    · rw [if_neg hz] at h
      cases h
  · rw [if_neg hn] at h
    obtain ⟨e1, e2⟩ := Prod.mk.inj (Option.some.inj h)
    subst e1 e2
    exact encode_many A c l w (by omega) hr.2.1
theorem script_Decode.calls (A : Option Addr) (c : Nat) (l : List Int) (r0 : List S29) (r1 r2 : Int) (w : World) (hr : Kd.C (Kd.int .u8) w A l.length l) (hc : l.length ≤ c) (h : script_Decode.f l = some (r0, r1, r2))
    (HT0_ : Tab_ w := by exact Tab_.step HT0_ (by repeat (first | (with_reducible first | exact HB.out | apply below_alloc | apply pw_below_drewN | apply below_drew1 | refine below_set ?_ (Aside0.out (by assumption))) | exact HB.out)))
    (HP0_ : TabP_ w := by exact TabP_.step HP0_ (by repeat (first | (with_reducible first | exact HB.out | apply below_alloc | apply pw_below_drewN | apply below_drew1 | refine below_set ?_ (Aside0.out (by assumption))) | exact HB.out)))
    (HE0_ : TabE_ w := by exact TabE_.step HE0_ (by repeat (first | (with_reducible first | exact HB.out | apply below_alloc | apply pw_below_drewN | apply below_drew1 | refine below_set ?_ (Aside0.out (by assumption))) | exact HB.out))) :
    Calls Tryz.prog 15 #[.slice A l.length c] w fun e w' => ∃ v, e = .returned (.tuple #[v, .int .i64 r1, .int .i64 r2]) ∧ Kd.S k29 29 w' w.heap.size (fun _ => True) v r0 ∧ Below w.heap.size w w' := by
  unfold script_Decode.f at h
  by_cases hl : l.length ≤ 100000
  · rw [if_pos hl, if_neg (by omega)] at h
    obtain ⟨e1, h⟩ := Prod.mk.inj (Option.some.inj h)
    obtain ⟨e2, e3⟩ := Prod.mk.inj h
    subst e1 e2 e3
    have hsz : (strOfNums l).size = l.length := by
      rw [sz]
      show (strOfNums l).data.toList.length = _
      rw [strOfNums_data]
      simp
    refine decode_any A c l w hr hc (by omega) 700000 (strOfNums l) rfl hsz (fun a ha => ?_) _ _ _ rfl rfl rfl HT0_ HP0_ HE0_
    have hst := step_f (strOfNums l) (by omega) a (by omega) 700000 (by omega)
    have e : bl (strOfNums l) = Net.lb (strOfNums l) := rfl
    rw [e] at hst
    cases hx : Net.stepR (Net.lb (strOfNums l)) a with
    | none =>
      rw [hx] at hst
      obtain ⟨q, t, b, o, ws, n, m, ags, a1, hf⟩ := hst
      exact ⟨q, t, b, o, ws, n, m, ags, (a1 : Int), hf⟩
    | some r =>
      obtain ⟨st, b⟩ := r
      rw [hx] at hst
      obtain ⟨hf, hb⟩ := hst
      refine ⟨hf, fun hrt => ?_, hb, ?_⟩
      · obtain ⟨-, hb2, -⟩ := Net.stepR_sound okA_kind hx hrt
        have h1 := encs_count' (Net.parts st)
        have h2 := parts_pos st
        omega
      · obtain ⟨n1, n2⟩ := Net.stepR_len hx
        have hln : (Net.lb (strOfNums l)).length ≤ 100000 := by
          have := Lib.size_eq (strOfNums l)
          show (strOfNums l).data.toList.length ≤ _
          omega
        have hf7 : (ofSt st).f7.length = (Net.argsOf st).length := by
          obtain ⟨k, tag, by_, ov, ws, nm, at_, ags⟩ := st
          show (ags.map ofAr).length = ags.length
          rw [List.length_map]
        have hrt := right_f (ofSt st) 700000 (by omega) (by omega) (fun x hx2 => by
          obtain ⟨k, tag, by_, ov, ws, nm, at_, ags⟩ := st
          have hx3 : x ∈ ags.map ofAr := hx2
          obtain ⟨y, hy, rfl⟩ := List.mem_map.1 hx3
          have := n2 y hy
          show y.2.2.size ≤ _
          omega)
        have e2 : rightS (ofSt st) = Net.right okA st := by
          show Net.right okA (toSt (ofSt st)) = _
          rw [toSt_of]
        rw [e2] at hrt
        exact hrt
  · rw [if_neg hl] at h
    cases h
end Go.Proofs.YtdhpcofnddkcaaaGreatDoor.S
namespace Go.Proofs.YtdhpcofnddkcaaaGreatDoor.S
open Go.RowKit Go.Proofs.YtdhpcofnddkcaaaGreatDoor.G Go.Proofs.YtdhpcofnddkcaaaGreatDoorW.PrintWords Go.Proofs.YtdhpcofnddkcaaaGreatDoorW.PrintLast Go.Proofs.YtdhpcofnddkcaaaGreatDoorW.PrintMore
attribute [local go_sem] max2_int min2_int max_two min_two max_three min_three max_four min_four
set_option linter.unusedVariables false
set_option linter.unusedSimpArgs false
namespace Sx4
theorem q0_ {p_ : Prop} (h_ : p_ := by repeat (first | (with_reducible first | exact HB.out | apply below_alloc | apply pw_below_drewN | apply below_drew1) | exact HB.out)) : p_ := h_
theorem q1_ {p_ : Prop} (h_ : p_ := by (with_reducible repeat (first | apply Kd.S_alloc | apply Kd.S_drewN | apply Kd.S_drew)); exact HO103.out) : p_ := h_
theorem q2_ {p_ : Prop} (h_ : p_ := by (try simp only [List.map_toArray, List.map_cons, List.map_nil]); first | done | rfl | (simp only [List.length_drop, List.length_take]; rfl)) : p_ := h_
theorem q3_ {p_ : Prop} (h_ : p_ := by first | rfl | (simp [errW_none, errW_some] <;> rfl) | (simp [*, errW_none, errW_some] <;> rfl)) : p_ := h_
theorem q4_ {p_ : Prop} (h_ : p_ := by (with_reducible repeat (first | apply Kd.V_alloc | apply Kd.V_drewN | apply Kd.V_drew)); exact HO106.out) : p_ := h_
end Sx4
open Sx4
def polyglotlaw18_head.f  : Option (Bool) := (script_Encode.f (([(⟨1, (⟨#[101, 110]⟩ : ByteArray), (⟨#[]⟩ : ByteArray), false, ([] : List ByteArray), (⟨#[]⟩ : ByteArray), (⟨#[]⟩ : ByteArray), ([] : List (S44))⟩ : S29)] : List (S29)))).bind fun bt104 => (if bt104.2 = 0 then (if (strOfNums bt104.1).toList = ([49, 58, 99, 44, 50, 58, 101, 110, 44, 49, 58, 48, 44] : List UInt8) then ((script_Decode.f bt104.1).bind fun bt108 => (if bt108.2.2 = 0 then (if bt108.2.1 = (bt104.1.length : Int) then (if (bt108.1.length : Int) = 1 then (if 0 < (bt108.1.length : Int) then (some (((rd_T29 bt108.1 0).f1).toList == ([101, 110] : List UInt8))) else (none)) else (some false)) else (some false)) else (some false))) else (some false)) else (some false))
set_option maxHeartbeats 8000000 in
set_option maxRecDepth 100000 in
theorem polyglotlaw18_head.calls  (r : Bool) (w : World) (h : polyglotlaw18_head.f  = some r) (HT0_ : Tab_ w := by exact Tab_.step HT0_ (by repeat (first | (with_reducible first | exact HB.out | apply below_alloc | apply pw_below_drewN | apply below_drew1 | refine below_set ?_ (Aside0.out (by assumption))) | exact HB.out))) (HP0_ : TabP_ w := by exact TabP_.step HP0_ (by repeat (first | (with_reducible first | exact HB.out | apply below_alloc | apply pw_below_drewN | apply below_drew1 | refine below_set ?_ (Aside0.out (by assumption))) | exact HB.out))) (HE0_ : TabE_ w := by exact TabE_.step HE0_ (by repeat (first | (with_reducible first | exact HB.out | apply below_alloc | apply pw_below_drewN | apply below_drew1 | refine below_set ?_ (Aside0.out (by assumption))) | exact HB.out))) :
  Calls Tryz.prog 9 #[] w fun e w' => e = .returned (.bool r) ∧ Below w.heap.size w w' := by
 have hu29 := Tryz.underlying29
 have HB := Aside0.mk (Below.refl w.heap.size w)
 have H : ((script_Encode.f (([(⟨1, (⟨#[101, 110]⟩ : ByteArray), (⟨#[]⟩ : ByteArray), false, ([] : List ByteArray), (⟨#[]⟩ : ByteArray), (⟨#[]⟩ : ByteArray), ([] : List (S44))⟩ : S29)] : List (S29)))).bind fun bt104 => (if bt104.2 = 0 then (if (strOfNums bt104.1).toList = ([49, 58, 99, 44, 50, 58, 101, 110, 44, 49, 58, 48, 44] : List UInt8) then ((script_Decode.f bt104.1).bind fun bt108 => (if bt108.2.2 = 0 then (if bt108.2.1 = (bt104.1.length : Int) then (if (bt108.1.length : Int) = 1 then (if 0 < (bt108.1.length : Int) then (some (((rd_T29 bt108.1 0).f1).toList == ([101, 110] : List UInt8))) else (none)) else (some false)) else (some false)) else (some false))) else (some false)) else (some false))) = some r := h
 clear h
 obtain ⟨y101, hy101⟩ : ∃ y_ : List (S29), y_ = (([(⟨1, (⟨#[101, 110]⟩ : ByteArray), (⟨#[]⟩ : ByteArray), false, ([] : List ByteArray), (⟨#[]⟩ : ByteArray), (⟨#[]⟩ : ByteArray), ([] : List (S44))⟩ : S29)] : List (S29))) := ⟨_, rfl⟩
 replace H : ((script_Encode.f y101).bind fun bt104 => (if bt104.2 = 0 then (if (strOfNums bt104.1).toList = ([49, 58, 99, 44, 50, 58, 101, 110, 44, 49, 58, 48, 44] : List UInt8) then ((script_Decode.f bt104.1).bind fun bt108 => (if bt108.2.2 = 0 then (if bt108.2.1 = (bt104.1.length : Int) then (if (bt108.1.length : Int) = 1 then (if 0 < (bt108.1.length : Int) then (some (((rd_T29 bt108.1 0).f1).toList == ([101, 110] : List UInt8))) else (none)) else (some false)) else (some false)) else (some false))) else (some false)) else (some false))) = some r := by first | (rw [hy101]; with_reducible exact H) | (have H2_ := (Option.bind_some _ _).symm.trans H; rw [hy101]; with_reducible exact H2_) | (have H2_ := (Option.bind_some _ _).symm.trans H; with_reducible exact H2_) | with_reducible exact H | (rw [hy101]; exact H) | exact H
 have Ny101 := Aside0.mk hy101
 clear hy101
 replace H := Option.bind_eq_some_iff.mp H
 obtain ⟨⟨t104, t107⟩, A10, H⟩ := H
 replace H : (if t107 = 0 then (if (strOfNums t104).toList = ([49, 58, 99, 44, 50, 58, 101, 110, 44, 49, 58, 48, 44] : List UInt8) then ((script_Decode.f t104).bind fun bt108 => (if bt108.2.2 = 0 then (if bt108.2.1 = (t104.length : Int) then (if (bt108.1.length : Int) = 1 then (if 0 < (bt108.1.length : Int) then (some (((rd_T29 bt108.1 0).f1).toList == ([101, 110] : List UInt8))) else (none)) else (some false)) else (some false)) else (some false))) else (some false)) else (some false)) = some r := H
 have A1 := Aside0.mk A10
 clear A10
 by_cases c2 : t107 = 0
 ·rw [if_pos c2] at H
  have c2b0 : (t107 == 0) = true := beq_iff_eq.mpr c2
  have c2b1 : (t107 != 0) = false := bne_eq_false_iff_eq.mpr c2
  clear c2
  by_cases c3 : (strOfNums t104).toList = ([49, 58, 99, 44, 50, 58, 101, 110, 44, 49, 58, 48, 44] : List UInt8)
  ·rw [if_pos c3] at H
   have c3b0 : ((strOfNums t104).toList == ([49, 58, 99, 44, 50, 58, 101, 110, 44, 49, 58, 48, 44] : List UInt8)) = true := beq_iff_eq.mpr c3
   have c3b1 : ((strOfNums t104).toList != ([49, 58, 99, 44, 50, 58, 101, 110, 44, 49, 58, 48, 44] : List UInt8)) = false := bne_eq_false_iff_eq.mpr c3
   clear c3
   replace H := Option.bind_eq_some_iff.mp H
   obtain ⟨⟨t108, t109, t110⟩, A40, H⟩ := H
   replace H : (if t110 = 0 then (if t109 = (t104.length : Int) then (if (t108.length : Int) = 1 then (if 0 < (t108.length : Int) then (some (((rd_T29 t108 0).f1).toList == ([101, 110] : List UInt8))) else (none)) else (some false)) else (some false)) else (some false)) = some r := H
   have A4 := Aside0.mk A40
   clear A40
   by_cases c5 : t110 = 0
   ·rw [if_pos c5] at H
    have c5b0 : (t110 == 0) = true := beq_iff_eq.mpr c5
    have c5b1 : (t110 != 0) = false := bne_eq_false_iff_eq.mpr c5
    clear c5
    by_cases c6 : t109 = (t104.length : Int)
    ·rw [if_pos c6] at H
     have c6b0 : (t109 == (t104.length : Int)) = true := beq_iff_eq.mpr c6
     have c6b1 : (t109 != (t104.length : Int)) = false := bne_eq_false_iff_eq.mpr c6
     clear c6
     by_cases c7 : (t108.length : Int) = 1
     ·rw [if_pos c7] at H
      have c7b0 : ((t108.length : Int) == 1) = true := beq_iff_eq.mpr c7
      have c7b1 : ((t108.length : Int) != 1) = false := bne_eq_false_iff_eq.mpr c7
      clear c7
      by_cases c8 : 0 < (t108.length : Int)
      ·rw [if_pos c8] at H
       have c8b0 : decide (0 < (t108.length : Int)) = true := decide_eq_true c8
       have c8b1 : decide (0 < t108.length) = true := decide_eq_true (by omega)
       clear c8
       obtain rfl := Option.some.inj H
       go_enter Tryz.func9, Tryz.ntmps9
       go_wp2_with (first | ((with_reducible refine gate_dst (N := 8) rfl ?_); (try (refine gate_guard (by rfl) ?_; dsimp only)); refine Kd.S_lit k29 _ 29 ?hg (N := 8) ?hd (xs := ([(⟨1, (⟨#[101, 110]⟩ : ByteArray), (⟨#[]⟩ : ByteArray), false, ([] : List ByteArray), (⟨#[]⟩ : ByteArray), (⟨#[]⟩ : ByteArray), ([] : List (S44))⟩ : S29)] : List (S29))) (inner := [.int .i64 1, .string (⟨#[101, 110]⟩ : ByteArray), .string (⟨#[]⟩ : ByteArray), .bool false, .slice none 0 0, .string (⟨#[]⟩ : ByteArray), .string (⟨#[]⟩ : ByteArray), .slice none 0 0]) (ok := fun _ => True) (okp := fun _ => True) ?hr ?hp (fun _ hk => hk) trivial (Below.refl _ _) (Nat.le_refl _) (by simp) ?_; (case hd => rfl); (case hg => rfl); (case hr => first | (go_simp; done) | (go_simp; rfl)); (case hp => exact (Reps.c8 (show Kd.M k29 _ _ _ (⟨1, (⟨#[101, 110]⟩ : ByteArray), (⟨#[]⟩ : ByteArray), false, ([] : List ByteArray), (⟨#[]⟩ : ByteArray), (⟨#[]⟩ : ByteArray), ([] : List (S44))⟩ : S29) [.int .i64 1, .string (⟨#[101, 110]⟩ : ByteArray), .string (⟨#[]⟩ : ByteArray), .bool false, .slice none 0 0, .string (⟨#[]⟩ : ByteArray), .string (⟨#[]⟩ : ByteArray), .slice none 0 0] from (k29_mkM _ _ _ (⟨1, (⟨#[101, 110]⟩ : ByteArray), (⟨#[]⟩ : ByteArray), false, ([] : List ByteArray), (⟨#[]⟩ : ByteArray), (⟨#[]⟩ : ByteArray), ([] : List (S44))⟩ : S29) (Kd.R_nil _ _ _ _ _) (Kd.R_nil _ _ _ _ _))) (Reps.none _ _))); intro v102 w9 ho10 hb hg_ hnew_; clear hg_ hnew_; (first | rw [← Ny101.out] at ho10 | (simp only [Int.reduceToNat] at ho10; rw [← Ny101.out] at ho10)); have n0_ := Aside0.mk (Kd.S_lower ho10 (below_size q0_)); have n1_ := Aside0.mk (below_step q0_ hb); clear HB; have HO103 := n0_; have HB := n1_; clear n0_ n1_; clear hb ho10; obtain ⟨Ao11, co11, eo11⟩ := Kd.S_slice HO103.out; subst eo11) | ((with_reducible refine gate_callee (f := 14) rfl ?_); refine goesL_ (some 9) rfl rfl Tryz.func14 (by kernel_rfl) rfl #[.slice Ao11 y101.length co11] rfl q2_ ?_; (with_reducible refine (script_Encode.calls _ _ y101 t104 t107 _ ?side1 ?side2 A1.out).mono ?_); (case side1 => repeat (first | exact (Kd.S_reads' HO103.out).2.2 | (with_reducible refine Kd.C_alloc ?_ _) | (with_reducible refine Kd.C_drewN ?_ _) | (with_reducible refine Kd.C_drew ?_))); (case side2 => exact (Kd.S_reads' HO103.out).2.1); rintro e w12 ⟨v105, rfl, ho0, hb⟩; refine ⟨_, rfl, ?_⟩; have n0_ := Aside0.mk (Kd.S_below q1_ hb); have n1_ := Aside0.mk (Kd.V_lower (Kd.V_mono (ok' := fun k_ => some k_ ≠ (.slice Ao11 y101.length co11 : Value).ownBlock) ho0 (fun k_ hk_ => (Kd.fresh' (Kd.S_lt q1_) k_ hk_))) (below_size q0_)); have n2_ := Aside0.mk (below_step q0_ hb); clear HO103; clear HB; have HO103 := n0_; have HO106 := n1_; have HB := n2_; clear n0_ n1_ n2_; (try clear hb); (try clear hb2); (try clear hk); (try clear hi); (try clear ho0); obtain ⟨Ao14, co14, eo14⟩ := Kd.V_slice HO106.out; subst eo14; have hcv13 := fun (c_ : Nat) => Kd.C_string (c := c_) (P := Tryz.prog) Tryz.underlying32 Tryz.underlying5 Tryz.underlying9 (Kd.V_reads' HO106.out).2.2) | ((with_reducible refine gate_callee (f := 15) rfl ?_); refine goesL_ (some 21) rfl rfl Tryz.func15 (by kernel_rfl) rfl #[.slice Ao14 t104.length co14] rfl q2_ ?_; (with_reducible refine (script_Decode.calls _ _ t104 t108 t109 t110 _ ?side1 ?side2 A4.out).mono ?_); (case side1 => repeat (first | exact (Kd.V_reads' HO106.out).2.2 | (with_reducible refine Kd.C_alloc ?_ _) | (with_reducible refine Kd.C_drewN ?_ _) | (with_reducible refine Kd.C_drew ?_))); (case side2 => exact (Kd.V_reads' HO106.out).2.1); rintro e w15 ⟨v111, rfl, ho0, hb⟩; refine ⟨_, rfl, ?_⟩; have n0_ := Aside0.mk (Kd.S_elder' q1_ (Kd.S_base ho0) hb); have n1_ := Aside0.mk (Kd.V_elder' q4_ (Kd.S_base ho0) hb); have n2_ := Aside0.mk (Kd.S_lower (Kd.S_new' ho0 (Kd.S_lt q1_)) (below_size q0_)); have n3_ := Aside0.mk (below_step q0_ hb); clear HO103; clear HO106; clear HB; have HO103 := n0_; have HO106 := n1_; have HO112 := n2_; have HB := n3_; clear n0_ n1_ n2_ n3_; (try clear hb); (try clear hb2); (try clear hk); (try clear hi); (try clear ho0); obtain ⟨Ao16, co16, eo16⟩ := Kd.S_slice HO112.out; subst eo16; have p113 : 0 ≤ (0 : Int) := (by omega); have q113 : 0 < (t108.length : Int) := of_decide_eq_true (by first | (with_reducible assumption) | assumption); obtain ⟨ad113, A113_4, c113_4, A113_7, c113_7, e113, hx113_0, hx113_1, hx113_2, hx113_3, hx113_4, hx113_5, hx113_6, hx113_7, hl113_4, hi113_4, hl113_7, hi113_7⟩ := at_T29 (Kd.S_reads' HO112.out).2.2 0 p113 q113; cases e113; obtain ⟨ce113, hce113, hMe113, hcc113⟩ := Kd.S_get HO112.out z29 0 p113 (by first | exact q113 | exact of_decide_eq_true (by first | (with_reducible assumption) | assumption) | (have e_ := (Kd.S_reads' HO112.out).1; omega)); obtain ⟨ve113_4, ve113_7, rfl, ge113_4, ge113_7⟩ := k29_openM hMe113; have hv113_4 := hcc113 4 _ rfl; rw [add_field _ _ 4 (by omega)] at hv113_4; replace hv113_4 := Option.some.inj (hv113_4.symm.trans hx113_4); rw [hv113_4] at ge113_4; have HL113_4 := Aside0.mk (show Kd.R Kd.string 9 _ _ _ _ ((rd_T29 t108 0).f4) from ge113_4); clear hv113_4 ge113_4; have hv113_7 := hcc113 7 _ rfl; rw [add_field _ _ 7 (by omega)] at hv113_7; replace hv113_7 := Option.some.inj (hv113_7.symm.trans hx113_7); rw [hv113_7] at ge113_7; have HL113_7 := Aside0.mk (show Kd.R k44 44 _ _ _ _ ((rd_T29 t108 0).f7) from ge113_7); clear hv113_7 ge113_7; clear hcc113 hce113; have qi113 : (0 < t108.length) = True := eq_true (by omega); (try rw [show ((0 : Int)).toNat = 0 from rfl] at hx113_0); (try rw [show 0 * 8 = 0 from rfl] at hx113_0); (try rw [Addr.add_zero'] at hx113_0); (try rw [show ((0 : Int)).toNat = 0 from rfl] at hx113_1); (try rw [show 0 * 8 = 0 from rfl] at hx113_1); (try rw [Addr.add_zero'] at hx113_1); (try rw [show ((0 : Int)).toNat = 0 from rfl] at hx113_2); (try rw [show 0 * 8 = 0 from rfl] at hx113_2); (try rw [Addr.add_zero'] at hx113_2); (try rw [show ((0 : Int)).toNat = 0 from rfl] at hx113_3); (try rw [show 0 * 8 = 0 from rfl] at hx113_3); (try rw [Addr.add_zero'] at hx113_3); (try rw [show ((0 : Int)).toNat = 0 from rfl] at hx113_4); (try rw [show 0 * 8 = 0 from rfl] at hx113_4); (try rw [Addr.add_zero'] at hx113_4); (try rw [show ((0 : Int)).toNat = 0 from rfl] at hx113_5); (try rw [show 0 * 8 = 0 from rfl] at hx113_5); (try rw [Addr.add_zero'] at hx113_5); (try rw [show ((0 : Int)).toNat = 0 from rfl] at hx113_6); (try rw [show 0 * 8 = 0 from rfl] at hx113_6); (try rw [Addr.add_zero'] at hx113_6); (try rw [show ((0 : Int)).toNat = 0 from rfl] at hx113_7); (try rw [show 0 * 8 = 0 from rfl] at hx113_7); (try rw [Addr.add_zero'] at hx113_7); have HR113_4 := Aside0.mk hi113_4; have HC113_4 := Aside0.mk hl113_4; clear hi113_4 hl113_4; have HR113_7 := Aside0.mk hi113_7; have HC113_7 := Aside0.mk hl113_7; clear hi113_7 hl113_7; replace p113 := eq_true p113; replace q113 := eq_true q113))
       go_ret
       exact ⟨q3_, q0_⟩
      ·rw [if_neg c8] at H
       exact absurd H (by simp)
     ·rw [if_neg c7] at H
      have c7b0 : ((t108.length : Int) == 1) = false := beq_eq_false_iff_ne.mpr c7
      have c7b1 : ((t108.length : Int) != 1) = true := bne_iff_ne.mpr c7
      obtain rfl := Option.some.inj H
      go_enter Tryz.func9, Tryz.ntmps9
      go_wp2_with (first | ((with_reducible refine gate_dst (N := 8) rfl ?_); (try (refine gate_guard (by rfl) ?_; dsimp only)); refine Kd.S_lit k29 _ 29 ?hg (N := 8) ?hd (xs := ([(⟨1, (⟨#[101, 110]⟩ : ByteArray), (⟨#[]⟩ : ByteArray), false, ([] : List ByteArray), (⟨#[]⟩ : ByteArray), (⟨#[]⟩ : ByteArray), ([] : List (S44))⟩ : S29)] : List (S29))) (inner := [.int .i64 1, .string (⟨#[101, 110]⟩ : ByteArray), .string (⟨#[]⟩ : ByteArray), .bool false, .slice none 0 0, .string (⟨#[]⟩ : ByteArray), .string (⟨#[]⟩ : ByteArray), .slice none 0 0]) (ok := fun _ => True) (okp := fun _ => True) ?hr ?hp (fun _ hk => hk) trivial (Below.refl _ _) (Nat.le_refl _) (by simp) ?_; (case hd => rfl); (case hg => rfl); (case hr => first | (go_simp; done) | (go_simp; rfl)); (case hp => exact (Reps.c8 (show Kd.M k29 _ _ _ (⟨1, (⟨#[101, 110]⟩ : ByteArray), (⟨#[]⟩ : ByteArray), false, ([] : List ByteArray), (⟨#[]⟩ : ByteArray), (⟨#[]⟩ : ByteArray), ([] : List (S44))⟩ : S29) [.int .i64 1, .string (⟨#[101, 110]⟩ : ByteArray), .string (⟨#[]⟩ : ByteArray), .bool false, .slice none 0 0, .string (⟨#[]⟩ : ByteArray), .string (⟨#[]⟩ : ByteArray), .slice none 0 0] from (k29_mkM _ _ _ (⟨1, (⟨#[101, 110]⟩ : ByteArray), (⟨#[]⟩ : ByteArray), false, ([] : List ByteArray), (⟨#[]⟩ : ByteArray), (⟨#[]⟩ : ByteArray), ([] : List (S44))⟩ : S29) (Kd.R_nil _ _ _ _ _) (Kd.R_nil _ _ _ _ _))) (Reps.none _ _))); intro v102 w17 ho18 hb hg_ hnew_; clear hg_ hnew_; (first | rw [← Ny101.out] at ho18 | (simp only [Int.reduceToNat] at ho18; rw [← Ny101.out] at ho18)); have n0_ := Aside0.mk (Kd.S_lower ho18 (below_size q0_)); have n1_ := Aside0.mk (below_step q0_ hb); clear HB; have HO103 := n0_; have HB := n1_; clear n0_ n1_; clear hb ho18; obtain ⟨Ao19, co19, eo19⟩ := Kd.S_slice HO103.out; subst eo19) | ((with_reducible refine gate_callee (f := 14) rfl ?_); refine goesL_ (some 9) rfl rfl Tryz.func14 (by kernel_rfl) rfl #[.slice Ao19 y101.length co19] rfl q2_ ?_; (with_reducible refine (script_Encode.calls _ _ y101 t104 t107 _ ?side1 ?side2 A1.out).mono ?_); (case side1 => repeat (first | exact (Kd.S_reads' HO103.out).2.2 | (with_reducible refine Kd.C_alloc ?_ _) | (with_reducible refine Kd.C_drewN ?_ _) | (with_reducible refine Kd.C_drew ?_))); (case side2 => exact (Kd.S_reads' HO103.out).2.1); rintro e w20 ⟨v105, rfl, ho0, hb⟩; refine ⟨_, rfl, ?_⟩; have n0_ := Aside0.mk (Kd.S_below q1_ hb); have n1_ := Aside0.mk (Kd.V_lower (Kd.V_mono (ok' := fun k_ => some k_ ≠ (.slice Ao19 y101.length co19 : Value).ownBlock) ho0 (fun k_ hk_ => (Kd.fresh' (Kd.S_lt q1_) k_ hk_))) (below_size q0_)); have n2_ := Aside0.mk (below_step q0_ hb); clear HO103; clear HB; have HO103 := n0_; have HO106 := n1_; have HB := n2_; clear n0_ n1_ n2_; (try clear hb); (try clear hb2); (try clear hk); (try clear hi); (try clear ho0); obtain ⟨Ao22, co22, eo22⟩ := Kd.V_slice HO106.out; subst eo22; have hcv21 := fun (c_ : Nat) => Kd.C_string (c := c_) (P := Tryz.prog) Tryz.underlying32 Tryz.underlying5 Tryz.underlying9 (Kd.V_reads' HO106.out).2.2) | ((with_reducible refine gate_callee (f := 15) rfl ?_); refine goesL_ (some 21) rfl rfl Tryz.func15 (by kernel_rfl) rfl #[.slice Ao22 t104.length co22] rfl q2_ ?_; (with_reducible refine (script_Decode.calls _ _ t104 t108 t109 t110 _ ?side1 ?side2 A4.out).mono ?_); (case side1 => repeat (first | exact (Kd.V_reads' HO106.out).2.2 | (with_reducible refine Kd.C_alloc ?_ _) | (with_reducible refine Kd.C_drewN ?_ _) | (with_reducible refine Kd.C_drew ?_))); (case side2 => exact (Kd.V_reads' HO106.out).2.1); rintro e w23 ⟨v111, rfl, ho0, hb⟩; refine ⟨_, rfl, ?_⟩; have n0_ := Aside0.mk (Kd.S_elder' q1_ (Kd.S_base ho0) hb); have n1_ := Aside0.mk (Kd.V_elder' q4_ (Kd.S_base ho0) hb); have n2_ := Aside0.mk (Kd.S_lower (Kd.S_new' ho0 (Kd.S_lt q1_)) (below_size q0_)); have n3_ := Aside0.mk (below_step q0_ hb); clear HO103; clear HO106; clear HB; have HO103 := n0_; have HO106 := n1_; have HO112 := n2_; have HB := n3_; clear n0_ n1_ n2_ n3_; (try clear hb); (try clear hb2); (try clear hk); (try clear hi); (try clear ho0); obtain ⟨Ao24, co24, eo24⟩ := Kd.S_slice HO112.out; subst eo24))
      go_ret
      exact ⟨q3_, q0_⟩
    ·rw [if_neg c6] at H
     have c6b0 : (t109 == (t104.length : Int)) = false := beq_eq_false_iff_ne.mpr c6
     have c6b1 : (t109 != (t104.length : Int)) = true := bne_iff_ne.mpr c6
     obtain rfl := Option.some.inj H
     go_enter Tryz.func9, Tryz.ntmps9
     go_wp2_with (first | ((with_reducible refine gate_dst (N := 8) rfl ?_); (try (refine gate_guard (by rfl) ?_; dsimp only)); refine Kd.S_lit k29 _ 29 ?hg (N := 8) ?hd (xs := ([(⟨1, (⟨#[101, 110]⟩ : ByteArray), (⟨#[]⟩ : ByteArray), false, ([] : List ByteArray), (⟨#[]⟩ : ByteArray), (⟨#[]⟩ : ByteArray), ([] : List (S44))⟩ : S29)] : List (S29))) (inner := [.int .i64 1, .string (⟨#[101, 110]⟩ : ByteArray), .string (⟨#[]⟩ : ByteArray), .bool false, .slice none 0 0, .string (⟨#[]⟩ : ByteArray), .string (⟨#[]⟩ : ByteArray), .slice none 0 0]) (ok := fun _ => True) (okp := fun _ => True) ?hr ?hp (fun _ hk => hk) trivial (Below.refl _ _) (Nat.le_refl _) (by simp) ?_; (case hd => rfl); (case hg => rfl); (case hr => first | (go_simp; done) | (go_simp; rfl)); (case hp => exact (Reps.c8 (show Kd.M k29 _ _ _ (⟨1, (⟨#[101, 110]⟩ : ByteArray), (⟨#[]⟩ : ByteArray), false, ([] : List ByteArray), (⟨#[]⟩ : ByteArray), (⟨#[]⟩ : ByteArray), ([] : List (S44))⟩ : S29) [.int .i64 1, .string (⟨#[101, 110]⟩ : ByteArray), .string (⟨#[]⟩ : ByteArray), .bool false, .slice none 0 0, .string (⟨#[]⟩ : ByteArray), .string (⟨#[]⟩ : ByteArray), .slice none 0 0] from (k29_mkM _ _ _ (⟨1, (⟨#[101, 110]⟩ : ByteArray), (⟨#[]⟩ : ByteArray), false, ([] : List ByteArray), (⟨#[]⟩ : ByteArray), (⟨#[]⟩ : ByteArray), ([] : List (S44))⟩ : S29) (Kd.R_nil _ _ _ _ _) (Kd.R_nil _ _ _ _ _))) (Reps.none _ _))); intro v102 w25 ho26 hb hg_ hnew_; clear hg_ hnew_; (first | rw [← Ny101.out] at ho26 | (simp only [Int.reduceToNat] at ho26; rw [← Ny101.out] at ho26)); have n0_ := Aside0.mk (Kd.S_lower ho26 (below_size q0_)); have n1_ := Aside0.mk (below_step q0_ hb); clear HB; have HO103 := n0_; have HB := n1_; clear n0_ n1_; clear hb ho26; obtain ⟨Ao27, co27, eo27⟩ := Kd.S_slice HO103.out; subst eo27) | ((with_reducible refine gate_callee (f := 14) rfl ?_); refine goesL_ (some 9) rfl rfl Tryz.func14 (by kernel_rfl) rfl #[.slice Ao27 y101.length co27] rfl q2_ ?_; (with_reducible refine (script_Encode.calls _ _ y101 t104 t107 _ ?side1 ?side2 A1.out).mono ?_); (case side1 => repeat (first | exact (Kd.S_reads' HO103.out).2.2 | (with_reducible refine Kd.C_alloc ?_ _) | (with_reducible refine Kd.C_drewN ?_ _) | (with_reducible refine Kd.C_drew ?_))); (case side2 => exact (Kd.S_reads' HO103.out).2.1); rintro e w28 ⟨v105, rfl, ho0, hb⟩; refine ⟨_, rfl, ?_⟩; have n0_ := Aside0.mk (Kd.S_below q1_ hb); have n1_ := Aside0.mk (Kd.V_lower (Kd.V_mono (ok' := fun k_ => some k_ ≠ (.slice Ao27 y101.length co27 : Value).ownBlock) ho0 (fun k_ hk_ => (Kd.fresh' (Kd.S_lt q1_) k_ hk_))) (below_size q0_)); have n2_ := Aside0.mk (below_step q0_ hb); clear HO103; clear HB; have HO103 := n0_; have HO106 := n1_; have HB := n2_; clear n0_ n1_ n2_; (try clear hb); (try clear hb2); (try clear hk); (try clear hi); (try clear ho0); obtain ⟨Ao30, co30, eo30⟩ := Kd.V_slice HO106.out; subst eo30; have hcv29 := fun (c_ : Nat) => Kd.C_string (c := c_) (P := Tryz.prog) Tryz.underlying32 Tryz.underlying5 Tryz.underlying9 (Kd.V_reads' HO106.out).2.2) | ((with_reducible refine gate_callee (f := 15) rfl ?_); refine goesL_ (some 21) rfl rfl Tryz.func15 (by kernel_rfl) rfl #[.slice Ao30 t104.length co30] rfl q2_ ?_; (with_reducible refine (script_Decode.calls _ _ t104 t108 t109 t110 _ ?side1 ?side2 A4.out).mono ?_); (case side1 => repeat (first | exact (Kd.V_reads' HO106.out).2.2 | (with_reducible refine Kd.C_alloc ?_ _) | (with_reducible refine Kd.C_drewN ?_ _) | (with_reducible refine Kd.C_drew ?_))); (case side2 => exact (Kd.V_reads' HO106.out).2.1); rintro e w31 ⟨v111, rfl, ho0, hb⟩; refine ⟨_, rfl, ?_⟩; have n0_ := Aside0.mk (Kd.S_elder' q1_ (Kd.S_base ho0) hb); have n1_ := Aside0.mk (Kd.V_elder' q4_ (Kd.S_base ho0) hb); have n2_ := Aside0.mk (Kd.S_lower (Kd.S_new' ho0 (Kd.S_lt q1_)) (below_size q0_)); have n3_ := Aside0.mk (below_step q0_ hb); clear HO103; clear HO106; clear HB; have HO103 := n0_; have HO106 := n1_; have HO112 := n2_; have HB := n3_; clear n0_ n1_ n2_ n3_; (try clear hb); (try clear hb2); (try clear hk); (try clear hi); (try clear ho0)))
     go_ret
     exact ⟨q3_, q0_⟩
   ·rw [if_neg c5] at H
    have c5b0 : (t110 == 0) = false := beq_eq_false_iff_ne.mpr c5
    have c5b1 : (t110 != 0) = true := bne_iff_ne.mpr c5
    obtain rfl := Option.some.inj H
    go_enter Tryz.func9, Tryz.ntmps9
    go_wp2_with (first | ((with_reducible refine gate_dst (N := 8) rfl ?_); (try (refine gate_guard (by rfl) ?_; dsimp only)); refine Kd.S_lit k29 _ 29 ?hg (N := 8) ?hd (xs := ([(⟨1, (⟨#[101, 110]⟩ : ByteArray), (⟨#[]⟩ : ByteArray), false, ([] : List ByteArray), (⟨#[]⟩ : ByteArray), (⟨#[]⟩ : ByteArray), ([] : List (S44))⟩ : S29)] : List (S29))) (inner := [.int .i64 1, .string (⟨#[101, 110]⟩ : ByteArray), .string (⟨#[]⟩ : ByteArray), .bool false, .slice none 0 0, .string (⟨#[]⟩ : ByteArray), .string (⟨#[]⟩ : ByteArray), .slice none 0 0]) (ok := fun _ => True) (okp := fun _ => True) ?hr ?hp (fun _ hk => hk) trivial (Below.refl _ _) (Nat.le_refl _) (by simp) ?_; (case hd => rfl); (case hg => rfl); (case hr => first | (go_simp; done) | (go_simp; rfl)); (case hp => exact (Reps.c8 (show Kd.M k29 _ _ _ (⟨1, (⟨#[101, 110]⟩ : ByteArray), (⟨#[]⟩ : ByteArray), false, ([] : List ByteArray), (⟨#[]⟩ : ByteArray), (⟨#[]⟩ : ByteArray), ([] : List (S44))⟩ : S29) [.int .i64 1, .string (⟨#[101, 110]⟩ : ByteArray), .string (⟨#[]⟩ : ByteArray), .bool false, .slice none 0 0, .string (⟨#[]⟩ : ByteArray), .string (⟨#[]⟩ : ByteArray), .slice none 0 0] from (k29_mkM _ _ _ (⟨1, (⟨#[101, 110]⟩ : ByteArray), (⟨#[]⟩ : ByteArray), false, ([] : List ByteArray), (⟨#[]⟩ : ByteArray), (⟨#[]⟩ : ByteArray), ([] : List (S44))⟩ : S29) (Kd.R_nil _ _ _ _ _) (Kd.R_nil _ _ _ _ _))) (Reps.none _ _))); intro v102 w32 ho33 hb hg_ hnew_; clear hg_ hnew_; (first | rw [← Ny101.out] at ho33 | (simp only [Int.reduceToNat] at ho33; rw [← Ny101.out] at ho33)); have n0_ := Aside0.mk (Kd.S_lower ho33 (below_size q0_)); have n1_ := Aside0.mk (below_step q0_ hb); clear HB; have HO103 := n0_; have HB := n1_; clear n0_ n1_; clear hb ho33; obtain ⟨Ao34, co34, eo34⟩ := Kd.S_slice HO103.out; subst eo34) | ((with_reducible refine gate_callee (f := 14) rfl ?_); refine goesL_ (some 9) rfl rfl Tryz.func14 (by kernel_rfl) rfl #[.slice Ao34 y101.length co34] rfl q2_ ?_; (with_reducible refine (script_Encode.calls _ _ y101 t104 t107 _ ?side1 ?side2 A1.out).mono ?_); (case side1 => repeat (first | exact (Kd.S_reads' HO103.out).2.2 | (with_reducible refine Kd.C_alloc ?_ _) | (with_reducible refine Kd.C_drewN ?_ _) | (with_reducible refine Kd.C_drew ?_))); (case side2 => exact (Kd.S_reads' HO103.out).2.1); rintro e w35 ⟨v105, rfl, ho0, hb⟩; refine ⟨_, rfl, ?_⟩; have n0_ := Aside0.mk (Kd.S_below q1_ hb); have n1_ := Aside0.mk (Kd.V_lower (Kd.V_mono (ok' := fun k_ => some k_ ≠ (.slice Ao34 y101.length co34 : Value).ownBlock) ho0 (fun k_ hk_ => (Kd.fresh' (Kd.S_lt q1_) k_ hk_))) (below_size q0_)); have n2_ := Aside0.mk (below_step q0_ hb); clear HO103; clear HB; have HO103 := n0_; have HO106 := n1_; have HB := n2_; clear n0_ n1_ n2_; (try clear hb); (try clear hb2); (try clear hk); (try clear hi); (try clear ho0); obtain ⟨Ao37, co37, eo37⟩ := Kd.V_slice HO106.out; subst eo37; have hcv36 := fun (c_ : Nat) => Kd.C_string (c := c_) (P := Tryz.prog) Tryz.underlying32 Tryz.underlying5 Tryz.underlying9 (Kd.V_reads' HO106.out).2.2) | ((with_reducible refine gate_callee (f := 15) rfl ?_); refine goesL_ (some 21) rfl rfl Tryz.func15 (by kernel_rfl) rfl #[.slice Ao37 t104.length co37] rfl q2_ ?_; (with_reducible refine (script_Decode.calls _ _ t104 t108 t109 t110 _ ?side1 ?side2 A4.out).mono ?_); (case side1 => repeat (first | exact (Kd.V_reads' HO106.out).2.2 | (with_reducible refine Kd.C_alloc ?_ _) | (with_reducible refine Kd.C_drewN ?_ _) | (with_reducible refine Kd.C_drew ?_))); (case side2 => exact (Kd.V_reads' HO106.out).2.1); rintro e w38 ⟨v111, rfl, ho0, hb⟩; refine ⟨_, rfl, ?_⟩; have n0_ := Aside0.mk (Kd.S_elder' q1_ (Kd.S_base ho0) hb); have n1_ := Aside0.mk (Kd.V_elder' q4_ (Kd.S_base ho0) hb); have n2_ := Aside0.mk (Kd.S_lower (Kd.S_new' ho0 (Kd.S_lt q1_)) (below_size q0_)); have n3_ := Aside0.mk (below_step q0_ hb); clear HO103; clear HO106; clear HB; have HO103 := n0_; have HO106 := n1_; have HO112 := n2_; have HB := n3_; clear n0_ n1_ n2_ n3_; (try clear hb); (try clear hb2); (try clear hk); (try clear hi); (try clear ho0)))
    go_ret
    exact ⟨q3_, q0_⟩
  ·rw [if_neg c3] at H
   have c3b0 : ((strOfNums t104).toList == ([49, 58, 99, 44, 50, 58, 101, 110, 44, 49, 58, 48, 44] : List UInt8)) = false := beq_eq_false_iff_ne.mpr c3
   have c3b1 : ((strOfNums t104).toList != ([49, 58, 99, 44, 50, 58, 101, 110, 44, 49, 58, 48, 44] : List UInt8)) = true := bne_iff_ne.mpr c3
   obtain rfl := Option.some.inj H
   go_enter Tryz.func9, Tryz.ntmps9
   go_wp2_with (first | ((with_reducible refine gate_dst (N := 8) rfl ?_); (try (refine gate_guard (by rfl) ?_; dsimp only)); refine Kd.S_lit k29 _ 29 ?hg (N := 8) ?hd (xs := ([(⟨1, (⟨#[101, 110]⟩ : ByteArray), (⟨#[]⟩ : ByteArray), false, ([] : List ByteArray), (⟨#[]⟩ : ByteArray), (⟨#[]⟩ : ByteArray), ([] : List (S44))⟩ : S29)] : List (S29))) (inner := [.int .i64 1, .string (⟨#[101, 110]⟩ : ByteArray), .string (⟨#[]⟩ : ByteArray), .bool false, .slice none 0 0, .string (⟨#[]⟩ : ByteArray), .string (⟨#[]⟩ : ByteArray), .slice none 0 0]) (ok := fun _ => True) (okp := fun _ => True) ?hr ?hp (fun _ hk => hk) trivial (Below.refl _ _) (Nat.le_refl _) (by simp) ?_; (case hd => rfl); (case hg => rfl); (case hr => first | (go_simp; done) | (go_simp; rfl)); (case hp => exact (Reps.c8 (show Kd.M k29 _ _ _ (⟨1, (⟨#[101, 110]⟩ : ByteArray), (⟨#[]⟩ : ByteArray), false, ([] : List ByteArray), (⟨#[]⟩ : ByteArray), (⟨#[]⟩ : ByteArray), ([] : List (S44))⟩ : S29) [.int .i64 1, .string (⟨#[101, 110]⟩ : ByteArray), .string (⟨#[]⟩ : ByteArray), .bool false, .slice none 0 0, .string (⟨#[]⟩ : ByteArray), .string (⟨#[]⟩ : ByteArray), .slice none 0 0] from (k29_mkM _ _ _ (⟨1, (⟨#[101, 110]⟩ : ByteArray), (⟨#[]⟩ : ByteArray), false, ([] : List ByteArray), (⟨#[]⟩ : ByteArray), (⟨#[]⟩ : ByteArray), ([] : List (S44))⟩ : S29) (Kd.R_nil _ _ _ _ _) (Kd.R_nil _ _ _ _ _))) (Reps.none _ _))); intro v102 w39 ho40 hb hg_ hnew_; clear hg_ hnew_; (first | rw [← Ny101.out] at ho40 | (simp only [Int.reduceToNat] at ho40; rw [← Ny101.out] at ho40)); have n0_ := Aside0.mk (Kd.S_lower ho40 (below_size q0_)); have n1_ := Aside0.mk (below_step q0_ hb); clear HB; have HO103 := n0_; have HB := n1_; clear n0_ n1_; clear hb ho40; obtain ⟨Ao41, co41, eo41⟩ := Kd.S_slice HO103.out; subst eo41) | ((with_reducible refine gate_callee (f := 14) rfl ?_); refine goesL_ (some 9) rfl rfl Tryz.func14 (by kernel_rfl) rfl #[.slice Ao41 y101.length co41] rfl q2_ ?_; (with_reducible refine (script_Encode.calls _ _ y101 t104 t107 _ ?side1 ?side2 A1.out).mono ?_); (case side1 => repeat (first | exact (Kd.S_reads' HO103.out).2.2 | (with_reducible refine Kd.C_alloc ?_ _) | (with_reducible refine Kd.C_drewN ?_ _) | (with_reducible refine Kd.C_drew ?_))); (case side2 => exact (Kd.S_reads' HO103.out).2.1); rintro e w42 ⟨v105, rfl, ho0, hb⟩; refine ⟨_, rfl, ?_⟩; have n0_ := Aside0.mk (Kd.S_below q1_ hb); have n1_ := Aside0.mk (Kd.V_lower (Kd.V_mono (ok' := fun k_ => some k_ ≠ (.slice Ao41 y101.length co41 : Value).ownBlock) ho0 (fun k_ hk_ => (Kd.fresh' (Kd.S_lt q1_) k_ hk_))) (below_size q0_)); have n2_ := Aside0.mk (below_step q0_ hb); clear HO103; clear HB; have HO103 := n0_; have HO106 := n1_; have HB := n2_; clear n0_ n1_ n2_; (try clear hb); (try clear hb2); (try clear hk); (try clear hi); (try clear ho0); (try (obtain ⟨Ac_, cc_, ec_⟩ := Kd.V_slice HO106.out; subst ec_)); have hcv43 := fun (c_ : Nat) => Kd.C_string (c := c_) (P := Tryz.prog) Tryz.underlying32 Tryz.underlying5 Tryz.underlying9 (Kd.V_reads' HO106.out).2.2))
   go_ret
   exact ⟨q3_, q0_⟩
 ·rw [if_neg c2] at H
  have c2b0 : (t107 == 0) = false := beq_eq_false_iff_ne.mpr c2
  have c2b1 : (t107 != 0) = true := bne_iff_ne.mpr c2
  obtain rfl := Option.some.inj H
  go_enter Tryz.func9, Tryz.ntmps9
  go_wp2_with (first | ((with_reducible refine gate_dst (N := 8) rfl ?_); (try (refine gate_guard (by rfl) ?_; dsimp only)); refine Kd.S_lit k29 _ 29 ?hg (N := 8) ?hd (xs := ([(⟨1, (⟨#[101, 110]⟩ : ByteArray), (⟨#[]⟩ : ByteArray), false, ([] : List ByteArray), (⟨#[]⟩ : ByteArray), (⟨#[]⟩ : ByteArray), ([] : List (S44))⟩ : S29)] : List (S29))) (inner := [.int .i64 1, .string (⟨#[101, 110]⟩ : ByteArray), .string (⟨#[]⟩ : ByteArray), .bool false, .slice none 0 0, .string (⟨#[]⟩ : ByteArray), .string (⟨#[]⟩ : ByteArray), .slice none 0 0]) (ok := fun _ => True) (okp := fun _ => True) ?hr ?hp (fun _ hk => hk) trivial (Below.refl _ _) (Nat.le_refl _) (by simp) ?_; (case hd => rfl); (case hg => rfl); (case hr => first | (go_simp; done) | (go_simp; rfl)); (case hp => exact (Reps.c8 (show Kd.M k29 _ _ _ (⟨1, (⟨#[101, 110]⟩ : ByteArray), (⟨#[]⟩ : ByteArray), false, ([] : List ByteArray), (⟨#[]⟩ : ByteArray), (⟨#[]⟩ : ByteArray), ([] : List (S44))⟩ : S29) [.int .i64 1, .string (⟨#[101, 110]⟩ : ByteArray), .string (⟨#[]⟩ : ByteArray), .bool false, .slice none 0 0, .string (⟨#[]⟩ : ByteArray), .string (⟨#[]⟩ : ByteArray), .slice none 0 0] from (k29_mkM _ _ _ (⟨1, (⟨#[101, 110]⟩ : ByteArray), (⟨#[]⟩ : ByteArray), false, ([] : List ByteArray), (⟨#[]⟩ : ByteArray), (⟨#[]⟩ : ByteArray), ([] : List (S44))⟩ : S29) (Kd.R_nil _ _ _ _ _) (Kd.R_nil _ _ _ _ _))) (Reps.none _ _))); intro v102 w44 ho45 hb hg_ hnew_; clear hg_ hnew_; (first | rw [← Ny101.out] at ho45 | (simp only [Int.reduceToNat] at ho45; rw [← Ny101.out] at ho45)); have n0_ := Aside0.mk (Kd.S_lower ho45 (below_size q0_)); have n1_ := Aside0.mk (below_step q0_ hb); clear HB; have HO103 := n0_; have HB := n1_; clear n0_ n1_; clear hb ho45; obtain ⟨Ao46, co46, eo46⟩ := Kd.S_slice HO103.out; subst eo46) | ((with_reducible refine gate_callee (f := 14) rfl ?_); refine goesL_ (some 9) rfl rfl Tryz.func14 (by kernel_rfl) rfl #[.slice Ao46 y101.length co46] rfl q2_ ?_; (with_reducible refine (script_Encode.calls _ _ y101 t104 t107 _ ?side1 ?side2 A1.out).mono ?_); (case side1 => repeat (first | exact (Kd.S_reads' HO103.out).2.2 | (with_reducible refine Kd.C_alloc ?_ _) | (with_reducible refine Kd.C_drewN ?_ _) | (with_reducible refine Kd.C_drew ?_))); (case side2 => exact (Kd.S_reads' HO103.out).2.1); rintro e w47 ⟨v105, rfl, ho0, hb⟩; refine ⟨_, rfl, ?_⟩; have n0_ := Aside0.mk (Kd.S_below q1_ hb); have n1_ := Aside0.mk (Kd.V_lower (Kd.V_mono (ok' := fun k_ => some k_ ≠ (.slice Ao46 y101.length co46 : Value).ownBlock) ho0 (fun k_ hk_ => (Kd.fresh' (Kd.S_lt q1_) k_ hk_))) (below_size q0_)); have n2_ := Aside0.mk (below_step q0_ hb); clear HO103; clear HB; have HO103 := n0_; have HO106 := n1_; have HB := n2_; clear n0_ n1_ n2_; (try clear hb); (try clear hb2); (try clear hk); (try clear hi); (try clear ho0)))
  go_ret
  exact ⟨q3_, q0_⟩
end Go.Proofs.YtdhpcofnddkcaaaGreatDoor.S
namespace Go.Proofs.YtdhpcofnddkcaaaGreatDoor.S
open Go.RowKit Go.Proofs.YtdhpcofnddkcaaaGreatDoor.G Go.Proofs.YtdhpcofnddkcaaaGreatDoorW.PrintWords Go.Proofs.YtdhpcofnddkcaaaGreatDoorW.PrintLast Go.Proofs.YtdhpcofnddkcaaaGreatDoorW.PrintMore
set_option linter.unusedVariables false
set_option linter.unusedSimpArgs false
def nums8 (l : List UInt8) : List Int := l.map fun c => (c.toNat : Int)
theorem bl_nums (l : List UInt8) : bl (strOfNums (nums8 l)) = l := by
  show (strOfNums (nums8 l)).data.toList = l
  rw [strOfNums_data]
  unfold nums8
  rw [List.map_map]
  conv => rhs; rw [← List.map_id l]
  refine List.map_congr_left fun c _ => ?_
  show UInt8.ofNat ((c.toNat : Int)).toNat = c
  simp
theorem nums8_len (l : List UInt8) : (nums8 l).length = l.length := List.length_map _
def headS : S29 := ⟨1, ⟨#[101, 110]⟩, ⟨#[]⟩, false, [], ⟨#[]⟩, ⟨#[]⟩, []⟩
theorem toSt_head : toSt headS = Net.stE := rfl
theorem ofSt_head : ofSt Net.stE = headS := rfl
theorem encode_head : script_Encode.f [headS] = some (nums8 (Net.encs (Net.parts Net.stE)), 0) := by
  have e : Net.encS ([headS].map toSt) = Net.encs (Net.parts Net.stE) := by
    show Net.encs (Net.parts Net.stE) ++ [] = _
    rw [List.append_nil]
  unfold script_Encode.f
  rw [if_pos (by decide), e, if_pos ⟨by rw [Net.stE_bytes]; decide, fun s hs => by
    rw [List.mem_singleton] at hs
    subst hs
    exact ⟨by decide, by decide, fun a ha => by cases ha⟩⟩, if_pos (show ([headS].map toSt).all (Net.right okA) = true from rfl)]
  rfl
theorem decode_of {list : List Net.St} (hr : ∀ s ∈ list, Net.right okA s = true) (hs : ∀ s ∈ list, Net.small s) (hm : list.length ≤ 4096) (hl : (Net.encS list).length ≤ 100000) (hf : list.length ≤ (Net.encS list).length + 1) :
    script_Decode.f (nums8 (Net.encS list)) = some (list.map ofSt, ((Net.encS list).length : Int), 0) := by
  unfold script_Decode.f
  rw [nums8_len, if_pos (by omega), if_neg (by omega)]
  show some ((Net.decR okA (bl (strOfNums (nums8 (Net.encS list)))) _ 4096 0).1.map ofSt, ((Net.decR okA (bl (strOfNums (nums8 (Net.encS list)))) _ 4096 0).2.1 : Int), (Net.decR okA (bl (strOfNums (nums8 (Net.encS list)))) _ 4096 0).2.2) = _
  rw [bl_nums]
  have := Net.decR_all okA_kind (f := (Net.encS list).length + 1 - list.length) hr hs hm
  rw [show list.length + ((Net.encS list).length + 1 - list.length) = (Net.encS list).length + 1 by omega] at this
  rw [this]
theorem head_f : polyglotlaw18_head.f = some true := by
  have hb : Net.encS [Net.stE] = Net.encs (Net.parts Net.stE) := by
    show Net.encs (Net.parts Net.stE) ++ [] = _
    rw [List.append_nil]
  have hd := decode_of (list := [Net.stE]) (fun s h => by rw [List.mem_singleton] at h; subst h; exact Net.stE_right okA) (fun s h => by rw [List.mem_singleton] at h; subst h; exact Net.stE_small) (by decide) (by rw [hb, Net.stE_bytes]; decide) (by rw [hb, Net.stE_bytes]; decide)
  rw [hb] at hd
  unfold polyglotlaw18_head.f
  show (script_Encode.f [headS]).bind _ = _
  rw [encode_head, Option.bind_some]
  show (if (0 : Int) = 0 then _ else _) = _
  rw [if_pos rfl, tl, bl_nums, if_pos Net.stE_bytes, hd, Option.bind_some]
  show (if (0 : Int) = 0 then _ else _) = _
  rw [if_pos rfl, nums8_len]
  show (if ((Net.encs (Net.parts Net.stE)).length : Int) = _ then _ else _) = _
  rw [if_pos rfl]
  show (if (1 : Int) = 1 then (if (0 : Int) < 1 then some (headS.f1.toList == ([101, 110] : List UInt8)) else none) else some false) = some true
  rw [if_pos rfl, if_pos (by decide), tl]
  rfl
end Go.Proofs.YtdhpcofnddkcaaaGreatDoor.S
namespace Go.Proofs.YtdhpcofnddkcaaaGreatDoor.S
open Go.RowKit Go.Proofs.YtdhpcofnddkcaaaGreatDoor.G Go.Proofs.YtdhpcofnddkcaaaGreatDoorW.PrintWords Go.Proofs.YtdhpcofnddkcaaaGreatDoorW.PrintLast Go.Proofs.YtdhpcofnddkcaaaGreatDoorW.PrintMore
attribute [local go_sem] max2_int min2_int max_two min_two max_three min_three max_four min_four
set_option linter.unusedVariables false
set_option linter.unusedSimpArgs false
theorem eqA46 (d : Nat) (w : World) (x0 y0 : Bool) (x1 y1 : ByteArray) (x2 y2 : Int) :
    (Op.equalIn (d + 2) 46 (.agg #[.bool x0, .string x1, .int .i64 x2]) (.agg #[.bool y0, .string y1, .int .i64 y2])).run Tryz.prog w = .ok (x0 == y0 && (x1.toList == y1.toList && (x2 == y2))) w := by
  refine eqA_of Tryz.underlying46 (by kernel_rfl) ?_
  refine eqf_cons (by rfl) (by go_simp; rfl) (by go_simp; rfl) (by go_simp) ?_
  refine eqf_cons (by rfl) (by go_simp; rfl) (by go_simp; rfl) (by go_simp) ?_
  exact eqf_last (by rfl) (by go_simp; rfl) (by go_simp; rfl) (by go_simp)
end Go.Proofs.YtdhpcofnddkcaaaGreatDoor.S
namespace Go.Proofs.YtdhpcofnddkcaaaGreatDoor.S
open Go.RowKit Go.Proofs.YtdhpcofnddkcaaaGreatDoor.G Go.Proofs.YtdhpcofnddkcaaaGreatDoorW.PrintWords Go.Proofs.YtdhpcofnddkcaaaGreatDoorW.PrintLast Go.Proofs.YtdhpcofnddkcaaaGreatDoorW.PrintMore
attribute [local go_sem] max2_int min2_int max_two min_two max_three min_three max_four min_four
set_option linter.unusedVariables false
set_option linter.unusedSimpArgs false
theorem eqA48 (d : Nat) (w : World) (x0 y0 : Int) (x1 y1 : Int) (x2 y2 : Int) (x3 y3 : Bool) (x4 y4 : Bool) :
    (Op.equalIn (d + 2) 48 (.agg #[.int .i64 x0, .int .i64 x1, .int .i64 x2, .bool x3, .bool x4]) (.agg #[.int .i64 y0, .int .i64 y1, .int .i64 y2, .bool y3, .bool y4])).run Tryz.prog w = .ok (x0 == y0 && (x1 == y1 && (x2 == y2 && (x3 == y3 && (x4 == y4))))) w := by
  refine eqA_of Tryz.underlying48 (by kernel_rfl) ?_
  refine eqf_cons (by rfl) (by go_simp; rfl) (by go_simp; rfl) (by go_simp) ?_
  refine eqf_cons (by rfl) (by go_simp; rfl) (by go_simp; rfl) (by go_simp) ?_
  refine eqf_cons (by rfl) (by go_simp; rfl) (by go_simp; rfl) (by go_simp) ?_
  refine eqf_cons (by rfl) (by go_simp; rfl) (by go_simp; rfl) (by go_simp) ?_
  exact eqf_last (by rfl) (by go_simp; rfl) (by go_simp; rfl) (by go_simp)
theorem eqA51 (d : Nat) (w : World) (x0 y0 : Int) (x1 y1 : ByteArray) (x2 y2 : Bool) (x3 y3 : ByteArray) (x4 y4 : Int) (x5 y5 : Int) (x6 y6 : Int) (x7 y7 : Int) (x8 y8 : Bool) (x9 y9 : Bool) (x10 y10 : Int) (x11 y11 : Int) :
    (Op.equalIn (d + 3) 51 (.agg #[.int .i64 x0, .string x1, .bool x2, .string x3, .int .i64 x4, .int .i64 x5, .int .i64 x6, .int .i64 x7, .bool x8, .bool x9, .int .i64 x10, .int .i64 x11]) (.agg #[.int .i64 y0, .string y1, .bool y2, .string y3, .int .i64 y4, .int .i64 y5, .int .i64 y6, .int .i64 y7, .bool y8, .bool y9, .int .i64 y10, .int .i64 y11])).run Tryz.prog w = .ok (x0 == y0 && (x1.toList == y1.toList && ((x2 == y2 && (x3.toList == y3.toList && (x4 == y4))) && ((x5 == y5 && (x6 == y6 && (x7 == y7 && (x8 == y8 && (x9 == y9))))) && (x10 == y10 && (x11 == y11)))))) w := by
  refine eqA_of Tryz.underlying51 (by kernel_rfl) ?_
  refine eqf_cons (by rfl) (by go_simp; rfl) (by go_simp; rfl) (by go_simp) ?_
  refine eqf_cons (by rfl) (by go_simp; rfl) (by go_simp; rfl) (by go_simp) ?_
  refine eqf_cons (by rfl) (by go_simp) (by go_simp) (eqA46 (d + 0) w _ _ _ _ _ _) ?_
  refine eqf_cons (by rfl) (by go_simp) (by go_simp) (eqA48 (d + 0) w _ _ _ _ _ _ _ _ _ _) ?_
  refine eqf_cons (by rfl) (by go_simp; rfl) (by go_simp; rfl) (by go_simp) ?_
  exact eqf_last (by rfl) (by go_simp; rfl) (by go_simp; rfl) (by go_simp)
end Go.Proofs.YtdhpcofnddkcaaaGreatDoor.S
