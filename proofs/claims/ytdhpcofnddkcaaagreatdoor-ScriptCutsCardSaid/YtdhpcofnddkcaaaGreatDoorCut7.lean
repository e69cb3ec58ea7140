/- ScriptCuts: for every step, int and slice of steps the call returns true and leaves them unchanged (Text 8 of 9: what the law's proof rests on, joined; walks printed by the kit's print over given contracts, walks and plain laws by hand.) -/
import Derived.IntWalk
import Derived.Lib.Hide
import Derived.Test.YtdhpcofnddkcaaaGreatDoorCut0
import Derived.Test.YtdhpcofnddkcaaaGreatDoorCut1
import Derived.Test.YtdhpcofnddkcaaaGreatDoorCut2
import Derived.Test.YtdhpcofnddkcaaaGreatDoorCut3
import Derived.Test.YtdhpcofnddkcaaaGreatDoorCut4
import Derived.Test.YtdhpcofnddkcaaaGreatDoorCut5
import Derived.Test.YtdhpcofnddkcaaaGreatDoorCut6
namespace Go.Proofs.YtdhpcofnddkcaaaGreatDoor.S
open Go.RowKit Go.Proofs.YtdhpcofnddkcaaaGreatDoor.G Go.Proofs.YtdhpcofnddkcaaaGreatDoorW.PrintWords Go.Proofs.YtdhpcofnddkcaaaGreatDoorW.PrintLast Go.Proofs.YtdhpcofnddkcaaaGreatDoorW.PrintMore
attribute [local go_sem] max2_int min2_int max_two min_two max_three min_three max_four min_four
set_option linter.unusedVariables false
set_option linter.unusedSimpArgs false
def DecEnd (r0 : List S29) (r1 r2 : Int) (w : World) (e : Ending) (w' : World) : Prop :=
  ∃ v, e = .returned (.tuple #[v, .int .i64 r1, .int .i64 r2]) ∧ Kd.S k29 29 w' w.heap.size (fun _ => True) v r0 ∧ Below w.heap.size w w'
def DecRel (s : ByteArray) (L : List S29) (n : Nat) (e : Int) (w : World) (g fuel a : Nat) (v : Value) (w' : World) : Prop :=
  ∃ xs : List S29, xs.length ≤ 4096 ∧ a ≤ s.size ∧ s.size < fuel + a ∧ L = xs ++ (Net.decR okA (Net.lb s) fuel (4096 - xs.length) a).1.map ofSt ∧ n = (Net.decR okA (Net.lb s) fuel (4096 - xs.length) a).2.1 ∧ e = (Net.decR okA (Net.lb s) fuel (4096 - xs.length) a).2.2 ∧
    IsS71 w w' g s (a : Int) false ∧ Kd.S k29 29 w' w.heap.size (fun k => k ≠ g) v xs ∧ Below w.heap.size w w'
set_option maxHeartbeats 8000000 in
set_option maxRecDepth 100000 in
theorem decode_any (A : Option Addr) (c : Nat) (l : List Int) (w : World) (hr : Kd.C (Kd.int .u8) w A l.length l) (hc : l.length ≤ c) (hl : l.length ≤ 262144) (k : Nat) (s : ByteArray) (hs : strOfNums l = s) (hsz : s.size = l.length)
    (hS : ∀ a : Nat, a < s.size → match Net.stepR (Net.lb s) a with
      | some (st, b) => script_reader_step.f k s (a : Int) false = some ((ofSt st).f0, (ofSt st).f1, (ofSt st).f2, (ofSt st).f3, (ofSt st).f4, (ofSt st).f5, (ofSt st).f6, (ofSt st).f7, s, (b : Int), false) ∧ (Net.right okA st = true → a < b) ∧ b ≤ s.size ∧
          script_Step_Right.f k (ofSt st).f0 (ofSt st).f1 (ofSt st).f2 (ofSt st).f3 (ofSt st).f4 (ofSt st).f5 (ofSt st).f6 (ofSt st).f7 = some (Net.right okA st)
      | none => ∃ (q : Int) (t b : ByteArray) (o : Bool) (ws : List ByteArray) (n m : ByteArray) (ags : List S44) (a1 : Int), script_reader_step.f k s (a : Int) false = some (q, t, b, o, ws, n, m, ags, s, a1, true))
    (L : List S29) (n : Nat) (e : Int) (h1 : L = (Net.decR okA (Net.lb s) (l.length + 1) 4096 0).1.map ofSt) (h2 : n = (Net.decR okA (Net.lb s) (l.length + 1) 4096 0).2.1) (h3 : e = (Net.decR okA (Net.lb s) (l.length + 1) 4096 0).2.2)
    (HT : Tab_ w) (HP : TabP_ w) (HE : TabE_ w) :
    Calls Tryz.prog 15 #[.slice A l.length c] w (DecEnd L n e w) := by
  have n1 : decide ((262144 : Int) < (l.length : Int)) = false := decide_eq_false (by omega)
  have n2 : (l.length : Int) ≤ 262144 := by omega
  have hcv : (convert 32 9 (.slice A l.length c)).run Tryz.prog w = .ok (.string s) w := by
    rw [← hs]
    exact Kd.C_string Tryz.underlying32 Tryz.underlying5 Tryz.underlying9 hr
  have HS := Lib.hid hS
  have HC := Lib.hid hr
  have H1 := Lib.hid h1
  have H2 := Lib.hid h2
  have H3 := Lib.hid h3
  have HSZ := Lib.hid hsz
  have m1 : (s.size : Int) ≤ 262144 := by omega
  clear hS hr hs h1 h2 h3 hsz
  go_enter Tryz.func15, Tryz.ntmps15
  go_wp2
  go_loopg [6] (l.length + 1) (fun fuel v6 w' => ∃ a : Nat, DecRel s L n e w w.heap.size fuel a v6 w')
  case atStart =>
    have hI := IsS71.new w w s 0 false (Below.refl _ _)
    refine ⟨0, [], by simp, by omega, by have := HSZ.out; omega, H1.out, H2.out, H3.out, hI, Kd.S_nil _ _ _ _ _, below_alloc (Below.refl _ _) _⟩
  case round =>
    obtain ⟨a, xs, hx, ha, hf, g1, g2, g3, hI, hv, hb⟩ := hrel
    have k0 := cellS71_0 hI.1
    have k1 := cellS71_1 hI.1
    have k2 := cellS71_2 hI.1
    have HI := Lib.hid hI
    have HV := Lib.hid hv
    have HB := Lib.hid hb
    obtain ⟨Ax, cx, rfl⟩ := Kd.S_slice hv
    clear hI hv hb
    by_cases hlt : a < s.size
    · have q0 : decide (a < s.size) = true := decide_eq_true hlt
      have HG1 := Lib.hid g1
      have HG2 := Lib.hid g2
      have HG3 := Lib.hid g3
      have HF := Lib.hid hf
      have HA := Lib.hid hlt
      have HX := Lib.hid hx
      clear g1 g2 g3 hf hlt ha hx
      go_wp2
      go_quiet (fail)
      go_upto_region 7 with (fail)
      have cS := HS.out a HA.out
      have HTw := Tab_.step HT HB.out
      have HPw := TabP_.step HP HB.out
      have HEw := TabE_.step HE HB.out
      cases hst : Net.stepR (Net.lb s) a with
      | none =>
        rw [hst] at cS
        obtain ⟨q, t, b, o, ws, nm, mm, ags, a1, hf⟩ := cS
        have cC := script_reader_step.calls k w.heap.size s (a : Int) false q t b o ws nm mm ags s a1 true w (wr.drewN nq) (IsS71.drewN HI.out nq) (pw_below_drewN HB.out nq) hf HT HP HE
        have HST := Lib.hid hst
        clear hst hf
        go_upto_region 8 with (first
          | (go_at_call 25; refine cC.mono ?_; rintro e1 W1 ⟨v4, v7, rfl, h4, h7, hI1, hb1, hk1⟩; obtain ⟨A4, c4, rfl⟩ := Kd.R_slice h4; obtain ⟨A7, c7, rfl⟩ := Kd.R_slice h7; have HI1 := Lib.hid hI1; have HB1 := Lib.hid hb1; have HK1 := Lib.hid hk1; clear h4 h7 hI1 hb1 hk1)
          | ((with_reducible refine gate_dst (N := 8) rfl ?_); (try (refine gate_guard (by rfl) ?_; dsimp only)); refine box_event ?hg (N := 8) ?hd (cs := #[.int .i64 0, .string (⟨#[]⟩ : ByteArray), .string (⟨#[]⟩ : ByteArray), .bool false, .slice none 0 0, .string (⟨#[]⟩ : ByteArray), .string (⟨#[]⟩ : ByteArray), .slice none 0 0]) (t := 29) ?hr ?_; (case hd => rfl); (case hg => rfl); (case hr => first | (go_simp; done) | (go_simp; rfl)); intro gb hg W2 hbox hb; have hfz0 := blk_frozen hbox 0; have hfz1 := blk_frozen hbox 1; have hfz2 := blk_frozen hbox 2; have hfz3 := blk_frozen hbox 3; have hfz4 := blk_frozen hbox 4; have hfz5 := blk_frozen hbox 5; have hfz6 := blk_frozen hbox 6; have hfz7 := blk_frozen hbox 7; have hc0 := blk_cell hbox 0; have hc1 := blk_cell hbox 1; have hc2 := blk_cell hbox 2; have hc3 := blk_cell hbox 3; have hc4 := blk_cell hbox 4; have hc5 := blk_cell hbox 5; have hc6 := blk_cell hbox 6; have hc7 := blk_cell hbox 7; have HBX := Lib.hid hbox; have HBB := Lib.hid hb; have HGB := Lib.hid hg; clear hbox hb hg))
        have hgb : gb = W1.heap.size := HGB.out
        have BK := blk_put8 HBX.out (.int .i64 q) (.string t) (.string b) (.bool o) (.slice A4 ws.length c4) (.string nm) (.string mm) (.slice A7 ags.length c7)
        have HS8 := below_set8 HBB.out (by omega : W1.heap.size ≤ gb) (.int .i64 q) (.string t) (.string b) (.bool o) (.slice A4 ws.length c4) (.string nm) (.string mm) (.slice A7 ags.length c7)
        generalize ((((((((W2.setCell ⟨gb, 0, none⟩ (.int .i64 q)).setCell ⟨gb, 1, none⟩ (.string t)).setCell ⟨gb, 2, none⟩ (.string b)).setCell ⟨gb, 3, none⟩ (.bool o)).setCell ⟨gb, 4, none⟩ (.slice A4 ws.length c4)).setCell ⟨gb, 5, none⟩ (.string nm)).setCell ⟨gb, 6, none⟩ (.string mm)).setCell ⟨gb, 7, none⟩ (.slice A7 ags.length c7)) = W3 at BK HS8 ⊢
        have hI3 := HI1.out.below HS8
        have hB3 := below_step HB1.out HS8
        have hV3 := Kd.S_below (Kd.S_keep (Kd.S_drewN (Kd.S_mono (Kd.S_bound HV.out) (fun k_ hk_ => (⟨hk_.1, Nat.not_le.2 hk_.2.2.1⟩ : k_ ≠ w.heap.size ∧ ¬ wr.heap.size ≤ k_))) nq) HK1.out (fun _ h => h.1)) HS8
        clear HS8 BK hgb hfz0 hfz1 hfz2 hfz3 hfz4 hfz5 hfz6 hfz7 hc0 hc1 hc2 hc3 hc4 hc5 hc6 hc7 HBX HBB HGB k0 k1 k2 cC
        have y0 := cellS71_0 hI3.1
        have y1 := cellS71_1 hI3.1
        have y2 := cellS71_2 hI3.1
        have HI3 := Lib.hid hI3
        have HB3 := Lib.hid hB3
        have HV3 := Lib.hid hV3
        clear hI3 hB3 hV3
        have hD : Net.decR okA (Net.lb s) gk (4096 - xs.length) a = ([], a, 2) := by
          obtain ⟨m, hm⟩ : ∃ m, gk = m + 1 := ⟨gk - 1, by have := HF.out; have := HA.out; omega⟩
          have hl : a < (Net.lb s).length := by
            have := Lib.size_eq s
            have := HA.out
            show a < s.data.toList.length
            omega
          rw [hm, Net.decR, if_pos hl, HST.out]
        have g1 := HG1.out
        have g2 := HG2.out
        have g3 := HG3.out
        rw [hD] at g1 g2 g3
        have e1 : L = xs := by rw [g1]; simp
        have e2 : n = a := g2
        have e3 : e = 2 := g3
        subst e1 e2 e3
        clear hD g1 g2 g3 HG1 HG2 HG3 H1 H2 H3
        go_wp2
        go_ret3
        exact ⟨_, rfl, Kd.S_mono HV3.out (fun _ _ => trivial), HB3.out⟩
      | some r =>
        obtain ⟨st, b⟩ := r
        rw [hst] at cS
        obtain ⟨hf, hab, hbs, hRt⟩ := cS
        generalize hxx : ofSt st = x at hf hRt
        have cC := script_reader_step.calls k w.heap.size s (a : Int) false x.f0 x.f1 x.f2 x.f3 x.f4 x.f5 x.f6 x.f7 s b false w (wr.drewN nq) (IsS71.drewN HI.out nq) (pw_below_drewN HB.out nq) hf HT HP HE
        have HST := Lib.hid hst
        have HXX := Lib.hid hxx
        have HRT := Lib.hid hRt
        have HAB := Lib.hid hab
        have HBS := Lib.hid hbs
        clear hst hf hxx hRt hab hbs
        go_upto_region 8 with (first
          | (go_at_call 25; refine cC.mono ?_; rintro e1 W1 ⟨v4, v7, rfl, h4, h7, hI1, hb1, hk1⟩; obtain ⟨A4, c4, rfl⟩ := Kd.R_slice h4; obtain ⟨A7, c7, rfl⟩ := Kd.R_slice h7; have HI1 := Lib.hid hI1; have HB1 := Lib.hid hb1; have HK1 := Lib.hid hk1; have H4 := Lib.hid h4; have H7 := Lib.hid h7; clear h4 h7 hI1 hb1 hk1)
          | ((with_reducible refine gate_dst (N := 8) rfl ?_); (try (refine gate_guard (by rfl) ?_; dsimp only)); refine box_event ?hg (N := 8) ?hd (cs := #[.int .i64 0, .string (⟨#[]⟩ : ByteArray), .string (⟨#[]⟩ : ByteArray), .bool false, .slice none 0 0, .string (⟨#[]⟩ : ByteArray), .string (⟨#[]⟩ : ByteArray), .slice none 0 0]) (t := 29) ?hr ?_; (case hd => rfl); (case hg => rfl); (case hr => first | (go_simp; done) | (go_simp; rfl)); intro gb hg W2 hbox hb; have hfz0 := blk_frozen hbox 0; have hfz1 := blk_frozen hbox 1; have hfz2 := blk_frozen hbox 2; have hfz3 := blk_frozen hbox 3; have hfz4 := blk_frozen hbox 4; have hfz5 := blk_frozen hbox 5; have hfz6 := blk_frozen hbox 6; have hfz7 := blk_frozen hbox 7; have hc0 := blk_cell hbox 0; have hc1 := blk_cell hbox 1; have hc2 := blk_cell hbox 2; have hc3 := blk_cell hbox 3; have hc4 := blk_cell hbox 4; have hc5 := blk_cell hbox 5; have hc6 := blk_cell hbox 6; have hc7 := blk_cell hbox 7; have HBX := Lib.hid hbox; have HBB := Lib.hid hb; have HGB := Lib.hid hg; clear hbox hb hg))
        have hgb : gb = W1.heap.size := HGB.out
        have BK := blk_put8 HBX.out (.int .i64 x.f0) (.string x.f1) (.string x.f2) (.bool x.f3) (.slice A4 x.f4.length c4) (.string x.f5) (.string x.f6) (.slice A7 x.f7.length c7)
        have HS8 := below_set8 HBB.out (by omega : W1.heap.size ≤ gb) (.int .i64 x.f0) (.string x.f1) (.string x.f2) (.bool x.f3) (.slice A4 x.f4.length c4) (.string x.f5) (.string x.f6) (.slice A7 x.f7.length c7)
        generalize ((((((((W2.setCell ⟨gb, 0, none⟩ (.int .i64 x.f0)).setCell ⟨gb, 1, none⟩ (.string x.f1)).setCell ⟨gb, 2, none⟩ (.string x.f2)).setCell ⟨gb, 3, none⟩ (.bool x.f3)).setCell ⟨gb, 4, none⟩ (.slice A4 x.f4.length c4)).setCell ⟨gb, 5, none⟩ (.string x.f5)).setCell ⟨gb, 6, none⟩ (.string x.f6)).setCell ⟨gb, 7, none⟩ (.slice A7 x.f7.length c7)) = W3 at BK HS8 ⊢
        have hI3 := HI1.out.below HS8
        have hB3 := below_step HB1.out HS8
        have hV3 := Kd.S_below (Kd.S_keep (Kd.S_drewN (Kd.S_mono (Kd.S_bound HV.out) (fun k_ hk_ => (⟨hk_.1, Nat.not_le.2 hk_.2.2.1⟩ : k_ ≠ w.heap.size ∧ ¬ wr.heap.size ≤ k_))) nq) HK1.out (fun _ h => h.1)) HS8
        have h43 := Kd.R_below H4.out HS8
        have h73 := Kd.R_below H7.out HS8
        have hN : wr.heap.size ≤ W3.heap.size := by have := HK1.out.1; have := HS8.size; simp at *; omega
        clear HS8 hgb hfz0 hfz1 hfz2 hfz3 hfz4 hfz5 hfz6 hfz7 hc0 hc1 hc2 hc3 hc4 hc5 hc6 hc7 HBX HBB HGB k0 k1 k2 cC
        have y0 := cellS71_0 hI3.1
        have y1 := cellS71_1 hI3.1
        have y2 := cellS71_2 hI3.1
        have HI3 := Lib.hid hI3
        have HB3 := Lib.hid hB3
        have HV3 := Lib.hid hV3
        clear hI3 hB3 hV3
        have hxl := HX.out
        have hlt : a < (Net.lb s).length := by
          have := Lib.size_eq s
          have := HA.out
          show a < s.data.toList.length
          omega
        obtain ⟨m, hm⟩ : ∃ m, gk = m + 1 := ⟨gk - 1, by have := HF.out; have := HA.out; omega⟩
        subst hm
        have z0 := blk_cell BK 0
        have z1 := blk_cell BK 1
        have z2 := blk_cell BK 2
        have z3 := blk_cell BK 3
        have z4 := blk_cell BK 4
        have z5 := blk_cell BK 5
        have z6 := blk_cell BK 6
        have z7 := blk_cell BK 7
        have cR := script_Step_Right.calls k x.f0 x.f1 x.f2 x.f3 A4 c4 x.f4 x.f5 x.f6 A7 c7 x.f7 (Net.right okA st) W3 (Kd.R_reads' h43).2.2 (Kd.R_reads' h43).2.1 (Kd.R_reads' h73).2.2 (Kd.R_reads' h73).2.1 HRT.out (Tab_.step HT HB3.out) (TabP_.step HP HB3.out) (TabE_.step HE HB3.out)
        have BK3 := Lib.hid BK
        have H43 := Lib.hid h43
        have H73 := Lib.hid h73
        have HNN := Lib.hid hN
        have HLT := Lib.hid hlt
        clear BK h43 h73 hN hlt
        by_cases hRx : Net.right okA st = true
        · rw [hRx] at cR
          have HRX := Lib.hid hRx
          clear hRx
          by_cases hfull : xs.length = 4096
          · have hD : Net.decR okA (Net.lb s) (m + 1) (4096 - xs.length) a = ([], a, 4) := by
              rw [Net.decR, if_pos HLT.out, HST.out]
              show (if Net.right okA st = true then _ else _) = _
              rw [if_pos HRX.out, if_pos (by omega)]
            have g1 := HG1.out
            have g2 := HG2.out
            have g3 := HG3.out
            rw [hD] at g1 g2 g3
            have e1 : L = xs := by rw [g1]; simp
            have e2 : n = a := g2
            have e3 : e = 4 := g3
            subst e1 e2 e3
            have q1 : ((L.length : Int) == 4096) = true := by rw [hfull]; rfl
            clear hD g1 g2 g3 HG1 HG2 HG3 H1 H2 H3 hfull hxl HX
            go_wp2_with ((go_at_call 11; refine cR.mono ?_; rintro e1 W5 ⟨rfl, b5⟩; have HB5 := Lib.hid (below_step HB3.out b5); have HV5 := Lib.hid (Kd.S_below HV3.out b5); clear b5))
            go_ret3
            exact ⟨_, rfl, Kd.S_mono HV5.out (fun _ _ => trivial), HB5.out⟩
          · have q1 : ((xs.length : Int) == 4096) = false := by
              rw [beq_eq_false_iff_ne]
              omega
            have q2 : (xs.length : Int) ≤ 4095 := by omega
            have hD : Net.decR okA (Net.lb s) (m + 1) (4096 - xs.length) a = (st :: (Net.decR okA (Net.lb s) m (4096 - (xs.length + 1)) b).1, (Net.decR okA (Net.lb s) m (4096 - (xs.length + 1)) b).2.1, (Net.decR okA (Net.lb s) m (4096 - (xs.length + 1)) b).2.2) := by
              rw [Net.decR, if_pos HLT.out, HST.out]
              show (if Net.right okA st = true then _ else _) = _
              rw [if_pos HRX.out, if_neg (by omega), show 4096 - xs.length - 1 = 4096 - (xs.length + 1) by omega]
            have g1 := HG1.out
            have g2 := HG2.out
            have g3 := HG3.out
            rw [hD] at g1 g2 g3
            rw [List.map_cons, HXX.out] at g1
            have HG4 := Lib.hid g1
            have HG5 := Lib.hid g2
            have HG6 := Lib.hid g3
            have hx5 : xs.length ≤ 4095 := by omega
            have HX5 := Lib.hid hx5
            clear hD g1 g2 g3 HG1 HG2 HG3 H1 H2 H3 hfull hxl HX hx5
            go_wp2_with (first
              | (go_at_call 11; refine cR.mono ?_; rintro e1 W5 ⟨rfl, b5⟩; have BK5 := blk_below BK3.out b5; have t0 := blk_cell BK5 0; have t1 := blk_cell BK5 1; have t2 := blk_cell BK5 2; have t3 := blk_cell BK5 3; have t4 := blk_cell BK5 4; have t5 := blk_cell BK5 5; have t6 := blk_cell BK5 6; have t7 := blk_cell BK5 7; have HB5 := Lib.hid (below_step HB3.out b5); have HV5 := Lib.hid (Kd.S_below HV3.out b5); have HI5 := Lib.hid (HI3.out.below b5); have H45 := Lib.hid (Kd.R_below H43.out b5); have H75 := Lib.hid (Kd.R_below H73.out b5); clear b5 BK5)
              | (at_builtin; refine Kd.S_append k29 (w0 := w) w.heap.size rfl (.tmp 48) (.tmp 50) 22 29 _ 128 rfl Tryz.underlying22 info29 rfl (by decide) (by decide) (.slice Ax xs.length cx) xs x [.int .i64 x.f0, .string x.f1, .string x.f2, .bool x.f3, .slice A4 x.f4.length c4, .string x.f5, .string x.f6, .slice A7 x.f7.length c7] (fun k_ => k_ ≠ w.heap.size) (fun k_ => wr.heap.size ≤ k_) rfl rfl ?c1 ?c2 ?c3 HV5.out HB5.out HB5.out.size ?c4 ?_))
            case c1 => exact k29_mkM _ _ _ x (Kd.R_lower (Kd.R_mono (Kd.R_bound H45.out) (fun _ hk => hk.2.1)) HB.out.size) (Kd.R_lower (Kd.R_mono (Kd.R_bound H75.out) (fun _ hk => hk.2.1)) HB.out.size)
            case c2 => exact fun k_ hk_ => ⟨by have := HI.out.lt; omega, fun he => by have := Kd.S_lt HV.out k_ he.symm; omega⟩
            case c3 => exact fun k_ hk_ => by have := HI5.out.lt; omega
            case c4 => have := HX5.out; omega
            intro v1 W6 hv1 hb1 hg1 hat
            have hI6 := HI5.out.grown hg1 (IsS71.own_neS HI.out HV.out (by decide))
            have HI6 := Lib.hid hI6
            have HV6 := Lib.hid hv1
            have HB6 := Lib.hid hb1
            clear hI6 hv1 hb1 hg1 hat
            go_wp2
            go_roundg m
            case measure => omega
            case rel =>
              refine ⟨b, xs ++ [x], ?_, HBS.out, ?_, ?_, ?_, ?_, HI6.out, HV6.out, HB6.out⟩
              · rw [List.length_append]
                have := HX5.out
                simp
                omega
              · have := HF.out
                have := HAB.out HRX.out
                omega
              · rw [HG4.out, List.length_append, List.append_assoc]
                rfl
              · rw [HG5.out, List.length_append]
                rfl
              · rw [HG6.out, List.length_append]
                rfl
        · have hRf : Net.right okA st = false := by simpa using hRx
          rw [hRf] at cR
          have hD : Net.decR okA (Net.lb s) (m + 1) (4096 - xs.length) a = ([], a, 2) := by
            rw [Net.decR, if_pos HLT.out, HST.out]
            show (if Net.right okA st = true then _ else _) = _
            rw [if_neg hRx]
          have g1 := HG1.out
          have g2 := HG2.out
          have g3 := HG3.out
          rw [hD] at g1 g2 g3
          have e1 : L = xs := by rw [g1]; simp
          have e2 : n = a := g2
          have e3 : e = 2 := g3
          subst e1 e2 e3
          clear hD g1 g2 g3 HG1 HG2 HG3 H1 H2 H3 hRx hRf hxl HX
          go_wp2_with ((go_at_call 11; refine cR.mono ?_; rintro e1 W5 ⟨rfl, b5⟩; have HB5 := Lib.hid (below_step HB3.out b5); have HV5 := Lib.hid (Kd.S_below HV3.out b5); clear b5))
          go_ret3
          exact ⟨_, rfl, Kd.S_mono HV5.out (fun _ _ => trivial), HB5.out⟩
    · have q0 : decide (a < s.size) = false := decide_eq_false hlt
      have hD : Net.decR okA (Net.lb s) gk (4096 - xs.length) a = ([], a, 0) := by
        obtain ⟨m, rfl⟩ : ∃ m, gk = m + 1 := ⟨gk - 1, by omega⟩
        have : ¬ a < (Net.lb s).length := by
          have := Lib.size_eq s
          show ¬ a < s.data.toList.length
          omega
        rw [Net.decR, if_neg this]
      rw [hD] at g1 g2 g3
      have e1 : L = xs := by rw [g1]; simp
      have e2 : n = a := g2
      have e3 : e = 0 := g3
      subst e1 e2 e3
      clear hD g1 g2 g3 hf hlt ha hx H1 H2 H3
      go_wp2
      go_quiet (fail)
      go_wp2
      go_quiet (fail)
      go_wp2
      go_ret3
      exact ⟨_, rfl, Kd.S_mono (Kd.S_drewN (Kd.S_drewN HV.out _) _) (fun _ _ => trivial), pw_below_drewN (pw_below_drewN HB.out _) _⟩
end Go.Proofs.YtdhpcofnddkcaaaGreatDoor.S
namespace Go.Proofs.YtdhpcofnddkcaaaGreatDoor.S
open Go.RowKit Go.Proofs.YtdhpcofnddkcaaaGreatDoor.G Go.Proofs.YtdhpcofnddkcaaaGreatDoorW.PrintWords Go.Proofs.YtdhpcofnddkcaaaGreatDoorW.PrintLast Go.Proofs.YtdhpcofnddkcaaaGreatDoorW.PrintMore
set_option linter.unusedVariables false
set_option linter.unusedSimpArgs false
theorem tx_none (s : ByteArray) (hs : s.size ≤ 1000000) (a : Nat) (ha : a ≤ s.size) : script_reader_text.f s (a : Int) true = some (Net.em, s, (a : Int), true) := by
  unfold script_reader_text.f
  rw [if_pos ⟨hs, by omega, by omega⟩, if_pos rfl]
  rfl
theorem tx_fail (s : ByteArray) (hs : s.size ≤ 1000000) (a : Nat) (ha : a ≤ s.size) (h : Net.rdB (bl s) a = none) : script_reader_text.f s (a : Int) false = some (Net.em, s, (a : Int), true) := by
  unfold script_reader_text.f
  rw [if_pos ⟨hs, by omega, by omega⟩, if_neg (by decide), Int.toNat_natCast]
  show (match Net.rdB (bl s) a with | some (p, b) => _ | none => _) = _
  rw [h]
  rfl
theorem tx_ok (s : ByteArray) (hs : s.size ≤ 1000000) (a : Nat) (ha : a ≤ s.size) {p : ByteArray} {b : Nat} (h : Net.rdB (bl s) a = some (p, b)) : script_reader_text.f s (a : Int) false = some (p, s, (b : Int), false) ∧ b ≤ s.size := by
  have hz : s.size = (bl s).length := sz s
  refine ⟨?_, ?_⟩
  · unfold script_reader_text.f
    rw [if_pos ⟨hs, by omega, by omega⟩, if_neg (by decide), Int.toNat_natCast]
    show (match Net.rdB (bl s) a with | some (p, b) => _ | none => _) = _
    rw [h]
  · obtain ⟨_, h2, h3⟩ := Net.rdB_sound h
    have := Net.drop_le h3 (by omega)
    omega
theorem cnt_em : Net.cnt (bl Net.em) = none := by
  cases h : Net.cnt (bl Net.em) with
  | none => rfl
  | some n => exact absurd (Net.cnt_some h).2.symm (Net.dec_ne n)
theorem count_none {p : ByteArray} (hp : p.size ≤ 281474976710656) (h : Net.cnt (bl p) = none) : ∃ v, script_count.f p = some (v, false) := by
  obtain ⟨v, b, h1, h2⟩ := count_cnt p hp
  have h2' : (match Net.cnt (bl p) with | some n => v = (n : Int) ∧ b = true | none => b = false) := h2
  rw [h] at h2'
  have : b = false := h2'
  subst this
  exact ⟨v, h1⟩
theorem count_some {p : ByteArray} {n : Nat} (hp : p.size ≤ 281474976710656) (h : Net.cnt (bl p) = some n) : script_count.f p = some ((n : Int), true) := by
  obtain ⟨v, b, h1, h2⟩ := count_cnt p hp
  have h2' : (match Net.cnt (bl p) with | some n => v = (n : Int) ∧ b = true | none => b = false) := h2
  rw [h] at h2'
  obtain ⟨rfl, rfl⟩ : v = (n : Int) ∧ b = true := h2'
  exact h1
theorem num_none (s : ByteArray) (hs : s.size ≤ 1000000) (a : Nat) (ha : a ≤ s.size) : script_reader_number.f s (a : Int) true = some (0, s, (a : Int), true) := by
  obtain ⟨v, hv⟩ := count_none (p := Net.em) (by decide) cnt_em
  unfold script_reader_number.f
  rw [tx_none s hs a ha, Option.bind_some, hv, Option.bind_some]
  rfl
theorem num_fail (s : ByteArray) (hs : s.size ≤ 1000000) (a : Nat) (ha : a ≤ s.size) (h : Net.rdB (bl s) a = none) : script_reader_number.f s (a : Int) false = some (0, s, (a : Int), true) := by
  obtain ⟨v, hv⟩ := count_none (p := Net.em) (by decide) cnt_em
  unfold script_reader_number.f
  rw [tx_fail s hs a ha h, Option.bind_some, hv, Option.bind_some]
  rfl
theorem num_no (s : ByteArray) (hs : s.size ≤ 1000000) (a : Nat) (ha : a ≤ s.size) {p : ByteArray} {b : Nat} (h : Net.rdB (bl s) a = some (p, b)) (hc : Net.cnt (bl p) = none) : script_reader_number.f s (a : Int) false = some (0, s, (b : Int), true) ∧ b ≤ s.size := by
  obtain ⟨h1, h2⟩ := tx_ok s hs a ha h
  obtain ⟨v, hv⟩ := count_none (p := p) (by
    have h3 : (bl p).length ≤ 262144 := (Net.rdB_sound h).1
    have := sz p
    omega) hc
  refine ⟨?_, h2⟩
  unfold script_reader_number.f
  rw [h1, Option.bind_some, hv, Option.bind_some]
  rfl
theorem num_ok (s : ByteArray) (hs : s.size ≤ 1000000) (a : Nat) (ha : a ≤ s.size) {p : ByteArray} {b n : Nat} (h : Net.rdB (bl s) a = some (p, b)) (hc : Net.cnt (bl p) = some n) : script_reader_number.f s (a : Int) false = some ((n : Int), s, (b : Int), false) ∧ b ≤ s.size := by
  obtain ⟨h1, h2⟩ := tx_ok s hs a ha h
  have hv := count_some (p := p) (by
    have h3 : (bl p).length ≤ 262144 := (Net.rdB_sound h).1
    have := sz p
    omega) hc
  refine ⟨?_, h2⟩
  unfold script_reader_number.f
  rw [h1, Option.bind_some, hv, Option.bind_some]
  rfl
abbrev RT := Int × ByteArray × ByteArray × Bool × List ByteArray × ByteArray × ByteArray × (List (S44)) × ByteArray × Int × Bool
def Fails (s : ByteArray) (r : Option RT) : Prop := ∃ (q : Int) (t b : ByteArray) (o : Bool) (ws : List ByteArray) (n m : ByteArray) (ags : List S44) (a : Nat), r = some (q, t, b, o, ws, n, m, ags, s, (a : Int), true)
def Reads (s : ByteArray) (st : S29) (b : Nat) (r : Option RT) : Prop := r = some (st.f0, st.f1, st.f2, st.f3, st.f4, st.f5, st.f6, st.f7, s, (b : Int), false) ∧ b ≤ s.size
theorem wish_loop (s : ByteArray) (hs : s.size ≤ 1000000) (q : Int) (t b0 : ByteArray) (o : Bool) (nm at_ : ByteArray) : ∀ (n a : Nat) (acc : List ByteArray), a ≤ s.size → acc.length + n ≤ 1000000 → ∀ k, n + 2 ≤ k →
    match Net.rdN (bl s) n a with
    | some (ws, b) => script_reader_step.l0 k (n : Int) s (a : Int) false q t b0 o acc nm at_ = some (q, t, b0, o, acc ++ ws, nm, at_, [], s, (b : Int), false) ∧ b ≤ s.size
    | none => Fails s (script_reader_step.l0 k (n : Int) s (a : Int) false q t b0 o acc nm at_) := by
  intro n
  induction n with
  | zero =>
    intro a acc ha hacc k hk
    obtain ⟨m, rfl⟩ : ∃ m, k = m + 1 := ⟨k - 1, by omega⟩
    show script_reader_step.l0 (m + 1) ((0 : Nat) : Int) s (a : Int) false q t b0 o acc nm at_ = some (q, t, b0, o, acc ++ [], nm, at_, [], s, (a : Int), false) ∧ a ≤ s.size
    rw [script_reader_step.l0, if_neg (by omega), List.append_nil]
    exact ⟨rfl, ha⟩
  | succ n ih =>
    intro a acc ha hacc k hk
    obtain ⟨m, rfl⟩ : ∃ m, k = m + 1 := ⟨k - 1, by omega⟩
    rw [Net.rdN]
    cases h : Net.rdB (bl s) a with
    | none =>
      show Fails s _
      obtain ⟨j, rfl⟩ : ∃ j, m = j + 1 := ⟨m - 1, by omega⟩
      rw [script_reader_step.l0, if_pos (by omega), if_neg (by decide), tx_fail s hs a ha h, Option.bind_some, if_pos (by omega), script_reader_step.l0]
      by_cases hp : wrap64 (((n + 1 : Nat) : Int) - 1) > 0
      · rw [if_pos hp, if_pos rfl]
        exact ⟨_, _, _, _, _, _, _, _, _, rfl⟩
      · rw [if_neg hp]
        exact ⟨_, _, _, _, _, _, _, _, _, rfl⟩
    | some r =>
      obtain ⟨p, b⟩ := r
      obtain ⟨h1, h2⟩ := tx_ok s hs a ha h
      have hstep : script_reader_step.l0 (m + 1) ((n + 1 : Nat) : Int) s (a : Int) false q t b0 o acc nm at_ = script_reader_step.l0 m (n : Int) s (b : Int) false q t b0 o (acc ++ [p]) nm at_ := by
        rw [script_reader_step.l0, if_pos (by omega), if_neg (by decide), h1, Option.bind_some, if_pos (by omega), w64 _ (by omega) (by omega), show ((n + 1 : Nat) : Int) - 1 = (n : Int) by omega]
      have := ih b (acc ++ [p]) h2 (by simp; omega) m (by omega)
      rw [hstep]
      show (match (match Net.rdN (bl s) n b with | none => none | some (ts, a2) => some (p :: ts, a2)) with
        | some (ws, b) => _
        | none => _)
      cases h3 : Net.rdN (bl s) n b with
      | none =>
        rw [h3] at this
        exact this
      | some r2 =>
        obtain ⟨ws, c⟩ := r2
        rw [h3] at this
        obtain ⟨e1, e2⟩ : _ ∧ _ := this
        refine ⟨?_, e2⟩
        rw [e1, List.append_assoc]
        rfl
end Go.Proofs.YtdhpcofnddkcaaaGreatDoor.S
namespace Go.Proofs.YtdhpcofnddkcaaaGreatDoor.S
open Go.RowKit Go.Proofs.YtdhpcofnddkcaaaGreatDoor.G Go.Proofs.YtdhpcofnddkcaaaGreatDoorW.PrintWords Go.Proofs.YtdhpcofnddkcaaaGreatDoorW.PrintLast Go.Proofs.YtdhpcofnddkcaaaGreatDoorW.PrintMore
set_option linter.unusedVariables false
set_option linter.unusedSimpArgs false
theorem arg_stop (s : ByteArray) (q : Int) (t b0 : ByteArray) (o : Bool) (nm at_ : ByteArray) (acc : List S44) (x : Int) (a : Nat) (k : Nat) (hk : 2 ≤ k) : Fails s (script_reader_step.l1 k x s (a : Int) true q t b0 o nm at_ acc) := by
  obtain ⟨m, rfl⟩ : ∃ m, k = m + 1 + 1 := ⟨k - 2, by omega⟩
  rw [script_reader_step.l1]
  by_cases h : x > 0
  · rw [if_pos h, script_reader_step.j2, if_neg (by decide)]
    exact ⟨_, _, _, _, _, _, _, _, _, rfl⟩
  · rw [if_neg h, script_reader_step.j2, if_neg (by decide)]
    exact ⟨_, _, _, _, _, _, _, _, _, rfl⟩
theorem idx_f (k : ByteArray) : strings_Index.f (⟨#[116, 110, 109]⟩ : ByteArray) k = some (Net.kindOf k) := by
  unfold strings_Index.f
  rw [if_pos (by decide)]
  rfl
theorem arg_loop (s : ByteArray) (hs : s.size ≤ 1000000) (q : Int) (t b0 : ByteArray) (o : Bool) (nm at_ : ByteArray) : ∀ (n a : Nat) (acc : List S44), a ≤ s.size → acc.length + n ≤ 1000000 → ∀ k, 2 * n + 4 ≤ k →
    match Net.rdA (bl s) n a with
    | some (ags, b) => script_reader_step.l1 k (n : Int) s (a : Int) false q t b0 o nm at_ acc = some (q, t, b0, o, [], nm, at_, acc ++ ags.map ofAr, s, (b : Int), false) ∧ b ≤ s.size
    | none => Fails s (script_reader_step.l1 k (n : Int) s (a : Int) false q t b0 o nm at_ acc) := by
  intro n
  induction n with
  | zero =>
    intro a acc ha hacc k hk
    obtain ⟨m, rfl⟩ : ∃ m, k = m + 1 + 1 := ⟨k - 2, by omega⟩
    show script_reader_step.l1 (m + 1 + 1) ((0 : Nat) : Int) s (a : Int) false q t b0 o nm at_ acc = some (q, t, b0, o, [], nm, at_, acc ++ [], s, (a : Int), false) ∧ a ≤ s.size
    rw [script_reader_step.l1, if_neg (by omega), script_reader_step.j2, if_neg (by decide), List.append_nil]
    exact ⟨rfl, ha⟩
  | succ n ih =>
    intro a acc ha hacc k hk
    obtain ⟨m, rfl⟩ : ∃ m, k = m + 1 + 1 := ⟨k - 2, by omega⟩
    have hin : script_reader_step.l1 (m + 1 + 1) ((n + 1 : Nat) : Int) s (a : Int) false q t b0 o nm at_ acc = script_reader_step.j2 (m + 1) ((n + 1 : Nat) : Int) true s (a : Int) false q t b0 o nm at_ acc := by
      rw [script_reader_step.l1, if_pos (by omega)]
      rfl
    rw [hin, script_reader_step.j2, if_pos rfl, Net.rdA]
    have hx : wrap64 (((n + 1 : Nat) : Int) - 1) = (n : Int) := by rw [w64 _ (by omega) (by omega)]; omega
    cases h : Net.rdB (bl s) a with
    | none =>
      show Fails s _
      rw [tx_fail s hs a ha h, Option.bind_some, tx_none s hs a ha, Option.bind_some, idx_f, Option.bind_some, tx_none s hs a ha, Option.bind_some, if_pos rfl, if_pos (by omega)]
      exact arg_stop s q t b0 o nm at_ _ _ a m (by omega)
    | some r =>
      obtain ⟨p, b⟩ := r
      obtain ⟨h1, h2⟩ := tx_ok s hs a ha h
      rw [h1, Option.bind_some]
      cases hk2 : Net.rdB (bl s) b with
      | none =>
        simp only [hk2]
        rw [tx_fail s hs b h2 hk2, Option.bind_some, idx_f, Option.bind_some, tx_none s hs b h2, Option.bind_some, if_pos rfl, if_pos (by omega)]
        exact arg_stop s q t b0 o nm at_ _ _ b m (by omega)
      | some r =>
        obtain ⟨kk, c⟩ := r
        obtain ⟨h3, h4⟩ := tx_ok s hs b h2 hk2
        simp only [hk2]
        rw [h3, Option.bind_some, idx_f, Option.bind_some]
        cases hk3 : Net.rdB (bl s) c with
        | none =>
          simp only []
          rw [tx_fail s hs c h4 hk3, Option.bind_some, if_pos rfl, if_pos (by omega)]
          exact arg_stop s q t b0 o nm at_ _ _ c m (by omega)
        | some r =>
          obtain ⟨tx, d⟩ := r
          obtain ⟨h5, h6⟩ := tx_ok s hs c h4 hk3
          simp only []
          have hzk : kk.size = (Net.lb kk).length := sz kk
          by_cases hl : (Net.lb kk).length = 1
          · rw [if_pos hl, h5, Option.bind_some, if_neg Bool.false_ne_true, if_pos (by omega), hx]
            have hb : ((kk.size : Int) != 1) = false := by rw [hzk, hl]; rfl
            show (match (match Net.rdA (bl s) n d with | none => none | some (ags, a4) => some ((p, Net.kindOf kk, tx) :: ags, a4)) with
              | some (ags, b) => script_reader_step.l1 m (n : Int) s (d : Int) ((kk.size : Int) != 1) q t b0 o nm at_ (acc ++ [(⟨p, Net.kindOf kk, tx⟩ : S44)]) = _ ∧ _
              | none => Fails s (script_reader_step.l1 m (n : Int) s (d : Int) ((kk.size : Int) != 1) q t b0 o nm at_ (acc ++ [(⟨p, Net.kindOf kk, tx⟩ : S44)])))
            rw [hb]
            have := ih d (acc ++ [(⟨p, Net.kindOf kk, tx⟩ : S44)]) h6 (by simp; omega) m (by omega)
            cases h7 : Net.rdA (bl s) n d with
            | none =>
              rw [h7] at this
              exact this
            | some r2 =>
              obtain ⟨ags, e⟩ := r2
              rw [h7] at this
              obtain ⟨e1, e2⟩ : _ ∧ _ := this
              refine ⟨?_, e2⟩
              rw [e1, List.append_assoc]
              rfl
          · rw [if_neg hl, h5, Option.bind_some, if_neg Bool.false_ne_true, if_pos (by omega), hx]
            have hb : ((kk.size : Int) != 1) = true := by
              rw [bne_iff_ne]
              omega
            show Fails s (script_reader_step.l1 m (n : Int) s (d : Int) ((kk.size : Int) != 1) q t b0 o nm at_ (acc ++ [(⟨p, Net.kindOf kk, tx⟩ : S44)]))
            rw [hb]
            exact arg_stop s q t b0 o nm at_ _ _ d m (by omega)
theorem toL (t : ByteArray) (c : UInt8) : (t.toList = [c]) = (t = ⟨#[c]⟩) := by
  rw [tl, eq_iff_iff]
  exact ⟨fun h => ba_ext h, fun h => by rw [h]⟩
theorem step_f (s : ByteArray) (hs : s.size ≤ 1000000) (a : Nat) (ha : a ≤ s.size) (k : Nat) (hk : 600000 ≤ k) :
    match Net.stepR (bl s) a with
    | some (st, b) => Reads s (ofSt st) b (script_reader_step.f k s (a : Int) false)
    | none => Fails s (script_reader_step.f k s (a : Int) false) := by
  unfold script_reader_step.f Net.stepR
  cases h0 : Net.rdB (bl s) a with
  | none =>
    simp only []
    rw [tx_fail s hs a ha h0, Option.bind_some, if_neg (show ¬ Net.em.toList = [97] by rw [tl]; decide), if_neg (show ¬ Net.em.toList = [99] by rw [tl]; decide), if_neg (show ¬ Net.em.toList = [113] by rw [tl]; decide)]
    exact ⟨_, _, _, _, _, _, _, _, _, rfl⟩
  | some r =>
    obtain ⟨t, a0⟩ := r
    obtain ⟨x0, y0⟩ := tx_ok s hs a ha h0
    simp only []
    rw [x0, Option.bind_some]
    simp only [toL]
    by_cases hA : t = Net.cA
    · rw [if_pos hA, if_pos (show t = ⟨#[97]⟩ from hA)]
      cases h1 : Net.rdB (bl s) a0 with
      | none =>
        simp only []
        rw [tx_fail s hs a0 y0 h1, Option.bind_some, tx_none s hs a0 y0, Option.bind_some, if_pos rfl, tx_none s hs a0 y0, Option.bind_some]
        exact ⟨_, _, _, _, _, _, _, _, _, rfl⟩
      | some r =>
        obtain ⟨tag, a1⟩ := r
        obtain ⟨x1, y1⟩ := tx_ok s hs a0 y0 h1
        simp only []
        rw [x1, Option.bind_some]
        cases h2 : Net.rdB (bl s) a1 with
        | none =>
          simp only []
          rw [tx_fail s hs a1 y1 h2, Option.bind_some, if_pos rfl, tx_none s hs a1 y1, Option.bind_some]
          exact ⟨_, _, _, _, _, _, _, _, _, rfl⟩
        | some r =>
          obtain ⟨ov, a2⟩ := r
          obtain ⟨x2, y2⟩ := tx_ok s hs a1 y1 h2
          simp only []
          have hov1 : (ov.toList == ([49] : List UInt8)) = decide (ov = Net.c1) := by
            rw [tl]
            by_cases h : ov = Net.c1
            · rw [decide_eq_true h, h]; rfl
            · rw [decide_eq_false h]
              exact beq_eq_false_iff_ne.2 fun e => h (ba_ext e)
          by_cases hc0 : ov = Net.c0
          · rw [if_pos (Or.inl hc0), x2, Option.bind_some, if_neg Bool.false_ne_true, if_pos (show ov = ⟨#[48]⟩ from hc0)]
            cases h3 : Net.rdB (bl s) a2 with
            | none =>
              simp only []
              rw [tx_fail s hs a2 y2 h3, Option.bind_some]
              exact ⟨_, _, _, _, _, _, _, _, _, rfl⟩
            | some r =>
              obtain ⟨by_, a3⟩ := r
              obtain ⟨x3, y3⟩ := tx_ok s hs a2 y2 h3
              simp only []
              rw [x3, Option.bind_some, hov1]
              exact ⟨rfl, y3⟩
          · by_cases hc1 : ov = Net.c1
            · have hb : (ov.toList != ([49] : List UInt8)) = false := by
                show (!(ov.toList == ([49] : List UInt8))) = false
                rw [hov1, decide_eq_true hc1]
                rfl
              rw [if_pos (Or.inr hc1), x2, Option.bind_some, if_neg Bool.false_ne_true, if_neg (show ¬ ov = ⟨#[48]⟩ from hc0), hb]
              cases h3 : Net.rdB (bl s) a2 with
              | none =>
                simp only []
                rw [tx_fail s hs a2 y2 h3, Option.bind_some]
                exact ⟨_, _, _, _, _, _, _, _, _, rfl⟩
              | some r =>
                obtain ⟨by_, a3⟩ := r
                obtain ⟨x3, y3⟩ := tx_ok s hs a2 y2 h3
                simp only []
                rw [x3, Option.bind_some, hov1]
                exact ⟨rfl, y3⟩
            · have hb : (ov.toList != ([49] : List UInt8)) = true := by
                show (!(ov.toList == ([49] : List UInt8))) = true
                rw [hov1, decide_eq_false hc1]
                rfl
              rw [if_neg (show ¬ (ov = Net.c0 ∨ ov = Net.c1) from fun h => h.elim hc0 hc1), x2, Option.bind_some, if_neg Bool.false_ne_true, if_neg (show ¬ ov = ⟨#[48]⟩ from hc0), hb, tx_none s hs a2 y2, Option.bind_some]
              exact ⟨_, _, _, _, _, _, _, _, _, rfl⟩
    · rw [if_neg hA, if_neg (show ¬ t = ⟨#[97]⟩ from hA)]
      by_cases hC : t = Net.cC
      · rw [if_pos hC, if_pos (show t = ⟨#[99]⟩ from hC)]
        cases h1 : Net.rdB (bl s) a0 with
        | none =>
          simp only []
          rw [tx_fail s hs a0 y0 h1, Option.bind_some, num_none s hs a0 y0, Option.bind_some]
          obtain ⟨m, rfl⟩ : ∃ m, k = m + 1 := ⟨k - 1, by omega⟩
          rw [script_reader_step.l0, if_neg (by show ¬ (0 : Int) > 0; decide)]
          exact ⟨_, _, _, _, _, _, _, _, _, rfl⟩
        | some r =>
          obtain ⟨tag, a1⟩ := r
          obtain ⟨x1, y1⟩ := tx_ok s hs a0 y0 h1
          simp only []
          rw [x1, Option.bind_some]
          cases h2 : Net.rdB (bl s) a1 with
          | none =>
            simp only []
            rw [num_fail s hs a1 y1 h2, Option.bind_some]
            obtain ⟨m, rfl⟩ : ∃ m, k = m + 1 := ⟨k - 1, by omega⟩
            rw [script_reader_step.l0, if_neg (by show ¬ (0 : Int) > 0; decide)]
            exact ⟨_, _, _, _, _, _, _, _, _, rfl⟩
          | some r =>
            obtain ⟨cn, a2⟩ := r
            simp only []
            cases hc : Net.cnt (Net.lb cn) with
            | none =>
              obtain ⟨x2, y2⟩ := num_no s hs a1 y1 h2 hc
              simp only []
              rw [x2, Option.bind_some]
              obtain ⟨m, rfl⟩ : ∃ m, k = m + 1 := ⟨k - 1, by omega⟩
              rw [script_reader_step.l0, if_neg (by show ¬ (0 : Int) > 0; decide)]
              exact ⟨_, _, _, _, _, _, _, _, _, rfl⟩
            | some n =>
              obtain ⟨x2, y2⟩ := num_ok s hs a1 y1 h2 hc
              have hn := (Net.cnt_some hc).1
              simp only []
              rw [x2, Option.bind_some]
              have := wish_loop s hs 1 tag (⟨#[]⟩ : ByteArray) false (⟨#[]⟩ : ByteArray) (⟨#[]⟩ : ByteArray) n a2 [] y2 (by simp; omega) k (by omega)
              cases h3 : Net.rdN (bl s) n a2 with
              | none =>
                rw [h3] at this
                exact this
              | some r =>
                obtain ⟨ws, b⟩ := r
                rw [h3] at this
                exact this
      · rw [if_neg hC, if_neg (show ¬ t = ⟨#[99]⟩ from hC)]
        by_cases hQ : t = Net.cQ
        · rw [if_pos hQ, if_pos (show t = ⟨#[113]⟩ from hQ)]
          cases h1 : Net.rdB (bl s) a0 with
          | none =>
            simp only []
            rw [tx_fail s hs a0 y0 h1, Option.bind_some, tx_none s hs a0 y0, Option.bind_some, num_none s hs a0 y0, Option.bind_some]
            exact arg_stop s _ _ _ _ _ _ _ _ a0 k (by omega)
          | some r =>
            obtain ⟨nm, a1⟩ := r
            obtain ⟨x1, y1⟩ := tx_ok s hs a0 y0 h1
            simp only []
            rw [x1, Option.bind_some]
            cases h2 : Net.rdB (bl s) a1 with
            | none =>
              simp only []
              rw [tx_fail s hs a1 y1 h2, Option.bind_some, num_none s hs a1 y1, Option.bind_some]
              exact arg_stop s _ _ _ _ _ _ _ _ a1 k (by omega)
            | some r =>
              obtain ⟨at_, a2⟩ := r
              obtain ⟨x2, y2⟩ := tx_ok s hs a1 y1 h2
              simp only []
              rw [x2, Option.bind_some]
              cases h3 : Net.rdB (bl s) a2 with
              | none =>
                simp only []
                rw [num_fail s hs a2 y2 h3, Option.bind_some]
                exact arg_stop s _ _ _ _ _ _ _ _ a2 k (by omega)
              | some r =>
                obtain ⟨cn, a3⟩ := r
                simp only []
                cases hc : Net.cnt (Net.lb cn) with
                | none =>
                  obtain ⟨x3, y3⟩ := num_no s hs a2 y2 h3 hc
                  simp only []
                  rw [x3, Option.bind_some]
                  exact arg_stop s _ _ _ _ _ _ _ _ a3 k (by omega)
                | some n =>
                  obtain ⟨x3, y3⟩ := num_ok s hs a2 y2 h3 hc
                  have hn := (Net.cnt_some hc).1
                  simp only []
                  rw [x3, Option.bind_some]
                  have := arg_loop s hs 2 (⟨#[]⟩ : ByteArray) (⟨#[]⟩ : ByteArray) false nm at_ n a3 [] y3 (by simp; omega) k (by omega)
                  cases h4 : Net.rdA (bl s) n a3 with
                  | none =>
                    rw [h4] at this
                    exact this
                  | some r =>
                    obtain ⟨ags, b⟩ := r
                    rw [h4] at this
                    exact this
        · rw [if_neg hQ, if_neg (show ¬ t = ⟨#[113]⟩ from hQ)]
          exact ⟨_, _, _, _, _, _, _, _, _, rfl⟩
end Go.Proofs.YtdhpcofnddkcaaaGreatDoor.S
namespace Go.Proofs.YtdhpcofnddkcaaaGreatDoor.Net
theorem rd_len {l p : List UInt8} {m : Nat} (h : rd l = some (p, m)) : p.length ≤ l.length := by
  obtain ⟨_, _, r, e⟩ := rd_sound h
  rw [e, List.length_append, enc_length]
  omega
theorem rdB_len {l : List UInt8} {a b : Nat} {p : ByteArray} (h : rdB l a = some (p, b)) : p.size ≤ l.length := by
  unfold rdB at h
  cases hr : rd (l.drop a) with
  | none => rw [hr] at h; cases h
  | some q =>
    rw [hr] at h
    obtain ⟨h1, -⟩ := Prod.mk.inj (Option.some.inj h)
    have := rd_len (p := q.1) (m := q.2) hr
    rw [List.length_drop] at this
    have e : p.size = (lb p).length := Lib.size_eq p
    rw [e, ← h1, lb_bs]
    omega
theorem rdA_len {l : List UInt8} : ∀ {n a b : Nat} {ags : List Ar}, rdA l n a = some (ags, b) → ags.length = n ∧ ∀ x ∈ ags, x.2.2.size ≤ l.length
  | 0, a, b, ags, h => by
    obtain ⟨h1, -⟩ := Prod.mk.inj (Option.some.inj h)
    subst h1
    exact ⟨rfl, fun x hx => by cases hx⟩
  | n + 1, a, b, ags, h => by
    unfold rdA at h
    cases h1 : rdB l a with
    | none => rw [h1] at h; cases h
    | some r1 =>
      obtain ⟨nm, a1⟩ := r1
      rw [h1] at h
      simp only at h
      cases h2 : rdB l a1 with
      | none => rw [h2] at h; cases h
      | some r2 =>
        obtain ⟨k, a2⟩ := r2
        rw [h2] at h
        simp only at h
        cases h3 : rdB l a2 with
        | none => rw [h3] at h; cases h
        | some r3 =>
          obtain ⟨tx, a3⟩ := r3
          rw [h3] at h
          simp only at h
          by_cases hk : (lb k).length = 1
          · rw [if_pos hk] at h
            cases h4 : rdA l n a3 with
            | none => rw [h4] at h; cases h
            | some r4 =>
              obtain ⟨t, a4⟩ := r4
              rw [h4] at h
              obtain ⟨e1, -⟩ := Prod.mk.inj (Option.some.inj h)
              subst e1
              obtain ⟨l1, l2⟩ := rdA_len h4
              refine ⟨by simp [l1], fun x hx => ?_⟩
              rcases List.mem_cons.1 hx with rfl | hx
              · exact rdB_len h3
              · exact l2 x hx
          · rw [if_neg hk] at h
            cases h
def argsOf (s : St) : List Ar := s.2.2.2.2.2.2.2
theorem stepR_len {l : List UInt8} {a b : Nat} {s : St} (h : stepR l a = some (s, b)) : (argsOf s).length ≤ 262144 ∧ ∀ x ∈ argsOf s, x.2.2.size ≤ l.length := by
  unfold stepR at h
  cases h1 : rdB l a with
  | none => rw [h1] at h; cases h
  | some r1 =>
    obtain ⟨t, a0⟩ := r1
    rw [h1] at h
    simp only at h
    by_cases c1 : t = cA
    · rw [if_pos c1] at h
      cases h2 : rdB l a0 with
      | none => rw [h2] at h; cases h
      | some r2 =>
        obtain ⟨tag, a1⟩ := r2
        rw [h2] at h
        simp only at h
        cases h3 : rdB l a1 with
        | none => rw [h3] at h; cases h
        | some r3 =>
          obtain ⟨ov, a2⟩ := r3
          rw [h3] at h
          simp only at h
          by_cases c2 : ov = c0 ∨ ov = Net.c1
          · rw [if_pos c2] at h
            cases h4 : rdB l a2 with
            | none => rw [h4] at h; cases h
            | some r4 =>
              rw [h4] at h
              obtain ⟨e1, -⟩ := Prod.mk.inj (Option.some.inj h)
              subst e1
              exact ⟨Nat.zero_le _, fun x hx => by cases hx⟩
          · rw [if_neg c2] at h
            cases h
    · rw [if_neg c1] at h
      by_cases c2 : t = cC
      · rw [if_pos c2] at h
        cases h2 : rdB l a0 with
        | none => rw [h2] at h; cases h
        | some r2 =>
          obtain ⟨tag, a1⟩ := r2
          rw [h2] at h
          simp only at h
          cases h3 : rdB l a1 with
          | none => rw [h3] at h; cases h
          | some r3 =>
            obtain ⟨cn, a2⟩ := r3
            rw [h3] at h
            simp only at h
            cases h4 : cnt (lb cn) with
            | none => rw [h4] at h; cases h
            | some n =>
              rw [h4] at h
              simp only at h
              cases h5 : rdN l n a2 with
              | none => rw [h5] at h; cases h
              | some r5 =>
                rw [h5] at h
                obtain ⟨e1, -⟩ := Prod.mk.inj (Option.some.inj h)
                subst e1
                exact ⟨Nat.zero_le _, fun x hx => by cases hx⟩
      · rw [if_neg c2] at h
        by_cases c3 : t = cQ
        · rw [if_pos c3] at h
          cases h2 : rdB l a0 with
          | none => rw [h2] at h; cases h
          | some r2 =>
            obtain ⟨nm, a1⟩ := r2
            rw [h2] at h
            simp only at h
            cases h3 : rdB l a1 with
            | none => rw [h3] at h; cases h
            | some r3 =>
              obtain ⟨at_, a2⟩ := r3
              rw [h3] at h
              simp only at h
              cases h4 : rdB l a2 with
              | none => rw [h4] at h; cases h
              | some r4 =>
                obtain ⟨cn, a3⟩ := r4
                rw [h4] at h
                simp only at h
                cases h5 : cnt (lb cn) with
                | none => rw [h5] at h; cases h
                | some n =>
                  rw [h5] at h
                  simp only at h
                  cases h6 : rdA l n a3 with
                  | none => rw [h6] at h; cases h
                  | some r6 =>
                    obtain ⟨ags, a4⟩ := r6
                    rw [h6] at h
                    obtain ⟨e1, -⟩ := Prod.mk.inj (Option.some.inj h)
                    subst e1
                    obtain ⟨l1, l2⟩ := rdA_len h6
                    have := (cnt_some h5).1
                    exact ⟨by show ags.length ≤ _; omega, l2⟩
        · rw [if_neg c3] at h
          cases h
end Go.Proofs.YtdhpcofnddkcaaaGreatDoor.Net
namespace Go.Proofs.YtdhpcofnddkcaaaGreatDoor.S
open Go.RowKit Go.Proofs.YtdhpcofnddkcaaaGreatDoor.G Go.Proofs.YtdhpcofnddkcaaaGreatDoorW.PrintWords Go.Proofs.YtdhpcofnddkcaaaGreatDoorW.PrintLast Go.Proofs.YtdhpcofnddkcaaaGreatDoorW.PrintMore
set_option linter.unusedVariables false
set_option linter.unusedSimpArgs false
theorem cat_enc (l : List S29) : catS (fun s => Net.parts (toSt s)) (fun p => Net.bs (Net.encB p)) l = Net.encS (l.map toSt) := by
  unfold catS Net.encS catT Net.encs
  rw [List.flatMap_map]
  rfl
theorem encs_memB {ps : List ByteArray} {p : ByteArray} (h : p ∈ ps) : (Net.encB p).length ≤ (Net.encs ps).length := by
  induction ps with
  | nil => cases h
  | cons a t ih =>
    rw [Net.encs_cons, List.length_append]
    rcases List.mem_cons.1 h with rfl | h
    · omega
    · have := ih h
      omega
theorem encs_count' (ps : List ByteArray) : ps.length ≤ (Net.encs ps).length := by
  induction ps with
  | nil => exact Nat.zero_le _
  | cons p t ih =>
    rw [Net.encs_cons, List.length_append, List.length_cons]
    have : 1 ≤ (Net.encB p).length := by unfold Net.encB; rw [Net.enc_length]; omega
    omega
theorem encS_mem' {L : List Net.St} {s : Net.St} (h : s ∈ L) : (Net.encs (Net.parts s)).length ≤ (Net.encS L).length := by
  induction L with
  | nil => cases h
  | cons a t ih =>
    rw [Net.encS_cons, List.length_append]
    rcases List.mem_cons.1 h with rfl | h
    · omega
    · have := ih h
      omega
theorem parts_pos (s : Net.St) : 0 < (Net.parts s).length := by
  obtain ⟨k, tag, by_, ov, ws, nm, at_, ags⟩ := s
  show 0 < (if k = 0 then [Net.cA, tag, if ov = true then Net.c1 else Net.c0, by_] else if k = 1 then [Net.cC, tag, Net.itoaB ws.length] ++ ws else [Net.cQ, nm, at_, Net.itoaB ags.length] ++ Net.argsT ags).length
  split
  · exact Nat.succ_pos _
  · split
    · simp
    · simp
theorem script_Encode.calls (A : Option Addr) (c : Nat) (l : List S29) (r0 : List Int) (r1 : Int) (w : World) (hr : Kd.C k29 w A l.length l) (hc : l.length ≤ c) (h : script_Encode.f l = some (r0, r1))
    (HT0_ : Tab_ w := by exact Tab_.step HT0_ (by repeat (first | (with_reducible first | exact HB.out | apply below_alloc | apply pw_below_drewN | apply below_drew1 | refine below_set ?_ (Aside0.out (by assumption))) | exact HB.out)))
    (HP0_ : TabP_ w := by exact TabP_.step HP0_ (by repeat (first | (with_reducible first | exact HB.out | apply below_alloc | apply pw_below_drewN | apply below_drew1 | refine below_set ?_ (Aside0.out (by assumption))) | exact HB.out)))
    (HE0_ : TabE_ w := by exact TabE_.step HE0_ (by repeat (first | (with_reducible first | exact HB.out | apply below_alloc | apply pw_below_drewN | apply below_drew1 | refine below_set ?_ (Aside0.out (by assumption))) | exact HB.out))) :
    Calls Tryz.prog 14 #[.slice A l.length c] w fun e w' => ∃ v, e = .returned (.tuple #[v, .int .i64 r1]) ∧ Kd.V (Kd.int .u8) 5 w' w.heap.size (fun k_ => w.heap.size ≤ k_) v r0 ∧ Below w.heap.size w w' := by
  unfold script_Encode.f at h
  by_cases hn : l.length ≤ 4096
  · rw [if_pos hn] at h
    by_cases hz : (Net.encS (l.map toSt)).length ≤ 1000000 ∧ (∀ s ∈ l, s.f4.length ≤ 1000000 ∧ s.f7.length ≤ 1000000 ∧ ∀ a ∈ s.f7, a.f2.size ≤ 100000)
    · rw [if_pos hz] at h
      obtain ⟨z1, z2⟩ := hz
      have hall : (l.map toSt).all (Net.right okA) = l.all rightS := by rw [List.all_map]; rfl
      rw [hall] at h
      refine encode_any A c l w hr hc hn 1000003 rightS (fun s => Net.parts (toSt s)) (fun p => Net.bs (Net.encB p)) (fun s hs => right_f s 1000003 (by have := (z2 s hs).2.1; omega) (z2 s hs).2.1 (z2 s hs).2.2) (fun s hs hrs => ⟨parts_f s hrs (z2 s hs).2.1 (z2 s hs).1 1000003 (by have := (z2 s hs).2.1; omega), parts_pos _, ?_⟩) (fun s hs hrs p hp => part_f p ?_) (by rw [cat_enc]; exact z1) HT0_ HP0_ HE0_ r0 r1 (fun h1 => ?_) (fun h1 => ?_)
      · have h1 := encs_count' (Net.parts (toSt s))
        have h2 := encS_mem' (List.mem_map_of_mem (f := toSt) hs)
        omega
      · have h1 := encs_memB hp
        have h2 := encS_mem' (List.mem_map_of_mem (f := toSt) hs)
        have h3 := encB_ge p
        omega
      · rw [if_pos h1] at h
        obtain ⟨e1, e2⟩ := Prod.mk.inj (Option.some.inj h)
        rw [cat_enc]
        exact ⟨e1.symm, e2.symm⟩
      · rw [if_neg (by rw [h1]; decide)] at h
        obtain ⟨e1, e2⟩ := Prod.mk.inj (Option.some.inj h)
        exact ⟨e1.symm, e2.symm⟩
    · rw [if_neg hz] at h
      cases h
  · rw [if_neg hn] at h
    obtain ⟨e1, e2⟩ := Prod.mk.inj (Option.some.inj h)
    subst e1 e2
    exact encode_many A c l w (by omega) hr.2.1
theorem script_Decode.calls (A : Option Addr) (c : Nat) (l : List Int) (r0 : List S29) (r1 r2 : Int) (w : World) (hr : Kd.C (Kd.int .u8) w A l.length l) (hc : l.length ≤ c) (h : script_Decode.f l = some (r0, r1, r2))
    (HT0_ : Tab_ w := by exact Tab_.step HT0_ (by repeat (first | (with_reducible first | exact HB.out | apply below_alloc | apply pw_below_drewN | apply below_drew1 | refine below_set ?_ (Aside0.out (by assumption))) | exact HB.out)))
    (HP0_ : TabP_ w := by exact TabP_.step HP0_ (by repeat (first | (with_reducible first | exact HB.out | apply below_alloc | apply pw_below_drewN | apply below_drew1 | refine below_set ?_ (Aside0.out (by assumption))) | exact HB.out)))
    (HE0_ : TabE_ w := by exact TabE_.step HE0_ (by repeat (first | (with_reducible first | exact HB.out | apply below_alloc | apply pw_below_drewN | apply below_drew1 | refine below_set ?_ (Aside0.out (by assumption))) | exact HB.out))) :
    Calls Tryz.prog 15 #[.slice A l.length c] w fun e w' => ∃ v, e = .returned (.tuple #[v, .int .i64 r1, .int .i64 r2]) ∧ Kd.S k29 29 w' w.heap.size (fun _ => True) v r0 ∧ Below w.heap.size w w' := by
  unfold script_Decode.f at h
  by_cases hl : l.length ≤ 100000
  · rw [if_pos hl, if_neg (by omega)] at h
    obtain ⟨e1, h⟩ := Prod.mk.inj (Option.some.inj h)
    obtain ⟨e2, e3⟩ := Prod.mk.inj h
    subst e1 e2 e3
    have hsz : (strOfNums l).size = l.length := by
      rw [sz]
      show (strOfNums l).data.toList.length = _
      rw [strOfNums_data]
      simp
    refine decode_any A c l w hr hc (by omega) 700000 (strOfNums l) rfl hsz (fun a ha => ?_) _ _ _ rfl rfl rfl HT0_ HP0_ HE0_
    have hst := step_f (strOfNums l) (by omega) a (by omega) 700000 (by omega)
    have e : bl (strOfNums l) = Net.lb (strOfNums l) := rfl
    rw [e] at hst
    cases hx : Net.stepR (Net.lb (strOfNums l)) a with
    | none =>
      rw [hx] at hst
      obtain ⟨q, t, b, o, ws, n, m, ags, a1, hf⟩ := hst
      exact ⟨q, t, b, o, ws, n, m, ags, (a1 : Int), hf⟩
    | some r =>
      obtain ⟨st, b⟩ := r
      rw [hx] at hst
      obtain ⟨hf, hb⟩ := hst
      refine ⟨hf, fun hrt => ?_, hb, ?_⟩
      · obtain ⟨-, hb2, -⟩ := Net.stepR_sound okA_kind hx hrt
        have h1 := encs_count' (Net.parts st)
        have h2 := parts_pos st
        omega
      · obtain ⟨n1, n2⟩ := Net.stepR_len hx
        have hln : (Net.lb (strOfNums l)).length ≤ 100000 := by
          have := Lib.size_eq (strOfNums l)
          show (strOfNums l).data.toList.length ≤ _
          omega
        have hf7 : (ofSt st).f7.length = (Net.argsOf st).length := by
          obtain ⟨k, tag, by_, ov, ws, nm, at_, ags⟩ := st
          show (ags.map ofAr).length = ags.length
          rw [List.length_map]
        have hrt := right_f (ofSt st) 700000 (by omega) (by omega) (fun x hx2 => by
          obtain ⟨k, tag, by_, ov, ws, nm, at_, ags⟩ := st
          have hx3 : x ∈ ags.map ofAr := hx2
          obtain ⟨y, hy, rfl⟩ := List.mem_map.1 hx3
          have := n2 y hy
          show y.2.2.size ≤ _
          omega)
        have e2 : rightS (ofSt st) = Net.right okA st := by
          show Net.right okA (toSt (ofSt st)) = _
          rw [toSt_of]
        rw [e2] at hrt
        exact hrt
  · rw [if_neg hl] at h
    cases h
end Go.Proofs.YtdhpcofnddkcaaaGreatDoor.S
namespace Go.Proofs.YtdhpcofnddkcaaaGreatDoor.S
open Go.RowKit Go.Proofs.YtdhpcofnddkcaaaGreatDoor.G Go.Proofs.YtdhpcofnddkcaaaGreatDoorW.PrintWords Go.Proofs.YtdhpcofnddkcaaaGreatDoorW.PrintLast Go.Proofs.YtdhpcofnddkcaaaGreatDoorW.PrintMore
attribute [local go_sem] max2_int min2_int max_two min_two max_three min_three max_four min_four
set_option linter.unusedVariables false
set_option linter.unusedSimpArgs false
namespace Sx4
theorem q0_ {p_ : Prop} (h_ : p_ := by repeat (first | (with_reducible first | exact HB.out | apply below_alloc | apply pw_below_drewN | apply below_drew1) | exact HB.out)) : p_ := h_
theorem q1_ {p_ : Prop} (h_ : p_ := by (with_reducible repeat (first | apply Kd.S_alloc | apply Kd.S_drewN | apply Kd.S_drew)); exact HO103.out) : p_ := h_
theorem q2_ {p_ : Prop} (h_ : p_ := by (try simp only [List.map_toArray, List.map_cons, List.map_nil]); first | done | rfl | (simp only [List.length_drop, List.length_take]; rfl)) : p_ := h_
theorem q3_ {p_ : Prop} (h_ : p_ := by first | rfl | (simp [errW_none, errW_some] <;> rfl) | (simp [*, errW_none, errW_some] <;> rfl)) : p_ := h_
theorem q4_ {p_ : Prop} (h_ : p_ := by (with_reducible repeat (first | apply Kd.V_alloc | apply Kd.V_drewN | apply Kd.V_drew)); exact HO106.out) : p_ := h_
theorem u0_ {p_ : Prop} (h_ : p_ := by first | (go_simp; done) | (go_simp; rfl)) : p_ := h_
theorem u1_ {p_ : Prop} (h_ : p_ := by exact (Reps.c8 (show Kd.M k29 _ _ _ (⟨1, (⟨#[101, 110]⟩ : ByteArray), (⟨#[]⟩ : ByteArray), false, ([] : List ByteArray), (⟨#[]⟩ : ByteArray), (⟨#[]⟩ : ByteArray), ([] : List (S44))⟩ : S29) [.int .i64 1, .string (⟨#[101, 110]⟩ : ByteArray), .string (⟨#[]⟩ : ByteArray), .bool false, .slice none 0 0, .string (⟨#[]⟩ : ByteArray), .string (⟨#[]⟩ : ByteArray), .slice none 0 0] from (k29_mkM _ _ _ (⟨1, (⟨#[101, 110]⟩ : ByteArray), (⟨#[]⟩ : ByteArray), false, ([] : List ByteArray), (⟨#[]⟩ : ByteArray), (⟨#[]⟩ : ByteArray), ([] : List (S44))⟩ : S29) (Kd.R_nil _ _ _ _ _) (Kd.R_nil _ _ _ _ _))) (Reps.none _ _))) : p_ := h_
end Sx4
open Sx4
def polyglotlaw18_head.f  : Option (Bool) := (script_Encode.f (([(⟨1, (⟨#[101, 110]⟩ : ByteArray), (⟨#[]⟩ : ByteArray), false, ([] : List ByteArray), (⟨#[]⟩ : ByteArray), (⟨#[]⟩ : ByteArray), ([] : List (S44))⟩ : S29)] : List (S29)))).bind fun bt104 => (if bt104.2 = 0 then (if (strOfNums bt104.1).toList = ([49, 58, 99, 44, 50, 58, 101, 110, 44, 49, 58, 48, 44] : List UInt8) then ((script_Decode.f bt104.1).bind fun bt108 => (if bt108.2.2 = 0 then (if bt108.2.1 = (bt104.1.length : Int) then (if (bt108.1.length : Int) = 1 then (if 0 < (bt108.1.length : Int) then (some (((rd_T29 bt108.1 0).f1).toList == ([101, 110] : List UInt8))) else (none)) else (some false)) else (some false)) else (some false))) else (some false)) else (some false))
set_option maxHeartbeats 8000000 in
set_option maxRecDepth 100000 in
theorem polyglotlaw18_head.calls  (r : Bool) (w : World) (h : polyglotlaw18_head.f  = some r) (HT0_ : Tab_ w := by exact Tab_.step HT0_ (by repeat (first | (with_reducible first | exact HB.out | apply below_alloc | apply pw_below_drewN | apply below_drew1 | refine below_set ?_ (Aside0.out (by assumption))) | exact HB.out))) (HP0_ : TabP_ w := by exact TabP_.step HP0_ (by repeat (first | (with_reducible first | exact HB.out | apply below_alloc | apply pw_below_drewN | apply below_drew1 | refine below_set ?_ (Aside0.out (by assumption))) | exact HB.out))) (HE0_ : TabE_ w := by exact TabE_.step HE0_ (by repeat (first | (with_reducible first | exact HB.out | apply below_alloc | apply pw_below_drewN | apply below_drew1 | refine below_set ?_ (Aside0.out (by assumption))) | exact HB.out))) :
  Calls Tryz.prog 9 #[] w fun e w' => e = .returned (.bool r) ∧ Below w.heap.size w w' := by
 have hu29 := Tryz.underlying29
 have HB := Aside0.mk (Below.refl w.heap.size w)
 have H : ((script_Encode.f (([(⟨1, (⟨#[101, 110]⟩ : ByteArray), (⟨#[]⟩ : ByteArray), false, ([] : List ByteArray), (⟨#[]⟩ : ByteArray), (⟨#[]⟩ : ByteArray), ([] : List (S44))⟩ : S29)] : List (S29)))).bind fun bt104 => (if bt104.2 = 0 then (if (strOfNums bt104.1).toList = ([49, 58, 99, 44, 50, 58, 101, 110, 44, 49, 58, 48, 44] : List UInt8) then ((script_Decode.f bt104.1).bind fun bt108 => (if bt108.2.2 = 0 then (if bt108.2.1 = (bt104.1.length : Int) then (if (bt108.1.length : Int) = 1 then (if 0 < (bt108.1.length : Int) then (some (((rd_T29 bt108.1 0).f1).toList == ([101, 110] : List UInt8))) else (none)) else (some false)) else (some false)) else (some false))) else (some false)) else (some false))) = some r := h
 clear h
 obtain ⟨y101, hy101⟩ : ∃ y_ : List (S29), y_ = (([(⟨1, (⟨#[101, 110]⟩ : ByteArray), (⟨#[]⟩ : ByteArray), false, ([] : List ByteArray), (⟨#[]⟩ : ByteArray), (⟨#[]⟩ : ByteArray), ([] : List (S44))⟩ : S29)] : List (S29))) := ⟨_, rfl⟩
 replace H : ((script_Encode.f y101).bind fun bt104 => (if bt104.2 = 0 then (if (strOfNums bt104.1).toList = ([49, 58, 99, 44, 50, 58, 101, 110, 44, 49, 58, 48, 44] : List UInt8) then ((script_Decode.f bt104.1).bind fun bt108 => (if bt108.2.2 = 0 then (if bt108.2.1 = (bt104.1.length : Int) then (if (bt108.1.length : Int) = 1 then (if 0 < (bt108.1.length : Int) then (some (((rd_T29 bt108.1 0).f1).toList == ([101, 110] : List UInt8))) else (none)) else (some false)) else (some false)) else (some false))) else (some false)) else (some false))) = some r := by first | (rw [hy101]; with_reducible exact H) | (have H2_ := (Option.bind_some _ _).symm.trans H; rw [hy101]; with_reducible exact H2_) | (have H2_ := (Option.bind_some _ _).symm.trans H; with_reducible exact H2_) | with_reducible exact H | (rw [hy101]; exact H) | exact H
 have Ny101 := Aside0.mk hy101
 clear hy101
 replace H := Option.bind_eq_some_iff.mp H
 obtain ⟨⟨t104, t107⟩, A10, H⟩ := H
 replace H : (if t107 = 0 then (if (strOfNums t104).toList = ([49, 58, 99, 44, 50, 58, 101, 110, 44, 49, 58, 48, 44] : List UInt8) then ((script_Decode.f t104).bind fun bt108 => (if bt108.2.2 = 0 then (if bt108.2.1 = (t104.length : Int) then (if (bt108.1.length : Int) = 1 then (if 0 < (bt108.1.length : Int) then (some (((rd_T29 bt108.1 0).f1).toList == ([101, 110] : List UInt8))) else (none)) else (some false)) else (some false)) else (some false))) else (some false)) else (some false)) = some r := H
 have A1 := Aside0.mk A10
 clear A10
 by_cases c2 : t107 = 0
 ·rw [if_pos c2] at H
  have c2b0 : (t107 == 0) = true := beq_iff_eq.mpr c2
  have c2b1 : (t107 != 0) = false := bne_eq_false_iff_eq.mpr c2
  clear c2
  by_cases c3 : (strOfNums t104).toList = ([49, 58, 99, 44, 50, 58, 101, 110, 44, 49, 58, 48, 44] : List UInt8)
  ·rw [if_pos c3] at H
   have c3b0 : ((strOfNums t104).toList == ([49, 58, 99, 44, 50, 58, 101, 110, 44, 49, 58, 48, 44] : List UInt8)) = true := beq_iff_eq.mpr c3
   have c3b1 : ((strOfNums t104).toList != ([49, 58, 99, 44, 50, 58, 101, 110, 44, 49, 58, 48, 44] : List UInt8)) = false := bne_eq_false_iff_eq.mpr c3
   clear c3
   replace H := Option.bind_eq_some_iff.mp H
   obtain ⟨⟨t108, t109, t110⟩, A40, H⟩ := H
   replace H : (if t110 = 0 then (if t109 = (t104.length : Int) then (if (t108.length : Int) = 1 then (if 0 < (t108.length : Int) then (some (((rd_T29 t108 0).f1).toList == ([101, 110] : List UInt8))) else (none)) else (some false)) else (some false)) else (some false)) = some r := H
   have A4 := Aside0.mk A40
   clear A40
   by_cases c5 : t110 = 0
   ·rw [if_pos c5] at H
    have c5b0 : (t110 == 0) = true := beq_iff_eq.mpr c5
    have c5b1 : (t110 != 0) = false := bne_eq_false_iff_eq.mpr c5
    clear c5
    by_cases c6 : t109 = (t104.length : Int)
    ·rw [if_pos c6] at H
     have c6b0 : (t109 == (t104.length : Int)) = true := beq_iff_eq.mpr c6
     have c6b1 : (t109 != (t104.length : Int)) = false := bne_eq_false_iff_eq.mpr c6
     clear c6
     by_cases c7 : (t108.length : Int) = 1
     ·rw [if_pos c7] at H
      have c7b0 : ((t108.length : Int) == 1) = true := beq_iff_eq.mpr c7
      have c7b1 : ((t108.length : Int) != 1) = false := bne_eq_false_iff_eq.mpr c7
      clear c7
      by_cases c8 : 0 < (t108.length : Int)
      ·rw [if_pos c8] at H
       have c8b0 : decide (0 < (t108.length : Int)) = true := decide_eq_true c8
       have c8b1 : decide (0 < t108.length) = true := decide_eq_true (by omega)
       clear c8
       obtain rfl := Option.some.inj H
       go_enter Tryz.func9, Tryz.ntmps9
       go_wp2_with (first | ((with_reducible refine gate_dst (N := 8) rfl ?_); (try (refine gate_guard (by rfl) ?_; dsimp only)); refine Kd.S_lit k29 _ 29 ?hg (N := 8) ?hd (xs := ([(⟨1, (⟨#[101, 110]⟩ : ByteArray), (⟨#[]⟩ : ByteArray), false, ([] : List ByteArray), (⟨#[]⟩ : ByteArray), (⟨#[]⟩ : ByteArray), ([] : List (S44))⟩ : S29)] : List (S29))) (inner := [.int .i64 1, .string (⟨#[101, 110]⟩ : ByteArray), .string (⟨#[]⟩ : ByteArray), .bool false, .slice none 0 0, .string (⟨#[]⟩ : ByteArray), .string (⟨#[]⟩ : ByteArray), .slice none 0 0]) (ok := fun _ => True) (okp := fun _ => True) ?hr ?hp (fun _ hk => hk) trivial (Below.refl _ _) (Nat.le_refl _) (by simp) ?_; (case hd => rfl); (case hg => rfl); (case hr => exact u0_); (case hp => exact u1_); intro v102 w9 ho10 hb hg_ hnew_; clear hg_ hnew_; (first | rw [← Ny101.out] at ho10 | (simp only [Int.reduceToNat] at ho10; rw [← Ny101.out] at ho10)); have HO103 := Aside0.mk (Kd.S_lower ho10 (below_size q0_)); replace HB := Aside0.mk (below_step q0_ hb); clear hb ho10; obtain ⟨Ao11, co11, eo11⟩ := Kd.S_slice HO103.out; subst eo11) | ((with_reducible refine gate_callee (f := 14) rfl ?_); refine goesL_ (some 9) rfl rfl Tryz.func14 (by kernel_rfl) rfl #[.slice Ao11 y101.length co11] rfl q2_ ?_; (with_reducible refine (script_Encode.calls _ _ y101 t104 t107 _ ?side1 ?side2 A1.out).mono ?_); (case side1 => repeat (first | exact (Kd.S_reads' HO103.out).2.2 | (with_reducible refine Kd.C_alloc ?_ _) | (with_reducible refine Kd.C_drewN ?_ _) | (with_reducible refine Kd.C_drew ?_))); (case side2 => exact (Kd.S_reads' HO103.out).2.1); rintro e w12 ⟨v105, rfl, ho0, hb⟩; refine ⟨_, rfl, ?_⟩; have HO106 := Aside0.mk (Kd.V_lower (Kd.V_mono (ok' := fun k_ => some k_ ≠ (.slice Ao11 y101.length co11 : Value).ownBlock) ho0 (fun k_ hk_ => (Kd.fresh' (Kd.S_lt q1_) k_ hk_))) (below_size q0_)); replace HO103 := Aside0.mk (Kd.S_below q1_ hb); replace HB := Aside0.mk (below_step q0_ hb); (try clear hb); (try clear hb2); (try clear hk); (try clear hi); (try clear ho0); obtain ⟨Ao14, co14, eo14⟩ := Kd.V_slice HO106.out; subst eo14; have hcv13 := fun (c_ : Nat) => Kd.C_string (c := c_) (P := Tryz.prog) Tryz.underlying32 Tryz.underlying5 Tryz.underlying9 (Kd.V_reads' HO106.out).2.2) | ((with_reducible refine gate_callee (f := 15) rfl ?_); refine goesL_ (some 21) rfl rfl Tryz.func15 (by kernel_rfl) rfl #[.slice Ao14 t104.length co14] rfl q2_ ?_; (with_reducible refine (script_Decode.calls _ _ t104 t108 t109 t110 _ ?side1 ?side2 A4.out).mono ?_); (case side1 => repeat (first | exact (Kd.V_reads' HO106.out).2.2 | (with_reducible refine Kd.C_alloc ?_ _) | (with_reducible refine Kd.C_drewN ?_ _) | (with_reducible refine Kd.C_drew ?_))); (case side2 => exact (Kd.V_reads' HO106.out).2.1); rintro e w15 ⟨v111, rfl, ho0, hb⟩; refine ⟨_, rfl, ?_⟩; replace HO106 := Aside0.mk (Kd.V_elder' q4_ (Kd.S_base ho0) hb); have HO112 := Aside0.mk (Kd.S_lower (Kd.S_new' ho0 (Kd.S_lt q1_)) (below_size q0_)); replace HO103 := Aside0.mk (Kd.S_elder' q1_ (Kd.S_base ho0) hb); replace HB := Aside0.mk (below_step q0_ hb); (try clear hb); (try clear hb2); (try clear hk); (try clear hi); (try clear ho0); obtain ⟨Ao16, co16, eo16⟩ := Kd.S_slice HO112.out; subst eo16; have p113 : 0 ≤ (0 : Int) := (by omega); have q113 : 0 < (t108.length : Int) := of_decide_eq_true (by first | (with_reducible assumption) | assumption); obtain ⟨ad113, A113_4, c113_4, A113_7, c113_7, e113, hx113_0, hx113_1, hx113_2, hx113_3, hx113_4, hx113_5, hx113_6, hx113_7, hl113_4, hi113_4, hl113_7, hi113_7⟩ := at_T29 (Kd.S_reads' HO112.out).2.2 0 p113 q113; cases e113; obtain ⟨ce113, hce113, hMe113, hcc113⟩ := Kd.S_get HO112.out z29 0 p113 (by first | exact q113 | exact of_decide_eq_true (by first | (with_reducible assumption) | assumption) | (have e_ := (Kd.S_reads' HO112.out).1; omega)); obtain ⟨ve113_4, ve113_7, rfl, ge113_4, ge113_7⟩ := k29_openM hMe113; have hv113_4 := hcc113 4 _ rfl; rw [add_field _ _ 4 (by omega)] at hv113_4; replace hv113_4 := Option.some.inj (hv113_4.symm.trans hx113_4); rw [hv113_4] at ge113_4; have HL113_4 := Aside0.mk (show Kd.R Kd.string 9 _ _ _ _ ((rd_T29 t108 0).f4) from ge113_4); clear hv113_4 ge113_4; have hv113_7 := hcc113 7 _ rfl; rw [add_field _ _ 7 (by omega)] at hv113_7; replace hv113_7 := Option.some.inj (hv113_7.symm.trans hx113_7); rw [hv113_7] at ge113_7; have HL113_7 := Aside0.mk (show Kd.R k44 44 _ _ _ _ ((rd_T29 t108 0).f7) from ge113_7); clear hv113_7 ge113_7 hcc113 hce113; have qi113 : (0 < t108.length) = True := eq_true (by omega); (try rw [show ((0 : Int)).toNat = 0 from rfl] at hx113_0); (try rw [show 0 * 8 = 0 from rfl] at hx113_0); (try rw [Addr.add_zero'] at hx113_0); (try rw [show ((0 : Int)).toNat = 0 from rfl] at hx113_1); (try rw [show 0 * 8 = 0 from rfl] at hx113_1); (try rw [Addr.add_zero'] at hx113_1); (try rw [show ((0 : Int)).toNat = 0 from rfl] at hx113_2); (try rw [show 0 * 8 = 0 from rfl] at hx113_2); (try rw [Addr.add_zero'] at hx113_2); (try rw [show ((0 : Int)).toNat = 0 from rfl] at hx113_3); (try rw [show 0 * 8 = 0 from rfl] at hx113_3); (try rw [Addr.add_zero'] at hx113_3); (try rw [show ((0 : Int)).toNat = 0 from rfl] at hx113_4); (try rw [show 0 * 8 = 0 from rfl] at hx113_4); (try rw [Addr.add_zero'] at hx113_4); (try rw [show ((0 : Int)).toNat = 0 from rfl] at hx113_5); (try rw [show 0 * 8 = 0 from rfl] at hx113_5); (try rw [Addr.add_zero'] at hx113_5); (try rw [show ((0 : Int)).toNat = 0 from rfl] at hx113_6); (try rw [show 0 * 8 = 0 from rfl] at hx113_6); (try rw [Addr.add_zero'] at hx113_6); (try rw [show ((0 : Int)).toNat = 0 from rfl] at hx113_7); (try rw [show 0 * 8 = 0 from rfl] at hx113_7); (try rw [Addr.add_zero'] at hx113_7); have HR113_4 := Aside0.mk hi113_4; have HC113_4 := Aside0.mk hl113_4; clear hi113_4 hl113_4; have HR113_7 := Aside0.mk hi113_7; have HC113_7 := Aside0.mk hl113_7; clear hi113_7 hl113_7; replace p113 := eq_true p113; replace q113 := eq_true q113))
       go_ret
       exact ⟨q3_, q0_⟩
      ·rw [if_neg c8] at H
       exact absurd H (by simp)
     ·rw [if_neg c7] at H
      have c7b0 : ((t108.length : Int) == 1) = false := beq_eq_false_iff_ne.mpr c7
      have c7b1 : ((t108.length : Int) != 1) = true := bne_iff_ne.mpr c7
      obtain rfl := Option.some.inj H
      go_enter Tryz.func9, Tryz.ntmps9
      go_wp2_with (first | ((with_reducible refine gate_dst (N := 8) rfl ?_); (try (refine gate_guard (by rfl) ?_; dsimp only)); refine Kd.S_lit k29 _ 29 ?hg (N := 8) ?hd (xs := ([(⟨1, (⟨#[101, 110]⟩ : ByteArray), (⟨#[]⟩ : ByteArray), false, ([] : List ByteArray), (⟨#[]⟩ : ByteArray), (⟨#[]⟩ : ByteArray), ([] : List (S44))⟩ : S29)] : List (S29))) (inner := [.int .i64 1, .string (⟨#[101, 110]⟩ : ByteArray), .string (⟨#[]⟩ : ByteArray), .bool false, .slice none 0 0, .string (⟨#[]⟩ : ByteArray), .string (⟨#[]⟩ : ByteArray), .slice none 0 0]) (ok := fun _ => True) (okp := fun _ => True) ?hr ?hp (fun _ hk => hk) trivial (Below.refl _ _) (Nat.le_refl _) (by simp) ?_; (case hd => rfl); (case hg => rfl); (case hr => exact u0_); (case hp => exact u1_); intro v102 w17 ho18 hb hg_ hnew_; clear hg_ hnew_; (first | rw [← Ny101.out] at ho18 | (simp only [Int.reduceToNat] at ho18; rw [← Ny101.out] at ho18)); have HO103 := Aside0.mk (Kd.S_lower ho18 (below_size q0_)); replace HB := Aside0.mk (below_step q0_ hb); clear hb ho18; obtain ⟨Ao19, co19, eo19⟩ := Kd.S_slice HO103.out; subst eo19) | ((with_reducible refine gate_callee (f := 14) rfl ?_); refine goesL_ (some 9) rfl rfl Tryz.func14 (by kernel_rfl) rfl #[.slice Ao19 y101.length co19] rfl q2_ ?_; (with_reducible refine (script_Encode.calls _ _ y101 t104 t107 _ ?side1 ?side2 A1.out).mono ?_); (case side1 => repeat (first | exact (Kd.S_reads' HO103.out).2.2 | (with_reducible refine Kd.C_alloc ?_ _) | (with_reducible refine Kd.C_drewN ?_ _) | (with_reducible refine Kd.C_drew ?_))); (case side2 => exact (Kd.S_reads' HO103.out).2.1); rintro e w20 ⟨v105, rfl, ho0, hb⟩; refine ⟨_, rfl, ?_⟩; have HO106 := Aside0.mk (Kd.V_lower (Kd.V_mono (ok' := fun k_ => some k_ ≠ (.slice Ao19 y101.length co19 : Value).ownBlock) ho0 (fun k_ hk_ => (Kd.fresh' (Kd.S_lt q1_) k_ hk_))) (below_size q0_)); replace HO103 := Aside0.mk (Kd.S_below q1_ hb); replace HB := Aside0.mk (below_step q0_ hb); (try clear hb); (try clear hb2); (try clear hk); (try clear hi); (try clear ho0); obtain ⟨Ao22, co22, eo22⟩ := Kd.V_slice HO106.out; subst eo22; have hcv21 := fun (c_ : Nat) => Kd.C_string (c := c_) (P := Tryz.prog) Tryz.underlying32 Tryz.underlying5 Tryz.underlying9 (Kd.V_reads' HO106.out).2.2) | ((with_reducible refine gate_callee (f := 15) rfl ?_); refine goesL_ (some 21) rfl rfl Tryz.func15 (by kernel_rfl) rfl #[.slice Ao22 t104.length co22] rfl q2_ ?_; (with_reducible refine (script_Decode.calls _ _ t104 t108 t109 t110 _ ?side1 ?side2 A4.out).mono ?_); (case side1 => repeat (first | exact (Kd.V_reads' HO106.out).2.2 | (with_reducible refine Kd.C_alloc ?_ _) | (with_reducible refine Kd.C_drewN ?_ _) | (with_reducible refine Kd.C_drew ?_))); (case side2 => exact (Kd.V_reads' HO106.out).2.1); rintro e w23 ⟨v111, rfl, ho0, hb⟩; refine ⟨_, rfl, ?_⟩; replace HO106 := Aside0.mk (Kd.V_elder' q4_ (Kd.S_base ho0) hb); have HO112 := Aside0.mk (Kd.S_lower (Kd.S_new' ho0 (Kd.S_lt q1_)) (below_size q0_)); replace HO103 := Aside0.mk (Kd.S_elder' q1_ (Kd.S_base ho0) hb); replace HB := Aside0.mk (below_step q0_ hb); (try clear hb); (try clear hb2); (try clear hk); (try clear hi); (try clear ho0); obtain ⟨Ao24, co24, eo24⟩ := Kd.S_slice HO112.out; subst eo24))
      go_ret
      exact ⟨q3_, q0_⟩
    ·rw [if_neg c6] at H
     have c6b0 : (t109 == (t104.length : Int)) = false := beq_eq_false_iff_ne.mpr c6
     have c6b1 : (t109 != (t104.length : Int)) = true := bne_iff_ne.mpr c6
     obtain rfl := Option.some.inj H
     go_enter Tryz.func9, Tryz.ntmps9
     go_wp2_with (first | ((with_reducible refine gate_dst (N := 8) rfl ?_); (try (refine gate_guard (by rfl) ?_; dsimp only)); refine Kd.S_lit k29 _ 29 ?hg (N := 8) ?hd (xs := ([(⟨1, (⟨#[101, 110]⟩ : ByteArray), (⟨#[]⟩ : ByteArray), false, ([] : List ByteArray), (⟨#[]⟩ : ByteArray), (⟨#[]⟩ : ByteArray), ([] : List (S44))⟩ : S29)] : List (S29))) (inner := [.int .i64 1, .string (⟨#[101, 110]⟩ : ByteArray), .string (⟨#[]⟩ : ByteArray), .bool false, .slice none 0 0, .string (⟨#[]⟩ : ByteArray), .string (⟨#[]⟩ : ByteArray), .slice none 0 0]) (ok := fun _ => True) (okp := fun _ => True) ?hr ?hp (fun _ hk => hk) trivial (Below.refl _ _) (Nat.le_refl _) (by simp) ?_; (case hd => rfl); (case hg => rfl); (case hr => exact u0_); (case hp => exact u1_); intro v102 w25 ho26 hb hg_ hnew_; clear hg_ hnew_; (first | rw [← Ny101.out] at ho26 | (simp only [Int.reduceToNat] at ho26; rw [← Ny101.out] at ho26)); have HO103 := Aside0.mk (Kd.S_lower ho26 (below_size q0_)); replace HB := Aside0.mk (below_step q0_ hb); clear hb ho26; obtain ⟨Ao27, co27, eo27⟩ := Kd.S_slice HO103.out; subst eo27) | ((with_reducible refine gate_callee (f := 14) rfl ?_); refine goesL_ (some 9) rfl rfl Tryz.func14 (by kernel_rfl) rfl #[.slice Ao27 y101.length co27] rfl q2_ ?_; (with_reducible refine (script_Encode.calls _ _ y101 t104 t107 _ ?side1 ?side2 A1.out).mono ?_); (case side1 => repeat (first | exact (Kd.S_reads' HO103.out).2.2 | (with_reducible refine Kd.C_alloc ?_ _) | (with_reducible refine Kd.C_drewN ?_ _) | (with_reducible refine Kd.C_drew ?_))); (case side2 => exact (Kd.S_reads' HO103.out).2.1); rintro e w28 ⟨v105, rfl, ho0, hb⟩; refine ⟨_, rfl, ?_⟩; have HO106 := Aside0.mk (Kd.V_lower (Kd.V_mono (ok' := fun k_ => some k_ ≠ (.slice Ao27 y101.length co27 : Value).ownBlock) ho0 (fun k_ hk_ => (Kd.fresh' (Kd.S_lt q1_) k_ hk_))) (below_size q0_)); replace HO103 := Aside0.mk (Kd.S_below q1_ hb); replace HB := Aside0.mk (below_step q0_ hb); (try clear hb); (try clear hb2); (try clear hk); (try clear hi); (try clear ho0); obtain ⟨Ao30, co30, eo30⟩ := Kd.V_slice HO106.out; subst eo30; have hcv29 := fun (c_ : Nat) => Kd.C_string (c := c_) (P := Tryz.prog) Tryz.underlying32 Tryz.underlying5 Tryz.underlying9 (Kd.V_reads' HO106.out).2.2) | ((with_reducible refine gate_callee (f := 15) rfl ?_); refine goesL_ (some 21) rfl rfl Tryz.func15 (by kernel_rfl) rfl #[.slice Ao30 t104.length co30] rfl q2_ ?_; (with_reducible refine (script_Decode.calls _ _ t104 t108 t109 t110 _ ?side1 ?side2 A4.out).mono ?_); (case side1 => repeat (first | exact (Kd.V_reads' HO106.out).2.2 | (with_reducible refine Kd.C_alloc ?_ _) | (with_reducible refine Kd.C_drewN ?_ _) | (with_reducible refine Kd.C_drew ?_))); (case side2 => exact (Kd.V_reads' HO106.out).2.1); rintro e w31 ⟨v111, rfl, ho0, hb⟩; refine ⟨_, rfl, ?_⟩; replace HO106 := Aside0.mk (Kd.V_elder' q4_ (Kd.S_base ho0) hb); have HO112 := Aside0.mk (Kd.S_lower (Kd.S_new' ho0 (Kd.S_lt q1_)) (below_size q0_)); replace HO103 := Aside0.mk (Kd.S_elder' q1_ (Kd.S_base ho0) hb); replace HB := Aside0.mk (below_step q0_ hb); (try clear hb); (try clear hb2); (try clear hk); (try clear hi); (try clear ho0)))
     go_ret
     exact ⟨q3_, q0_⟩
   ·rw [if_neg c5] at H
    have c5b0 : (t110 == 0) = false := beq_eq_false_iff_ne.mpr c5
    have c5b1 : (t110 != 0) = true := bne_iff_ne.mpr c5
    obtain rfl := Option.some.inj H
    go_enter Tryz.func9, Tryz.ntmps9
    go_wp2_with (first | ((with_reducible refine gate_dst (N := 8) rfl ?_); (try (refine gate_guard (by rfl) ?_; dsimp only)); refine Kd.S_lit k29 _ 29 ?hg (N := 8) ?hd (xs := ([(⟨1, (⟨#[101, 110]⟩ : ByteArray), (⟨#[]⟩ : ByteArray), false, ([] : List ByteArray), (⟨#[]⟩ : ByteArray), (⟨#[]⟩ : ByteArray), ([] : List (S44))⟩ : S29)] : List (S29))) (inner := [.int .i64 1, .string (⟨#[101, 110]⟩ : ByteArray), .string (⟨#[]⟩ : ByteArray), .bool false, .slice none 0 0, .string (⟨#[]⟩ : ByteArray), .string (⟨#[]⟩ : ByteArray), .slice none 0 0]) (ok := fun _ => True) (okp := fun _ => True) ?hr ?hp (fun _ hk => hk) trivial (Below.refl _ _) (Nat.le_refl _) (by simp) ?_; (case hd => rfl); (case hg => rfl); (case hr => exact u0_); (case hp => exact u1_); intro v102 w32 ho33 hb hg_ hnew_; clear hg_ hnew_; (first | rw [← Ny101.out] at ho33 | (simp only [Int.reduceToNat] at ho33; rw [← Ny101.out] at ho33)); have HO103 := Aside0.mk (Kd.S_lower ho33 (below_size q0_)); replace HB := Aside0.mk (below_step q0_ hb); clear hb ho33; obtain ⟨Ao34, co34, eo34⟩ := Kd.S_slice HO103.out; subst eo34) | ((with_reducible refine gate_callee (f := 14) rfl ?_); refine goesL_ (some 9) rfl rfl Tryz.func14 (by kernel_rfl) rfl #[.slice Ao34 y101.length co34] rfl q2_ ?_; (with_reducible refine (script_Encode.calls _ _ y101 t104 t107 _ ?side1 ?side2 A1.out).mono ?_); (case side1 => repeat (first | exact (Kd.S_reads' HO103.out).2.2 | (with_reducible refine Kd.C_alloc ?_ _) | (with_reducible refine Kd.C_drewN ?_ _) | (with_reducible refine Kd.C_drew ?_))); (case side2 => exact (Kd.S_reads' HO103.out).2.1); rintro e w35 ⟨v105, rfl, ho0, hb⟩; refine ⟨_, rfl, ?_⟩; have HO106 := Aside0.mk (Kd.V_lower (Kd.V_mono (ok' := fun k_ => some k_ ≠ (.slice Ao34 y101.length co34 : Value).ownBlock) ho0 (fun k_ hk_ => (Kd.fresh' (Kd.S_lt q1_) k_ hk_))) (below_size q0_)); replace HO103 := Aside0.mk (Kd.S_below q1_ hb); replace HB := Aside0.mk (below_step q0_ hb); (try clear hb); (try clear hb2); (try clear hk); (try clear hi); (try clear ho0); obtain ⟨Ao37, co37, eo37⟩ := Kd.V_slice HO106.out; subst eo37; have hcv36 := fun (c_ : Nat) => Kd.C_string (c := c_) (P := Tryz.prog) Tryz.underlying32 Tryz.underlying5 Tryz.underlying9 (Kd.V_reads' HO106.out).2.2) | ((with_reducible refine gate_callee (f := 15) rfl ?_); refine goesL_ (some 21) rfl rfl Tryz.func15 (by kernel_rfl) rfl #[.slice Ao37 t104.length co37] rfl q2_ ?_; (with_reducible refine (script_Decode.calls _ _ t104 t108 t109 t110 _ ?side1 ?side2 A4.out).mono ?_); (case side1 => repeat (first | exact (Kd.V_reads' HO106.out).2.2 | (with_reducible refine Kd.C_alloc ?_ _) | (with_reducible refine Kd.C_drewN ?_ _) | (with_reducible refine Kd.C_drew ?_))); (case side2 => exact (Kd.V_reads' HO106.out).2.1); rintro e w38 ⟨v111, rfl, ho0, hb⟩; refine ⟨_, rfl, ?_⟩; replace HO106 := Aside0.mk (Kd.V_elder' q4_ (Kd.S_base ho0) hb); have HO112 := Aside0.mk (Kd.S_lower (Kd.S_new' ho0 (Kd.S_lt q1_)) (below_size q0_)); replace HO103 := Aside0.mk (Kd.S_elder' q1_ (Kd.S_base ho0) hb); replace HB := Aside0.mk (below_step q0_ hb); (try clear hb); (try clear hb2); (try clear hk); (try clear hi); (try clear ho0)))
    go_ret
    exact ⟨q3_, q0_⟩
  ·rw [if_neg c3] at H
   have c3b0 : ((strOfNums t104).toList == ([49, 58, 99, 44, 50, 58, 101, 110, 44, 49, 58, 48, 44] : List UInt8)) = false := beq_eq_false_iff_ne.mpr c3
   have c3b1 : ((strOfNums t104).toList != ([49, 58, 99, 44, 50, 58, 101, 110, 44, 49, 58, 48, 44] : List UInt8)) = true := bne_iff_ne.mpr c3
   obtain rfl := Option.some.inj H
   go_enter Tryz.func9, Tryz.ntmps9
   go_wp2_with (first | ((with_reducible refine gate_dst (N := 8) rfl ?_); (try (refine gate_guard (by rfl) ?_; dsimp only)); refine Kd.S_lit k29 _ 29 ?hg (N := 8) ?hd (xs := ([(⟨1, (⟨#[101, 110]⟩ : ByteArray), (⟨#[]⟩ : ByteArray), false, ([] : List ByteArray), (⟨#[]⟩ : ByteArray), (⟨#[]⟩ : ByteArray), ([] : List (S44))⟩ : S29)] : List (S29))) (inner := [.int .i64 1, .string (⟨#[101, 110]⟩ : ByteArray), .string (⟨#[]⟩ : ByteArray), .bool false, .slice none 0 0, .string (⟨#[]⟩ : ByteArray), .string (⟨#[]⟩ : ByteArray), .slice none 0 0]) (ok := fun _ => True) (okp := fun _ => True) ?hr ?hp (fun _ hk => hk) trivial (Below.refl _ _) (Nat.le_refl _) (by simp) ?_; (case hd => rfl); (case hg => rfl); (case hr => exact u0_); (case hp => exact u1_); intro v102 w39 ho40 hb hg_ hnew_; clear hg_ hnew_; (first | rw [← Ny101.out] at ho40 | (simp only [Int.reduceToNat] at ho40; rw [← Ny101.out] at ho40)); have HO103 := Aside0.mk (Kd.S_lower ho40 (below_size q0_)); replace HB := Aside0.mk (below_step q0_ hb); clear hb ho40; obtain ⟨Ao41, co41, eo41⟩ := Kd.S_slice HO103.out; subst eo41) | ((with_reducible refine gate_callee (f := 14) rfl ?_); refine goesL_ (some 9) rfl rfl Tryz.func14 (by kernel_rfl) rfl #[.slice Ao41 y101.length co41] rfl q2_ ?_; (with_reducible refine (script_Encode.calls _ _ y101 t104 t107 _ ?side1 ?side2 A1.out).mono ?_); (case side1 => repeat (first | exact (Kd.S_reads' HO103.out).2.2 | (with_reducible refine Kd.C_alloc ?_ _) | (with_reducible refine Kd.C_drewN ?_ _) | (with_reducible refine Kd.C_drew ?_))); (case side2 => exact (Kd.S_reads' HO103.out).2.1); rintro e w42 ⟨v105, rfl, ho0, hb⟩; refine ⟨_, rfl, ?_⟩; have HO106 := Aside0.mk (Kd.V_lower (Kd.V_mono (ok' := fun k_ => some k_ ≠ (.slice Ao41 y101.length co41 : Value).ownBlock) ho0 (fun k_ hk_ => (Kd.fresh' (Kd.S_lt q1_) k_ hk_))) (below_size q0_)); replace HO103 := Aside0.mk (Kd.S_below q1_ hb); replace HB := Aside0.mk (below_step q0_ hb); (try clear hb); (try clear hb2); (try clear hk); (try clear hi); (try clear ho0); (try (obtain ⟨Ac_, cc_, ec_⟩ := Kd.V_slice HO106.out; subst ec_)); have hcv43 := fun (c_ : Nat) => Kd.C_string (c := c_) (P := Tryz.prog) Tryz.underlying32 Tryz.underlying5 Tryz.underlying9 (Kd.V_reads' HO106.out).2.2))
   go_ret
   exact ⟨q3_, q0_⟩
 ·rw [if_neg c2] at H
  have c2b0 : (t107 == 0) = false := beq_eq_false_iff_ne.mpr c2
  have c2b1 : (t107 != 0) = true := bne_iff_ne.mpr c2
  obtain rfl := Option.some.inj H
  go_enter Tryz.func9, Tryz.ntmps9
  go_wp2_with (first | ((with_reducible refine gate_dst (N := 8) rfl ?_); (try (refine gate_guard (by rfl) ?_; dsimp only)); refine Kd.S_lit k29 _ 29 ?hg (N := 8) ?hd (xs := ([(⟨1, (⟨#[101, 110]⟩ : ByteArray), (⟨#[]⟩ : ByteArray), false, ([] : List ByteArray), (⟨#[]⟩ : ByteArray), (⟨#[]⟩ : ByteArray), ([] : List (S44))⟩ : S29)] : List (S29))) (inner := [.int .i64 1, .string (⟨#[101, 110]⟩ : ByteArray), .string (⟨#[]⟩ : ByteArray), .bool false, .slice none 0 0, .string (⟨#[]⟩ : ByteArray), .string (⟨#[]⟩ : ByteArray), .slice none 0 0]) (ok := fun _ => True) (okp := fun _ => True) ?hr ?hp (fun _ hk => hk) trivial (Below.refl _ _) (Nat.le_refl _) (by simp) ?_; (case hd => rfl); (case hg => rfl); (case hr => exact u0_); (case hp => exact u1_); intro v102 w44 ho45 hb hg_ hnew_; clear hg_ hnew_; (first | rw [← Ny101.out] at ho45 | (simp only [Int.reduceToNat] at ho45; rw [← Ny101.out] at ho45)); have HO103 := Aside0.mk (Kd.S_lower ho45 (below_size q0_)); replace HB := Aside0.mk (below_step q0_ hb); clear hb ho45; obtain ⟨Ao46, co46, eo46⟩ := Kd.S_slice HO103.out; subst eo46) | ((with_reducible refine gate_callee (f := 14) rfl ?_); refine goesL_ (some 9) rfl rfl Tryz.func14 (by kernel_rfl) rfl #[.slice Ao46 y101.length co46] rfl q2_ ?_; (with_reducible refine (script_Encode.calls _ _ y101 t104 t107 _ ?side1 ?side2 A1.out).mono ?_); (case side1 => repeat (first | exact (Kd.S_reads' HO103.out).2.2 | (with_reducible refine Kd.C_alloc ?_ _) | (with_reducible refine Kd.C_drewN ?_ _) | (with_reducible refine Kd.C_drew ?_))); (case side2 => exact (Kd.S_reads' HO103.out).2.1); rintro e w47 ⟨v105, rfl, ho0, hb⟩; refine ⟨_, rfl, ?_⟩; have HO106 := Aside0.mk (Kd.V_lower (Kd.V_mono (ok' := fun k_ => some k_ ≠ (.slice Ao46 y101.length co46 : Value).ownBlock) ho0 (fun k_ hk_ => (Kd.fresh' (Kd.S_lt q1_) k_ hk_))) (below_size q0_)); replace HO103 := Aside0.mk (Kd.S_below q1_ hb); replace HB := Aside0.mk (below_step q0_ hb); (try clear hb); (try clear hb2); (try clear hk); (try clear hi); (try clear ho0)))
  go_ret
  exact ⟨q3_, q0_⟩
end Go.Proofs.YtdhpcofnddkcaaaGreatDoor.S
namespace Go.Proofs.YtdhpcofnddkcaaaGreatDoor.S
open Go.RowKit Go.Proofs.YtdhpcofnddkcaaaGreatDoor.G Go.Proofs.YtdhpcofnddkcaaaGreatDoorW.PrintWords Go.Proofs.YtdhpcofnddkcaaaGreatDoorW.PrintLast Go.Proofs.YtdhpcofnddkcaaaGreatDoorW.PrintMore
set_option linter.unusedVariables false
set_option linter.unusedSimpArgs false
def nums8 (l : List UInt8) : List Int := l.map fun c => (c.toNat : Int)
theorem bl_nums (l : List UInt8) : bl (strOfNums (nums8 l)) = l := by
  show (strOfNums (nums8 l)).data.toList = l
  rw [strOfNums_data]
  unfold nums8
  rw [List.map_map]
  conv => rhs; rw [← List.map_id l]
  refine List.map_congr_left fun c _ => ?_
  show UInt8.ofNat ((c.toNat : Int)).toNat = c
  simp
theorem nums8_len (l : List UInt8) : (nums8 l).length = l.length := List.length_map _
def headS : S29 := ⟨1, ⟨#[101, 110]⟩, ⟨#[]⟩, false, [], ⟨#[]⟩, ⟨#[]⟩, []⟩
theorem encode_head : script_Encode.f [headS] = some (nums8 (Net.encs (Net.parts Net.stE)), 0) := by
  have e : Net.encS ([headS].map toSt) = Net.encs (Net.parts Net.stE) := by
    show Net.encs (Net.parts Net.stE) ++ [] = _
    rw [List.append_nil]
  unfold script_Encode.f
  rw [if_pos (by decide), e, if_pos ⟨by rw [Net.stE_bytes]; decide, fun s hs => by
    rw [List.mem_singleton] at hs
    subst hs
    exact ⟨by decide, by decide, fun a ha => by cases ha⟩⟩, if_pos (show ([headS].map toSt).all (Net.right okA) = true from rfl)]
  rfl
theorem decode_of {list : List Net.St} (hr : ∀ s ∈ list, Net.right okA s = true) (hs : ∀ s ∈ list, Net.small s) (hm : list.length ≤ 4096) (hl : (Net.encS list).length ≤ 100000) (hf : list.length ≤ (Net.encS list).length + 1) :
    script_Decode.f (nums8 (Net.encS list)) = some (list.map ofSt, ((Net.encS list).length : Int), 0) := by
  unfold script_Decode.f
  rw [nums8_len, if_pos (by omega), if_neg (by omega)]
  show some ((Net.decR okA (bl (strOfNums (nums8 (Net.encS list)))) _ 4096 0).1.map ofSt, ((Net.decR okA (bl (strOfNums (nums8 (Net.encS list)))) _ 4096 0).2.1 : Int), (Net.decR okA (bl (strOfNums (nums8 (Net.encS list)))) _ 4096 0).2.2) = _
  rw [bl_nums]
  have := Net.decR_all okA_kind (f := (Net.encS list).length + 1 - list.length) hr hs hm
  rw [show list.length + ((Net.encS list).length + 1 - list.length) = (Net.encS list).length + 1 by omega] at this
  rw [this]
theorem head_f : polyglotlaw18_head.f = some true := by
  have hb : Net.encS [Net.stE] = Net.encs (Net.parts Net.stE) := by
    show Net.encs (Net.parts Net.stE) ++ [] = _
    rw [List.append_nil]
  have hd := decode_of (list := [Net.stE]) (fun s h => by rw [List.mem_singleton] at h; subst h; exact Net.stE_right okA) (fun s h => by rw [List.mem_singleton] at h; subst h; exact Net.stE_small) (by decide) (by rw [hb, Net.stE_bytes]; decide) (by rw [hb, Net.stE_bytes]; decide)
  rw [hb] at hd
  unfold polyglotlaw18_head.f
  show (script_Encode.f [headS]).bind _ = _
  rw [encode_head, Option.bind_some]
  show (if (0 : Int) = 0 then _ else _) = _
  rw [if_pos rfl, tl, bl_nums, if_pos Net.stE_bytes, hd, Option.bind_some]
  show (if (0 : Int) = 0 then _ else _) = _
  rw [if_pos rfl, nums8_len]
  show (if ((Net.encs (Net.parts Net.stE)).length : Int) = _ then _ else _) = _
  rw [if_pos rfl]
  show (if (1 : Int) = 1 then (if (0 : Int) < 1 then some (headS.f1.toList == ([101, 110] : List UInt8)) else none) else some false) = some true
  rw [if_pos rfl, if_pos (by decide), tl]
  rfl
end Go.Proofs.YtdhpcofnddkcaaaGreatDoor.S
namespace Go.Proofs.YtdhpcofnddkcaaaGreatDoor.S
open Go.RowKit Go.Proofs.YtdhpcofnddkcaaaGreatDoor.G Go.Proofs.YtdhpcofnddkcaaaGreatDoorW.PrintWords Go.Proofs.YtdhpcofnddkcaaaGreatDoorW.PrintLast Go.Proofs.YtdhpcofnddkcaaaGreatDoorW.PrintMore
attribute [local go_sem] max2_int min2_int max_two min_two max_three min_three max_four min_four
set_option linter.unusedVariables false
set_option linter.unusedSimpArgs false
theorem eqA44 (d : Nat) (w : World) (x0 y0 : ByteArray) (x1 y1 : Int) (x2 y2 : ByteArray) :
    (Op.equalIn (d + 2) 44 (.agg #[.string x0, .int .i64 x1, .string x2]) (.agg #[.string y0, .int .i64 y1, .string y2])).run Tryz.prog w = .ok (x0.toList == y0.toList && (x1 == y1 && (x2.toList == y2.toList))) w := by
  refine eqA_of Tryz.underlying44 (by kernel_rfl) ?_
  refine eqf_cons (by rfl) (by go_simp; rfl) (by go_simp; rfl) (by go_simp) ?_
  refine eqf_cons (by rfl) (by go_simp; rfl) (by go_simp; rfl) (by go_simp) ?_
  exact eqf_last (by rfl) (by go_simp; rfl) (by go_simp; rfl) (by go_simp)
end Go.Proofs.YtdhpcofnddkcaaaGreatDoor.S
namespace Go.Proofs.YtdhpcofnddkcaaaGreatDoor.S
open Go.RowKit Go.Proofs.YtdhpcofnddkcaaaGreatDoor.G Go.Proofs.YtdhpcofnddkcaaaGreatDoorW.PrintWords Go.Proofs.YtdhpcofnddkcaaaGreatDoorW.PrintLast Go.Proofs.YtdhpcofnddkcaaaGreatDoorW.PrintMore
attribute [local go_sem] max2_int min2_int max_two min_two max_three min_three max_four min_four
set_option linter.unusedVariables false
set_option linter.unusedSimpArgs false
attribute [local go_sem high] eqA44
namespace Sx16
theorem cellsF8 {w : World} {g : Nat} {t : TypeId} {a0 a1 a2 a3 a4 a5 a6 a7 : Value} (h : w.heap[g]? = some (.cells #[a0, a1, a2, a3, a4, a5, a6, a7] t (0, 0))) : w.cell? ⟨g, 0, none⟩ = some a0 ∧ w.cell? ⟨g, 1, none⟩ = some a1 ∧ w.cell? ⟨g, 2, none⟩ = some a2 ∧ w.cell? ⟨g, 3, none⟩ = some a3 ∧ w.cell? ⟨g, 4, none⟩ = some a4 ∧ w.cell? ⟨g, 5, none⟩ = some a5 ∧ w.cell? ⟨g, 6, none⟩ = some a6 ∧ w.cell? ⟨g, 7, none⟩ = some a7 ∧ w.frozen? ⟨g, 0, none⟩ = false ∧ w.frozen? ⟨g, 1, none⟩ = false ∧ w.frozen? ⟨g, 2, none⟩ = false ∧ w.frozen? ⟨g, 3, none⟩ = false ∧ w.frozen? ⟨g, 4, none⟩ = false ∧ w.frozen? ⟨g, 5, none⟩ = false ∧ w.frozen? ⟨g, 6, none⟩ = false ∧ w.frozen? ⟨g, 7, none⟩ = false := ⟨(blk_cell h 0).trans rfl, (blk_cell h 1).trans rfl, (blk_cell h 2).trans rfl, (blk_cell h 3).trans rfl, (blk_cell h 4).trans rfl, (blk_cell h 5).trans rfl, (blk_cell h 6).trans rfl, (blk_cell h 7).trans rfl, blk_frozen h 0, blk_frozen h 1, blk_frozen h 2, blk_frozen h 3, blk_frozen h 4, blk_frozen h 5, blk_frozen h 6, blk_frozen h 7⟩
theorem q0_ {p_ : Prop} (h_ : p_ := by repeat (first | (with_reducible first | exact HB.out | apply below_alloc | apply pw_below_drewN | apply below_drew1 | refine below_set ?_ GE299.out | refine below_set ?_ GE300.out) | exact HB.out)) : p_ := h_
theorem q1_ {p_ : Prop} (h_ : p_ := by (with_reducible repeat (first | refine blk_drewN ?_ _ | refine blk_drew ?_ | refine blk_alloc ?_ _)); exact BK299.out) : p_ := h_
theorem q2_ {p_ : Prop} (h_ : p_ := by repeat (first | (with_reducible first | exact HB.out | apply below_alloc | apply pw_below_drewN | apply below_drew1 | refine below_set ?_ GE299.out) | exact HB.out)) : p_ := h_
theorem q3_ {p_ : Prop} (h_ : p_ := by (with_reducible repeat (first | refine blk_drewN ?_ _ | refine blk_drew ?_ | refine blk_alloc ?_ _)); exact BK300.out) : p_ := h_
theorem q4_ {p_ : Prop} (h_ : p_ := by repeat (first | (with_reducible first | exact HB.out | apply below_alloc | apply pw_below_drewN | apply below_drew1) | exact HB.out)) : p_ := h_
theorem q5_ {p_ : Prop} (h_ : p_ := by first | (with_reducible assumption) | assumption) : p_ := h_
theorem q6_ {p_ : Prop} (h_ : p_ := by first | rfl | (simp; done) | (simp [*]; done)) : p_ := h_
theorem q7_ {p_ : Prop} (h_ : p_ := by rw [hg]; exact Nat.ne_of_lt (blk_lt (g := gb299) (o := .cells #[.int .i64 a0_0, .string a0_1, .string a0_2, .bool a0_3, .slice A0_4 l0_4.length c0_4, .string a0_5, .string a0_6, .slice A0_7 l0_7.length c0_7] 29 (0, 0)) q1_)) : p_ := h_
theorem q8_ {p_ : Prop} (h_ : p_ := by rw [hg]; exact Nat.ne_of_gt (blk_lt (g := gb299) (o := .cells #[.int .i64 a0_0, .string a0_1, .string a0_2, .bool a0_3, .slice A0_4 l0_4.length c0_4, .string a0_5, .string a0_6, .slice A0_7 l0_7.length c0_7] 29 (0, 0)) q1_)) : p_ := h_
theorem q9_ {p_ : Prop} (h_ : p_ := by first | rfl | (simp [errW_none, errW_some] <;> rfl) | (simp [*, errW_none, errW_some] <;> rfl)) : p_ := h_
theorem q10_ {p_ : Prop} (h_ : p_ := by first | omega | exact Nat.le_refl _) : p_ := h_
theorem q11_ {p_ : Prop} (h_ : p_ := by rw [hg]; exact (below_size q4_)) : p_ := h_
theorem q12_ {p_ : Prop} (h_ : p_ := by rw [hg]; exact (below_size q2_)) : p_ := h_
theorem u0_ {p_ : Prop} (h_ : p_ := by first | (go_simp; done) | (go_simp; rfl)) : p_ := h_
end Sx16
open Sx16
mutual
def polyglotlaw18_Same.j0 : Nat → Bool → Int → ByteArray → ByteArray → Bool → List ByteArray → ByteArray → ByteArray → List (S44) → Int → ByteArray → ByteArray → Bool → List ByteArray → ByteArray → ByteArray → List (S44) → Option (Bool)
 | 0, _, _, _, _, _, _, _, _, _, _, _, _, _, _, _, _, _ => none
 | k + 1, x64, x300000, x300001, x300002, x300003, x300004, x300005, x300006, x300007, x301000, x301001, x301002, x301003, x301004, x301005, x301006, x301007 => if x64 = true then (some false) else (polyglotlaw18_Same.l0 k (x300004.length : Int) 0 x300000 x300001 x300002 x300003 x300004 x300005 x300006 x300007 x301000 x301001 x301002 x301003 x301004 x301005 x301006 x301007)
def polyglotlaw18_Same.l0 : Nat → Int → Int → Int → ByteArray → ByteArray → Bool → List ByteArray → ByteArray → ByteArray → List (S44) → Int → ByteArray → ByteArray → Bool → List ByteArray → ByteArray → ByteArray → List (S44) → Option (Bool)
 | 0, _, _, _, _, _, _, _, _, _, _, _, _, _, _, _, _, _, _ => none
 | k + 1, x67, x68, x300000, x300001, x300002, x300003, x300004, x300005, x300006, x300007, x301000, x301001, x301002, x301003, x301004, x301005, x301006, x301007 => if x68 < x67 then (if 0 ≤ x68 then (if x68 < (x300004.length : Int) then (if x68 < (x301004.length : Int) then (if (rdOf ByteArray.empty x300004 x68).toList = (rdOf ByteArray.empty x301004 x68).toList then (polyglotlaw18_Same.l0 k x67 (wrap64 (x68 + 1)) x300000 x300001 x300002 x300003 x300004 x300005 x300006 x300007 x301000 x301001 x301002 x301003 x301004 x301005 x301006 x301007) else (some false)) else (none)) else (none)) else (none)) else (polyglotlaw18_Same.l1 k (x300007.length : Int) 0 x300000 x300001 x300002 x300003 x300004 x300005 x300006 x300007 x301000 x301001 x301002 x301003 x301004 x301005 x301006 x301007)
def polyglotlaw18_Same.l1 : Nat → Int → Int → Int → ByteArray → ByteArray → Bool → List ByteArray → ByteArray → ByteArray → List (S44) → Int → ByteArray → ByteArray → Bool → List ByteArray → ByteArray → ByteArray → List (S44) → Option (Bool)
 | 0, _, _, _, _, _, _, _, _, _, _, _, _, _, _, _, _, _, _ => none
 | k + 1, x85, x86, x300000, x300001, x300002, x300003, x300004, x300005, x300006, x300007, x301000, x301001, x301002, x301003, x301004, x301005, x301006, x301007 => if x86 < x85 then (if 0 ≤ x86 then (if x86 < (x300007.length : Int) then (if x86 < (x301007.length : Int) then (if (!((((rd_T44 x300007 x86).f0).toList) == (((rd_T44 x301007 x86).f0).toList)) || (!(((rd_T44 x300007 x86).f1) == ((rd_T44 x301007 x86).f1)) || (!((((rd_T44 x300007 x86).f2).toList) == (((rd_T44 x301007 x86).f2).toList))))) = true then (some false) else (polyglotlaw18_Same.l1 k x85 (wrap64 (x86 + 1)) x300000 x300001 x300002 x300003 x300004 x300005 x300006 x300007 x301000 x301001 x301002 x301003 x301004 x301005 x301006 x301007)) else (none)) else (none)) else (none)) else (some true)
end
def polyglotlaw18_Same.f (k : Nat) (a0_0 : Int) (a0_1 : ByteArray) (a0_2 : ByteArray) (a0_3 : Bool) (l0_4 : List ByteArray) (a0_5 : ByteArray) (a0_6 : ByteArray) (l0_7 : List (S44)) (a1_0 : Int) (a1_1 : ByteArray) (a1_2 : ByteArray) (a1_3 : Bool) (l1_4 : List ByteArray) (a1_5 : ByteArray) (a1_6 : ByteArray) (l1_7 : List (S44)) : Option (Bool) := if a0_0 = a1_0 then (if a0_1.toList = a1_1.toList then (if a0_2.toList = a1_2.toList then (if (a0_3 != a1_3) = true then (polyglotlaw18_Same.j0 k true a0_0 a0_1 a0_2 a0_3 l0_4 a0_5 a0_6 l0_7 a1_0 a1_1 a1_2 a1_3 l1_4 a1_5 a1_6 l1_7) else (if a0_5.toList = a1_5.toList then (if a0_6.toList = a1_6.toList then (if (l0_4.length : Int) = (l1_4.length : Int) then (polyglotlaw18_Same.j0 k ((l0_7.length : Int) != (l1_7.length : Int)) a0_0 a0_1 a0_2 a0_3 l0_4 a0_5 a0_6 l0_7 a1_0 a1_1 a1_2 a1_3 l1_4 a1_5 a1_6 l1_7) else (polyglotlaw18_Same.j0 k true a0_0 a0_1 a0_2 a0_3 l0_4 a0_5 a0_6 l0_7 a1_0 a1_1 a1_2 a1_3 l1_4 a1_5 a1_6 l1_7)) else (polyglotlaw18_Same.j0 k true a0_0 a0_1 a0_2 a0_3 l0_4 a0_5 a0_6 l0_7 a1_0 a1_1 a1_2 a1_3 l1_4 a1_5 a1_6 l1_7)) else (polyglotlaw18_Same.j0 k true a0_0 a0_1 a0_2 a0_3 l0_4 a0_5 a0_6 l0_7 a1_0 a1_1 a1_2 a1_3 l1_4 a1_5 a1_6 l1_7))) else (polyglotlaw18_Same.j0 k true a0_0 a0_1 a0_2 a0_3 l0_4 a0_5 a0_6 l0_7 a1_0 a1_1 a1_2 a1_3 l1_4 a1_5 a1_6 l1_7)) else (polyglotlaw18_Same.j0 k true a0_0 a0_1 a0_2 a0_3 l0_4 a0_5 a0_6 l0_7 a1_0 a1_1 a1_2 a1_3 l1_4 a1_5 a1_6 l1_7)) else (polyglotlaw18_Same.j0 k true a0_0 a0_1 a0_2 a0_3 l0_4 a0_5 a0_6 l0_7 a1_0 a1_1 a1_2 a1_3 l1_4 a1_5 a1_6 l1_7)
theorem polyglotlaw18_Same.mono_l : ∀ k, (∀ y0 y1 y2 y3 y4 y5 y6 y7 y8 y9 y10 y11 y12 y13 y14 y15 y16, LeO (polyglotlaw18_Same.j0 k y0 y1 y2 y3 y4 y5 y6 y7 y8 y9 y10 y11 y12 y13 y14 y15 y16) (polyglotlaw18_Same.j0 (k + 1) y0 y1 y2 y3 y4 y5 y6 y7 y8 y9 y10 y11 y12 y13 y14 y15 y16)) ∧ (∀ y0 y1 y2 y3 y4 y5 y6 y7 y8 y9 y10 y11 y12 y13 y14 y15 y16 y17, LeO (polyglotlaw18_Same.l0 k y0 y1 y2 y3 y4 y5 y6 y7 y8 y9 y10 y11 y12 y13 y14 y15 y16 y17) (polyglotlaw18_Same.l0 (k + 1) y0 y1 y2 y3 y4 y5 y6 y7 y8 y9 y10 y11 y12 y13 y14 y15 y16 y17)) ∧ (∀ y0 y1 y2 y3 y4 y5 y6 y7 y8 y9 y10 y11 y12 y13 y14 y15 y16 y17, LeO (polyglotlaw18_Same.l1 k y0 y1 y2 y3 y4 y5 y6 y7 y8 y9 y10 y11 y12 y13 y14 y15 y16 y17) (polyglotlaw18_Same.l1 (k + 1) y0 y1 y2 y3 y4 y5 y6 y7 y8 y9 y10 y11 y12 y13 y14 y15 y16 y17))
 | 0 => ⟨fun _ _ _ _ _ _ _ _ _ _ _ _ _ _ _ _ _ r h => by simp [polyglotlaw18_Same.j0] at h, fun _ _ _ _ _ _ _ _ _ _ _ _ _ _ _ _ _ _ r h => by simp [polyglotlaw18_Same.l0] at h, fun _ _ _ _ _ _ _ _ _ _ _ _ _ _ _ _ _ _ r h => by simp [polyglotlaw18_Same.l1] at h⟩
 | k + 1 => by
  obtain ⟨ih0, ih1, ih2⟩ := polyglotlaw18_Same.mono_l k
  refine ⟨?_, ?_, ?_⟩
  ·intro y0 y1 y2 y3 y4 y5 y6 y7 y8 y9 y10 y11 y12 y13 y14 y15 y16
   unfold polyglotlaw18_Same.j0
   repeat' first
   | (with_reducible exact ih0 _ _ _ _ _ _ _ _ _ _ _ _ _ _ _ _ _)
   | (with_reducible exact ih1 _ _ _ _ _ _ _ _ _ _ _ _ _ _ _ _ _ _)
   | (with_reducible exact ih2 _ _ _ _ _ _ _ _ _ _ _ _ _ _ _ _ _ _)
   | (with_reducible exact LeO.refl _)
   | (with_reducible exact LeO.none _)
   | (with_reducible refine LeO.ite ?_ ?_)
   | (with_reducible refine LeO.bind ?_ (fun _ => ?_))
   | exact ih0 _ _ _ _ _ _ _ _ _ _ _ _ _ _ _ _ _
   | exact ih1 _ _ _ _ _ _ _ _ _ _ _ _ _ _ _ _ _ _
   | exact ih2 _ _ _ _ _ _ _ _ _ _ _ _ _ _ _ _ _ _
   | exact LeO.none _
   | refine LeO.ite ?_ ?_
   | refine LeO.bind ?_ (fun _ => ?_)
  ·intro y0 y1 y2 y3 y4 y5 y6 y7 y8 y9 y10 y11 y12 y13 y14 y15 y16 y17
   unfold polyglotlaw18_Same.l0
   repeat' first
   | (with_reducible exact ih0 _ _ _ _ _ _ _ _ _ _ _ _ _ _ _ _ _)
   | (with_reducible exact ih1 _ _ _ _ _ _ _ _ _ _ _ _ _ _ _ _ _ _)
   | (with_reducible exact ih2 _ _ _ _ _ _ _ _ _ _ _ _ _ _ _ _ _ _)
   | (with_reducible exact LeO.refl _)
   | (with_reducible exact LeO.none _)
   | (with_reducible refine LeO.ite ?_ ?_)
   | (with_reducible refine LeO.bind ?_ (fun _ => ?_))
   | exact ih0 _ _ _ _ _ _ _ _ _ _ _ _ _ _ _ _ _
   | exact ih1 _ _ _ _ _ _ _ _ _ _ _ _ _ _ _ _ _ _
   | exact ih2 _ _ _ _ _ _ _ _ _ _ _ _ _ _ _ _ _ _
   | exact LeO.none _
   | refine LeO.ite ?_ ?_
   | refine LeO.bind ?_ (fun _ => ?_)
  ·intro y0 y1 y2 y3 y4 y5 y6 y7 y8 y9 y10 y11 y12 y13 y14 y15 y16 y17
   unfold polyglotlaw18_Same.l1
   repeat' first
   | (with_reducible exact ih0 _ _ _ _ _ _ _ _ _ _ _ _ _ _ _ _ _)
   | (with_reducible exact ih1 _ _ _ _ _ _ _ _ _ _ _ _ _ _ _ _ _ _)
   | (with_reducible exact ih2 _ _ _ _ _ _ _ _ _ _ _ _ _ _ _ _ _ _)
   | (with_reducible exact LeO.refl _)
   | (with_reducible exact LeO.none _)
   | (with_reducible refine LeO.ite ?_ ?_)
   | (with_reducible refine LeO.bind ?_ (fun _ => ?_))
   | exact ih0 _ _ _ _ _ _ _ _ _ _ _ _ _ _ _ _ _
   | exact ih1 _ _ _ _ _ _ _ _ _ _ _ _ _ _ _ _ _ _
   | exact ih2 _ _ _ _ _ _ _ _ _ _ _ _ _ _ _ _ _ _
   | exact LeO.none _
   | refine LeO.ite ?_ ?_
   | refine LeO.bind ?_ (fun _ => ?_)
theorem polyglotlaw18_Same.mono : ∀ a0 a1 a2 a3 a4 a5 a6 a7 a8 a9 a10 a11 a12 a13 a14 a15 k, LeO (polyglotlaw18_Same.f k a0 a1 a2 a3 a4 a5 a6 a7 a8 a9 a10 a11 a12 a13 a14 a15) (polyglotlaw18_Same.f (k + 1) a0 a1 a2 a3 a4 a5 a6 a7 a8 a9 a10 a11 a12 a13 a14 a15) := by
 intro a0 a1 a2 a3 a4 a5 a6 a7 a8 a9 a10 a11 a12 a13 a14 a15 k
 obtain ⟨ih0, ih1, ih2⟩ := polyglotlaw18_Same.mono_l k
 unfold polyglotlaw18_Same.f
 repeat' first
   | (with_reducible exact ih0 _ _ _ _ _ _ _ _ _ _ _ _ _ _ _ _ _)
   | (with_reducible exact ih1 _ _ _ _ _ _ _ _ _ _ _ _ _ _ _ _ _ _)
   | (with_reducible exact ih2 _ _ _ _ _ _ _ _ _ _ _ _ _ _ _ _ _ _)
   | (with_reducible exact LeO.refl _)
   | (with_reducible exact LeO.none _)
   | (with_reducible refine LeO.ite ?_ ?_)
   | (with_reducible refine LeO.bind ?_ (fun _ => ?_))
   | exact ih0 _ _ _ _ _ _ _ _ _ _ _ _ _ _ _ _ _
   | exact ih1 _ _ _ _ _ _ _ _ _ _ _ _ _ _ _ _ _ _
   | exact ih2 _ _ _ _ _ _ _ _ _ _ _ _ _ _ _ _ _ _
   | exact LeO.none _
   | refine LeO.ite ?_ ?_
   | refine LeO.bind ?_ (fun _ => ?_)
set_option maxHeartbeats 8000000 in
set_option maxRecDepth 100000 in
theorem polyglotlaw18_Same.calls (k : Nat) (a0_0 : Int) (a0_1 : ByteArray) (a0_2 : ByteArray) (a0_3 : Bool) (A0_4 : Option Addr) (c0_4 : Nat) (l0_4 : List ByteArray) (a0_5 : ByteArray) (a0_6 : ByteArray) (A0_7 : Option Addr) (c0_7 : Nat) (l0_7 : List (S44)) (a1_0 : Int) (a1_1 : ByteArray) (a1_2 : ByteArray) (a1_3 : Bool) (A1_4 : Option Addr) (c1_4 : Nat) (l1_4 : List ByteArray) (a1_5 : ByteArray) (a1_6 : ByteArray) (A1_7 : Option Addr) (c1_7 : Nat) (l1_7 : List (S44)) (r : Bool) (w : World) (hr0_4 : Kd.C Kd.string w A0_4 l0_4.length l0_4) (hc0_4 : l0_4.length ≤ c0_4) (hr0_7 : Kd.C k44 w A0_7 l0_7.length l0_7) (hc0_7 : l0_7.length ≤ c0_7) (hr1_4 : Kd.C Kd.string w A1_4 l1_4.length l1_4) (hc1_4 : l1_4.length ≤ c1_4) (hr1_7 : Kd.C k44 w A1_7 l1_7.length l1_7) (hc1_7 : l1_7.length ≤ c1_7) (h : polyglotlaw18_Same.f k a0_0 a0_1 a0_2 a0_3 l0_4 a0_5 a0_6 l0_7 a1_0 a1_1 a1_2 a1_3 l1_4 a1_5 a1_6 l1_7 = some r) :
  Calls Tryz.prog 16 #[.agg #[.int .i64 a0_0, .string a0_1, .string a0_2, .bool a0_3, .slice A0_4 l0_4.length c0_4, .string a0_5, .string a0_6, .slice A0_7 l0_7.length c0_7], .agg #[.int .i64 a1_0, .string a1_1, .string a1_2, .bool a1_3, .slice A1_4 l1_4.length c1_4, .string a1_5, .string a1_6, .slice A1_7 l1_7.length c1_7]] w fun e w' => e = .returned (.bool r) ∧ Below w.heap.size w w' := by
 have hu29 := Tryz.underlying29
 have hu44 := Tryz.underlying44
 have HR0_4 := Aside0.mk hr0_4
 have HC0_4 := Aside0.mk hc0_4
 clear hr0_4 hc0_4
 have HR0_7 := Aside0.mk hr0_7
 have HC0_7 := Aside0.mk hc0_7
 clear hr0_7 hc0_7
 have HR1_4 := Aside0.mk hr1_4
 have HC1_4 := Aside0.mk hc1_4
 clear hr1_4 hc1_4
 have HR1_7 := Aside0.mk hr1_7
 have HC1_7 := Aside0.mk hc1_7
 clear hr1_7 hc1_7
 have HB := Aside0.mk (Below.refl w.heap.size w)
 have H : (if a0_0 = a1_0 then (if a0_1.toList = a1_1.toList then (if a0_2.toList = a1_2.toList then (if (a0_3 != a1_3) = true then (polyglotlaw18_Same.j0 k true a0_0 a0_1 a0_2 a0_3 l0_4 a0_5 a0_6 l0_7 a1_0 a1_1 a1_2 a1_3 l1_4 a1_5 a1_6 l1_7) else (if a0_5.toList = a1_5.toList then (if a0_6.toList = a1_6.toList then (if (l0_4.length : Int) = (l1_4.length : Int) then (polyglotlaw18_Same.j0 k ((l0_7.length : Int) != (l1_7.length : Int)) a0_0 a0_1 a0_2 a0_3 l0_4 a0_5 a0_6 l0_7 a1_0 a1_1 a1_2 a1_3 l1_4 a1_5 a1_6 l1_7) else (polyglotlaw18_Same.j0 k true a0_0 a0_1 a0_2 a0_3 l0_4 a0_5 a0_6 l0_7 a1_0 a1_1 a1_2 a1_3 l1_4 a1_5 a1_6 l1_7)) else (polyglotlaw18_Same.j0 k true a0_0 a0_1 a0_2 a0_3 l0_4 a0_5 a0_6 l0_7 a1_0 a1_1 a1_2 a1_3 l1_4 a1_5 a1_6 l1_7)) else (polyglotlaw18_Same.j0 k true a0_0 a0_1 a0_2 a0_3 l0_4 a0_5 a0_6 l0_7 a1_0 a1_1 a1_2 a1_3 l1_4 a1_5 a1_6 l1_7))) else (polyglotlaw18_Same.j0 k true a0_0 a0_1 a0_2 a0_3 l0_4 a0_5 a0_6 l0_7 a1_0 a1_1 a1_2 a1_3 l1_4 a1_5 a1_6 l1_7)) else (polyglotlaw18_Same.j0 k true a0_0 a0_1 a0_2 a0_3 l0_4 a0_5 a0_6 l0_7 a1_0 a1_1 a1_2 a1_3 l1_4 a1_5 a1_6 l1_7)) else (polyglotlaw18_Same.j0 k true a0_0 a0_1 a0_2 a0_3 l0_4 a0_5 a0_6 l0_7 a1_0 a1_1 a1_2 a1_3 l1_4 a1_5 a1_6 l1_7)) = some r := h
 clear h
 have HC3 := Aside0.mk H
 clear H
 go_enter Tryz.func16, Tryz.ntmps16
 go_upto_region 1 with (first | ((with_reducible refine gate_dst (N := 2) rfl ?_); (try (refine gate_guard (by rfl) ?_; dsimp only)); refine box_event ?hg (N := 2) ?hd (cs := #[.int .i64 a0_0, .string a0_1, .string a0_2, .bool a0_3, .slice A0_4 l0_4.length c0_4, .string a0_5, .string a0_6, .slice A0_7 l0_7.length c0_7]) (t := 29) ?hr ?_; (case hd => rfl); (case hg => rfl); (case hr => exact u0_); intro gb299 hg w4 hbox hb; have BK299 := Aside0.mk (hbox); have GW299 := Aside0.mk ((q11_ : w.heap.size ≤ gb299)); have GE299 := Aside0.mk ((q11_ : w.heap.size ≤ gb299)); replace HB := Aside0.mk (below_step q4_ hb); clear hb hbox hg) | ((with_reducible refine gate_dst (N := 3) rfl ?_); (try (refine gate_guard (by rfl) ?_; dsimp only)); refine box_event ?hg (N := 3) ?hd (cs := #[.int .i64 a1_0, .string a1_1, .string a1_2, .bool a1_3, .slice A1_4 l1_4.length c1_4, .string a1_5, .string a1_6, .slice A1_7 l1_7.length c1_7]) (t := 29) ?hr ?_; (case hd => rfl); (case hg => rfl); (case hr => exact u0_); intro gb300 hg w5 hbox hb; have BK300 := Aside0.mk (hbox); have GW300 := Aside0.mk ((q12_ : w.heap.size ≤ gb300)); have GE300 := Aside0.mk ((q12_ : w.heap.size ≤ gb300)); replace HB := Aside0.mk (below_step q2_ hb); have NB299_300 := Aside0.mk ((q7_ : gb299 ≠ gb300)); have NB300_299 := Aside0.mk ((q8_ : gb300 ≠ gb299)); replace BK299 := Aside0.mk (blk_below (g := gb299) (o := .cells #[.int .i64 a0_0, .string a0_1, .string a0_2, .bool a0_3, .slice A0_4 l0_4.length c0_4, .string a0_5, .string a0_6, .slice A0_7 l0_7.length c0_7] 29 (0, 0)) q1_ hb); clear hb hbox hg))
 repeat (go_quiet (first | ((with_reducible refine gate_dst (N := 2) rfl ?_); (try (refine gate_guard (by rfl) ?_; dsimp only)); refine box_event ?hg (N := 2) ?hd (cs := #[.int .i64 a0_0, .string a0_1, .string a0_2, .bool a0_3, .slice A0_4 l0_4.length c0_4, .string a0_5, .string a0_6, .slice A0_7 l0_7.length c0_7]) (t := 29) ?hr ?_; (case hd => rfl); (case hg => rfl); (case hr => exact u0_); intro gb299 hg w4 hbox hb; have BK299 := Aside0.mk (hbox); have GW299 := Aside0.mk ((q11_ : w.heap.size ≤ gb299)); have GE299 := Aside0.mk ((q11_ : w.heap.size ≤ gb299)); replace HB := Aside0.mk (below_step q4_ hb); clear hb hbox hg) | ((with_reducible refine gate_dst (N := 3) rfl ?_); (try (refine gate_guard (by rfl) ?_; dsimp only)); refine box_event ?hg (N := 3) ?hd (cs := #[.int .i64 a1_0, .string a1_1, .string a1_2, .bool a1_3, .slice A1_4 l1_4.length c1_4, .string a1_5, .string a1_6, .slice A1_7 l1_7.length c1_7]) (t := 29) ?hr ?_; (case hd => rfl); (case hg => rfl); (case hr => exact u0_); intro gb300 hg w5 hbox hb; have BK300 := Aside0.mk (hbox); have GW300 := Aside0.mk ((q12_ : w.heap.size ≤ gb300)); have GE300 := Aside0.mk ((q12_ : w.heap.size ≤ gb300)); replace HB := Aside0.mk (below_step q2_ hb); have NB299_300 := Aside0.mk ((q7_ : gb299 ≠ gb300)); have NB300_299 := Aside0.mk ((q8_ : gb300 ≠ gb299)); replace BK299 := Aside0.mk (blk_below (g := gb299) (o := .cells #[.int .i64 a0_0, .string a0_1, .string a0_2, .bool a0_3, .slice A0_4 l0_4.length c0_4, .string a0_5, .string a0_6, .slice A0_7 l0_7.length c0_7] 29 (0, 0)) q1_ hb); clear hb hbox hg)); go_upto_region 1 with (first | ((with_reducible refine gate_dst (N := 2) rfl ?_); (try (refine gate_guard (by rfl) ?_; dsimp only)); refine box_event ?hg (N := 2) ?hd (cs := #[.int .i64 a0_0, .string a0_1, .string a0_2, .bool a0_3, .slice A0_4 l0_4.length c0_4, .string a0_5, .string a0_6, .slice A0_7 l0_7.length c0_7]) (t := 29) ?hr ?_; (case hd => rfl); (case hg => rfl); (case hr => exact u0_); intro gb299 hg w4 hbox hb; have BK299 := Aside0.mk (hbox); have GW299 := Aside0.mk ((q11_ : w.heap.size ≤ gb299)); have GE299 := Aside0.mk ((q11_ : w.heap.size ≤ gb299)); replace HB := Aside0.mk (below_step q4_ hb); clear hb hbox hg) | ((with_reducible refine gate_dst (N := 3) rfl ?_); (try (refine gate_guard (by rfl) ?_; dsimp only)); refine box_event ?hg (N := 3) ?hd (cs := #[.int .i64 a1_0, .string a1_1, .string a1_2, .bool a1_3, .slice A1_4 l1_4.length c1_4, .string a1_5, .string a1_6, .slice A1_7 l1_7.length c1_7]) (t := 29) ?hr ?_; (case hd => rfl); (case hg => rfl); (case hr => exact u0_); intro gb300 hg w5 hbox hb; have BK300 := Aside0.mk (hbox); have GW300 := Aside0.mk ((q12_ : w.heap.size ≤ gb300)); have GE300 := Aside0.mk ((q12_ : w.heap.size ≤ gb300)); replace HB := Aside0.mk (below_step q2_ hb); have NB299_300 := Aside0.mk ((q7_ : gb299 ≠ gb300)); have NB300_299 := Aside0.mk ((q8_ : gb300 ≠ gb299)); replace BK299 := Aside0.mk (blk_below (g := gb299) (o := .cells #[.int .i64 a0_0, .string a0_1, .string a0_2, .bool a0_3, .slice A0_4 l0_4.length c0_4, .string a0_5, .string a0_6, .slice A0_7 l0_7.length c0_7] 29 (0, 0)) q1_ hb); clear hb hbox hg)))
 (try simp only [Act.put, List.setIfInBounds_toArray, List.set_cons_zero, List.set_cons_succ])
 go_cut [64] (fun v64 wc => ∃ (kq : Nat) (x64_2 : Bool), v64 = .bool x64_2 ∧ Aside0 (polyglotlaw18_Same.j0 kq x64_2 a0_0 a0_1 a0_2 a0_3 l0_4 a0_5 a0_6 l0_7 a1_0 a1_1 a1_2 a1_3 l1_4 a1_5 a1_6 l1_7 = some r) ∧ Aside0 (kq ≤ k) ∧ Aside0 (wc.heap[gb299]? = some (.cells #[.int .i64 a0_0, .string a0_1, .string a0_2, .bool a0_3, (.slice A0_4 l0_4.length c0_4), .string a0_5, .string a0_6, (.slice A0_7 l0_7.length c0_7)] 29 (0, 0))) ∧ Aside0 (wc.heap[gb300]? = some (.cells #[.int .i64 a1_0, .string a1_1, .string a1_2, .bool a1_3, (.slice A1_4 l1_4.length c1_4), .string a1_5, .string a1_6, (.slice A1_7 l1_7.length c1_7)] 29 (0, 0))) ∧ Aside0 (Below w.heap.size w wc))
 case first =>
  have H := HC3.out
  clear HC3
  by_cases c6 : a0_0 = a1_0
  ·rw [if_pos c6] at H
   have c6b0 : (a0_0 == a1_0) = true := beq_iff_eq.mpr c6
   have c6b1 : (a0_0 != a1_0) = false := bne_eq_false_iff_eq.mpr c6
   clear c6
   (first | rw [c6b0] | (simp only [i64_w, i32_w]; rw [c6b0]) | skip)
   by_cases c7 : a0_1.toList = a1_1.toList
   ·rw [if_pos c7] at H
    have c7b0 : (a0_1.toList == a1_1.toList) = true := beq_iff_eq.mpr c7
    have c7b1 : (a0_1.toList != a1_1.toList) = false := bne_eq_false_iff_eq.mpr c7
    clear c7
    by_cases c8 : a0_2.toList = a1_2.toList
    ·rw [if_pos c8] at H
     have c8b0 : (a0_2.toList == a1_2.toList) = true := beq_iff_eq.mpr c8
     have c8b1 : (a0_2.toList != a1_2.toList) = false := bne_eq_false_iff_eq.mpr c8
     clear c8
     by_cases c9 : (a0_3 != a1_3) = true
     ·rw [if_pos c9] at H
      have c9b0 : (a0_3 != a1_3) = true := c9
      (try (have c9b1 : decide (a0_3 = a1_3) = false := by simpa using c9))
      (try (have c9b2 : (a0_3 == a1_3) = false := by simpa using c9))
      (try (have c9b3 : ¬ (a0_3 = a1_3) := by simpa using c9))
      clear c9
      have H' := Aside0.mk H
      clear H
      have hnb10 := NB299_300.out
      have hnc10 := NB300_299.out
      obtain ⟨hcz11_0, hcz11_1, hcz11_2, hcz11_3, hcz11_4, hcz11_5, hcz11_6, hcz11_7, hfz11_0, hfz11_1, hfz11_2, hfz11_3, hfz11_4, hfz11_5, hfz11_6, hfz11_7⟩ := cellsF8 BK299.out
      obtain ⟨hcz12_0, hcz12_1, hcz12_2, hcz12_3, hcz12_4, hcz12_5, hcz12_6, hcz12_7, hfz12_0, hfz12_1, hfz12_2, hfz12_3, hfz12_4, hfz12_5, hfz12_6, hfz12_7⟩ := cellsF8 BK300.out
      go_wp2
      repeat (go_quiet (fail); try go_wp2)
      go_meet
      case rel => exact ⟨_, (true), q6_, H', ⟨q10_⟩, ⟨q1_⟩, ⟨q3_⟩, ⟨q0_⟩⟩
     ·rw [if_neg c9] at H
      have c9b0 : (a0_3 != a1_3) = false := by simpa using c9
      (try (have c9b1 : decide (a0_3 = a1_3) = true := by simpa using c9))
      (try (have c9b2 : (a0_3 == a1_3) = true := by simpa using c9))
      clear c9
      by_cases c13 : a0_5.toList = a1_5.toList
      ·rw [if_pos c13] at H
       have c13b0 : (a0_5.toList == a1_5.toList) = true := beq_iff_eq.mpr c13
       have c13b1 : (a0_5.toList != a1_5.toList) = false := bne_eq_false_iff_eq.mpr c13
       clear c13
       by_cases c14 : a0_6.toList = a1_6.toList
       ·rw [if_pos c14] at H
        have c14b0 : (a0_6.toList == a1_6.toList) = true := beq_iff_eq.mpr c14
        have c14b1 : (a0_6.toList != a1_6.toList) = false := bne_eq_false_iff_eq.mpr c14
        clear c14
        by_cases c15 : (l0_4.length : Int) = (l1_4.length : Int)
        ·rw [if_pos c15] at H
         have c15b0 : ((l0_4.length : Int) == (l1_4.length : Int)) = true := beq_iff_eq.mpr c15
         have c15b1 : ((l0_4.length : Int) != (l1_4.length : Int)) = false := bne_eq_false_iff_eq.mpr c15
         have c15b2 : (l0_4.length == l1_4.length) = true := by first | simpa using c15 | (simp at c15 ⊢; omega)
         clear c15
         have H' := Aside0.mk H
         clear H
         have hnb16 := NB299_300.out
         have hnc16 := NB300_299.out
         obtain ⟨hcz17_0, hcz17_1, hcz17_2, hcz17_3, hcz17_4, hcz17_5, hcz17_6, hcz17_7, hfz17_0, hfz17_1, hfz17_2, hfz17_3, hfz17_4, hfz17_5, hfz17_6, hfz17_7⟩ := cellsF8 BK299.out
         obtain ⟨hcz18_0, hcz18_1, hcz18_2, hcz18_3, hcz18_4, hcz18_5, hcz18_6, hcz18_7, hfz18_0, hfz18_1, hfz18_2, hfz18_3, hfz18_4, hfz18_5, hfz18_6, hfz18_7⟩ := cellsF8 BK300.out
         go_wp2
         repeat (go_quiet (fail); try go_wp2)
         go_meet
         case rel => exact ⟨_, (((l0_7.length : Int) != (l1_7.length : Int))), q6_, H', ⟨q10_⟩, ⟨q1_⟩, ⟨q3_⟩, ⟨q0_⟩⟩
        ·rw [if_neg c15] at H
         have c15b0 : ((l0_4.length : Int) == (l1_4.length : Int)) = false := beq_eq_false_iff_ne.mpr c15
         have c15b1 : ((l0_4.length : Int) != (l1_4.length : Int)) = true := bne_iff_ne.mpr c15
         have c15b2 : (l0_4.length == l1_4.length) = false := by first | simpa using c15 | (simp at c15 ⊢; omega)
         have H' := Aside0.mk H
         clear H
         have hnb19 := NB299_300.out
         have hnc19 := NB300_299.out
         obtain ⟨hcz20_0, hcz20_1, hcz20_2, hcz20_3, hcz20_4, hcz20_5, hcz20_6, hcz20_7, hfz20_0, hfz20_1, hfz20_2, hfz20_3, hfz20_4, hfz20_5, hfz20_6, hfz20_7⟩ := cellsF8 BK299.out
         obtain ⟨hcz21_0, hcz21_1, hcz21_2, hcz21_3, hcz21_4, hcz21_5, hcz21_6, hcz21_7, hfz21_0, hfz21_1, hfz21_2, hfz21_3, hfz21_4, hfz21_5, hfz21_6, hfz21_7⟩ := cellsF8 BK300.out
         go_wp2
         repeat (go_quiet (fail); try go_wp2)
         go_meet
         case rel => exact ⟨_, (true), q6_, H', ⟨q10_⟩, ⟨q1_⟩, ⟨q3_⟩, ⟨q0_⟩⟩
       ·rw [if_neg c14] at H
        have c14b0 : (a0_6.toList == a1_6.toList) = false := beq_eq_false_iff_ne.mpr c14
        have c14b1 : (a0_6.toList != a1_6.toList) = true := bne_iff_ne.mpr c14
        have H' := Aside0.mk H
        clear H
        have hnb22 := NB299_300.out
        have hnc22 := NB300_299.out
        obtain ⟨hcz23_0, hcz23_1, hcz23_2, hcz23_3, hcz23_4, hcz23_5, hcz23_6, hcz23_7, hfz23_0, hfz23_1, hfz23_2, hfz23_3, hfz23_4, hfz23_5, hfz23_6, hfz23_7⟩ := cellsF8 BK299.out
        obtain ⟨hcz24_0, hcz24_1, hcz24_2, hcz24_3, hcz24_4, hcz24_5, hcz24_6, hcz24_7, hfz24_0, hfz24_1, hfz24_2, hfz24_3, hfz24_4, hfz24_5, hfz24_6, hfz24_7⟩ := cellsF8 BK300.out
        go_wp2
        repeat (go_quiet (fail); try go_wp2)
        go_meet
        case rel => exact ⟨_, (true), q6_, H', ⟨q10_⟩, ⟨q1_⟩, ⟨q3_⟩, ⟨q0_⟩⟩
      ·rw [if_neg c13] at H
       have c13b0 : (a0_5.toList == a1_5.toList) = false := beq_eq_false_iff_ne.mpr c13
       have c13b1 : (a0_5.toList != a1_5.toList) = true := bne_iff_ne.mpr c13
       have H' := Aside0.mk H
       clear H
       have hnb25 := NB299_300.out
       have hnc25 := NB300_299.out
       obtain ⟨hcz26_0, hcz26_1, hcz26_2, hcz26_3, hcz26_4, hcz26_5, hcz26_6, hcz26_7, hfz26_0, hfz26_1, hfz26_2, hfz26_3, hfz26_4, hfz26_5, hfz26_6, hfz26_7⟩ := cellsF8 BK299.out
       obtain ⟨hcz27_0, hcz27_1, hcz27_2, hcz27_3, hcz27_4, hcz27_5, hcz27_6, hcz27_7, hfz27_0, hfz27_1, hfz27_2, hfz27_3, hfz27_4, hfz27_5, hfz27_6, hfz27_7⟩ := cellsF8 BK300.out
       go_wp2
       repeat (go_quiet (fail); try go_wp2)
       go_meet
       case rel => exact ⟨_, (true), q6_, H', ⟨q10_⟩, ⟨q1_⟩, ⟨q3_⟩, ⟨q0_⟩⟩
    ·rw [if_neg c8] at H
     have c8b0 : (a0_2.toList == a1_2.toList) = false := beq_eq_false_iff_ne.mpr c8
     have c8b1 : (a0_2.toList != a1_2.toList) = true := bne_iff_ne.mpr c8
     have H' := Aside0.mk H
     clear H
     have hnb28 := NB299_300.out
     have hnc28 := NB300_299.out
     obtain ⟨hcz29_0, hcz29_1, hcz29_2, hcz29_3, hcz29_4, hcz29_5, hcz29_6, hcz29_7, hfz29_0, hfz29_1, hfz29_2, hfz29_3, hfz29_4, hfz29_5, hfz29_6, hfz29_7⟩ := cellsF8 BK299.out
     obtain ⟨hcz30_0, hcz30_1, hcz30_2, hcz30_3, hcz30_4, hcz30_5, hcz30_6, hcz30_7, hfz30_0, hfz30_1, hfz30_2, hfz30_3, hfz30_4, hfz30_5, hfz30_6, hfz30_7⟩ := cellsF8 BK300.out
     go_wp2
     repeat (go_quiet (fail); try go_wp2)
     go_meet
     case rel => exact ⟨_, (true), q6_, H', ⟨q10_⟩, ⟨q1_⟩, ⟨q3_⟩, ⟨q0_⟩⟩
   ·rw [if_neg c7] at H
    have c7b0 : (a0_1.toList == a1_1.toList) = false := beq_eq_false_iff_ne.mpr c7
    have c7b1 : (a0_1.toList != a1_1.toList) = true := bne_iff_ne.mpr c7
    have H' := Aside0.mk H
    clear H
    have hnb31 := NB299_300.out
    have hnc31 := NB300_299.out
    obtain ⟨hcz32_0, hcz32_1, hcz32_2, hcz32_3, hcz32_4, hcz32_5, hcz32_6, hcz32_7, hfz32_0, hfz32_1, hfz32_2, hfz32_3, hfz32_4, hfz32_5, hfz32_6, hfz32_7⟩ := cellsF8 BK299.out
    obtain ⟨hcz33_0, hcz33_1, hcz33_2, hcz33_3, hcz33_4, hcz33_5, hcz33_6, hcz33_7, hfz33_0, hfz33_1, hfz33_2, hfz33_3, hfz33_4, hfz33_5, hfz33_6, hfz33_7⟩ := cellsF8 BK300.out
    go_wp2
    repeat (go_quiet (fail); try go_wp2)
    go_meet
    case rel => exact ⟨_, (true), q6_, H', ⟨q10_⟩, ⟨q1_⟩, ⟨q3_⟩, ⟨q0_⟩⟩
  ·rw [if_neg c6] at H
   have c6b0 : (a0_0 == a1_0) = false := beq_eq_false_iff_ne.mpr c6
   have c6b1 : (a0_0 != a1_0) = true := bne_iff_ne.mpr c6
   (first | rw [c6b0] | (simp only [i64_w, i32_w]; rw [c6b0]) | skip)
   have H' := Aside0.mk H
   clear H
   have hnb34 := NB299_300.out
   have hnc34 := NB300_299.out
   obtain ⟨hcz35_0, hcz35_1, hcz35_2, hcz35_3, hcz35_4, hcz35_5, hcz35_6, hcz35_7, hfz35_0, hfz35_1, hfz35_2, hfz35_3, hfz35_4, hfz35_5, hfz35_6, hfz35_7⟩ := cellsF8 BK299.out
   obtain ⟨hcz36_0, hcz36_1, hcz36_2, hcz36_3, hcz36_4, hcz36_5, hcz36_6, hcz36_7, hfz36_0, hfz36_1, hfz36_2, hfz36_3, hfz36_4, hfz36_5, hfz36_6, hfz36_7⟩ := cellsF8 BK300.out
   go_wp2
   repeat (go_quiet (fail); try go_wp2)
   go_meet
   case rel => exact ⟨_, (true), q6_, H', ⟨q10_⟩, ⟨q1_⟩, ⟨q3_⟩, ⟨q0_⟩⟩
 case rest =>
  clear HC3
  try clear c1
  try clear c2
  try clear p2
  try clear c3
  try clear c6
  try clear c6b0
  try clear c6b1
  try clear c7
  try clear c7b0
  try clear c7b1
  try clear c8
  try clear c8b0
  try clear c8b1
  try clear c9
  try clear c9b0
  try clear c9b1
  try clear c9b2
  try clear c10
  try clear c13
  try clear c13b0
  try clear c13b1
  try clear c14
  try clear c14b0
  try clear c14b1
  try clear c15
  try clear c15b0
  try clear c15b1
  try clear c15b2
  try clear c16
  try clear c19
  try clear c22
  try clear c25
  try clear c28
  try clear c31
  try clear c34
  try clear hcz11_0 hcz11_1 hcz11_2 hcz11_3 hcz11_4 hcz11_5 hcz11_6 hcz11_7
  try clear hcz12_0 hcz12_1 hcz12_2 hcz12_3 hcz12_4 hcz12_5 hcz12_6 hcz12_7
  try clear hcz17_0 hcz17_1 hcz17_2 hcz17_3 hcz17_4 hcz17_5 hcz17_6 hcz17_7
  try clear hcz18_0 hcz18_1 hcz18_2 hcz18_3 hcz18_4 hcz18_5 hcz18_6 hcz18_7
  try clear hcz20_0 hcz20_1 hcz20_2 hcz20_3 hcz20_4 hcz20_5 hcz20_6 hcz20_7
  try clear hcz21_0 hcz21_1 hcz21_2 hcz21_3 hcz21_4 hcz21_5 hcz21_6 hcz21_7
  try clear hcz23_0 hcz23_1 hcz23_2 hcz23_3 hcz23_4 hcz23_5 hcz23_6 hcz23_7
  try clear hcz24_0 hcz24_1 hcz24_2 hcz24_3 hcz24_4 hcz24_5 hcz24_6 hcz24_7
  try clear hcz26_0 hcz26_1 hcz26_2 hcz26_3 hcz26_4 hcz26_5 hcz26_6 hcz26_7
  try clear hcz27_0 hcz27_1 hcz27_2 hcz27_3 hcz27_4 hcz27_5 hcz27_6 hcz27_7
  try clear hcz29_0 hcz29_1 hcz29_2 hcz29_3 hcz29_4 hcz29_5 hcz29_6 hcz29_7
  try clear hcz30_0 hcz30_1 hcz30_2 hcz30_3 hcz30_4 hcz30_5 hcz30_6 hcz30_7
  try clear hcz32_0 hcz32_1 hcz32_2 hcz32_3 hcz32_4 hcz32_5 hcz32_6 hcz32_7
  try clear hcz33_0 hcz33_1 hcz33_2 hcz33_3 hcz33_4 hcz33_5 hcz33_6 hcz33_7
  try clear hcz35_0 hcz35_1 hcz35_2 hcz35_3 hcz35_4 hcz35_5 hcz35_6 hcz35_7
  try clear hcz36_0 hcz36_1 hcz36_2 hcz36_3 hcz36_4 hcz36_5 hcz36_6 hcz36_7
  try clear hfz11_0 hfz11_1 hfz11_2 hfz11_3 hfz11_4 hfz11_5 hfz11_6 hfz11_7
  try clear hfz12_0 hfz12_1 hfz12_2 hfz12_3 hfz12_4 hfz12_5 hfz12_6 hfz12_7
  try clear hfz17_0 hfz17_1 hfz17_2 hfz17_3 hfz17_4 hfz17_5 hfz17_6 hfz17_7
  try clear hfz18_0 hfz18_1 hfz18_2 hfz18_3 hfz18_4 hfz18_5 hfz18_6 hfz18_7
  try clear hfz20_0 hfz20_1 hfz20_2 hfz20_3 hfz20_4 hfz20_5 hfz20_6 hfz20_7
  try clear hfz21_0 hfz21_1 hfz21_2 hfz21_3 hfz21_4 hfz21_5 hfz21_6 hfz21_7
  try clear hfz23_0 hfz23_1 hfz23_2 hfz23_3 hfz23_4 hfz23_5 hfz23_6 hfz23_7
  try clear hfz24_0 hfz24_1 hfz24_2 hfz24_3 hfz24_4 hfz24_5 hfz24_6 hfz24_7
  try clear hfz26_0 hfz26_1 hfz26_2 hfz26_3 hfz26_4 hfz26_5 hfz26_6 hfz26_7
  try clear hfz27_0 hfz27_1 hfz27_2 hfz27_3 hfz27_4 hfz27_5 hfz27_6 hfz27_7
  try clear hfz29_0 hfz29_1 hfz29_2 hfz29_3 hfz29_4 hfz29_5 hfz29_6 hfz29_7
  try clear hfz30_0 hfz30_1 hfz30_2 hfz30_3 hfz30_4 hfz30_5 hfz30_6 hfz30_7
  try clear hfz32_0 hfz32_1 hfz32_2 hfz32_3 hfz32_4 hfz32_5 hfz32_6 hfz32_7
  try clear hfz33_0 hfz33_1 hfz33_2 hfz33_3 hfz33_4 hfz33_5 hfz33_6 hfz33_7
  try clear hfz35_0 hfz35_1 hfz35_2 hfz35_3 hfz35_4 hfz35_5 hfz35_6 hfz35_7
  try clear hfz36_0 hfz36_1 hfz36_2 hfz36_3 hfz36_4 hfz36_5 hfz36_6 hfz36_7
  obtain ⟨kq, x64_2, rfl, HA, HJ2, BK299, BK300, HB⟩ := hcut
  cases kq with
  | zero => exact absurd HA.out (by simp [polyglotlaw18_Same.j0])
  | succ kj2 =>
   have H := HA.out
   clear HA
   simp only [polyglotlaw18_Same.j0] at H
   by_cases c37 : x64_2 = true
   ·subst c37
    have H1 : (some false) = some r := by rw [if_pos rfl] at H; exact H
    clear H
    have H := H1
    clear H1
    obtain rfl := Option.some.inj H
    go_wp2
    repeat (go_quiet (fail); try go_wp2)
    go_ret
    exact ⟨q9_, q0_⟩
   ·replace c37 := Bool.eq_false_iff.mpr c37
    subst c37
    have H1 : (polyglotlaw18_Same.l0 kj2 (l0_4.length : Int) 0 a0_0 a0_1 a0_2 a0_3 l0_4 a0_5 a0_6 l0_7 a1_0 a1_1 a1_2 a1_3 l1_4 a1_5 a1_6 l1_7) = some r := by rw [if_neg (show ¬ (false = true) by decide)] at H; exact H
    clear H
    have H := H1
    clear H1
    have H' := Aside0.mk H
    clear H
    have hnb38 := NB299_300.out
    have hnc38 := NB300_299.out
    obtain ⟨hcz39_0, hcz39_1, hcz39_2, hcz39_3, hcz39_4, hcz39_5, hcz39_6, hcz39_7, hfz39_0, hfz39_1, hfz39_2, hfz39_3, hfz39_4, hfz39_5, hfz39_6, hfz39_7⟩ := cellsF8 BK299.out
    go_wp2
    repeat (go_quiet (fail); try go_wp2)
    go_loopg [68] kj2 (fun kq v68 w' => ∃ (x68_2 : Int), v68 = .int .i64 x68_2 ∧ Aside0 (polyglotlaw18_Same.l0 kq (l0_4.length : Int) x68_2 a0_0 a0_1 a0_2 a0_3 l0_4 a0_5 a0_6 l0_7 a1_0 a1_1 a1_2 a1_3 l1_4 a1_5 a1_6 l1_7 = some r) ∧ Aside0 (kq ≤ kj2) ∧ Aside0 (w'.heap[gb299]? = some (.cells #[.int .i64 a0_0, .string a0_1, .string a0_2, .bool a0_3, (.slice A0_4 l0_4.length c0_4), .string a0_5, .string a0_6, (.slice A0_7 l0_7.length c0_7)] 29 (0, 0))) ∧ Aside0 (w'.heap[gb300]? = some (.cells #[.int .i64 a1_0, .string a1_1, .string a1_2, .bool a1_3, (.slice A1_4 l1_4.length c1_4), .string a1_5, .string a1_6, (.slice A1_7 l1_7.length c1_7)] 29 (0, 0))) ∧ Aside0 (Below w.heap.size w w'))
    case atStart => exact ⟨(0), q6_, H', ⟨Nat.le_refl _⟩, ⟨q1_⟩, ⟨q3_⟩, ⟨q0_⟩⟩
    case round =>
     clear H'
     try clear c1
     try clear c2
     try clear p2 p2
     try clear c3
     try clear c6
     try clear c6b0
     try clear c6b1
     try clear c7
     try clear c7b0
     try clear c7b1
     try clear c8
     try clear c8b0
     try clear c8b1
     try clear c9
     try clear c9b0
     try clear c9b1
     try clear c9b2
     try clear c10
     try clear c13
     try clear c13b0
     try clear c13b1
     try clear c14
     try clear c14b0
     try clear c14b1
     try clear c15
     try clear c15b0
     try clear c15b1
     try clear c15b2
     try clear c16
     try clear c19
     try clear c22
     try clear c25
     try clear c28
     try clear c31
     try clear c34
     try clear c37
     try clear c38
     try clear hcz11_0 hcz11_1 hcz11_2 hcz11_3 hcz11_4 hcz11_5 hcz11_6 hcz11_7
     try clear hcz12_0 hcz12_1 hcz12_2 hcz12_3 hcz12_4 hcz12_5 hcz12_6 hcz12_7
     try clear hcz17_0 hcz17_1 hcz17_2 hcz17_3 hcz17_4 hcz17_5 hcz17_6 hcz17_7
     try clear hcz18_0 hcz18_1 hcz18_2 hcz18_3 hcz18_4 hcz18_5 hcz18_6 hcz18_7
     try clear hcz20_0 hcz20_1 hcz20_2 hcz20_3 hcz20_4 hcz20_5 hcz20_6 hcz20_7
     try clear hcz21_0 hcz21_1 hcz21_2 hcz21_3 hcz21_4 hcz21_5 hcz21_6 hcz21_7
     try clear hcz23_0 hcz23_1 hcz23_2 hcz23_3 hcz23_4 hcz23_5 hcz23_6 hcz23_7
     try clear hcz24_0 hcz24_1 hcz24_2 hcz24_3 hcz24_4 hcz24_5 hcz24_6 hcz24_7
     try clear hcz26_0 hcz26_1 hcz26_2 hcz26_3 hcz26_4 hcz26_5 hcz26_6 hcz26_7
     try clear hcz27_0 hcz27_1 hcz27_2 hcz27_3 hcz27_4 hcz27_5 hcz27_6 hcz27_7
     try clear hcz29_0 hcz29_1 hcz29_2 hcz29_3 hcz29_4 hcz29_5 hcz29_6 hcz29_7
     try clear hcz30_0 hcz30_1 hcz30_2 hcz30_3 hcz30_4 hcz30_5 hcz30_6 hcz30_7
     try clear hcz32_0 hcz32_1 hcz32_2 hcz32_3 hcz32_4 hcz32_5 hcz32_6 hcz32_7
     try clear hcz33_0 hcz33_1 hcz33_2 hcz33_3 hcz33_4 hcz33_5 hcz33_6 hcz33_7
     try clear hcz35_0 hcz35_1 hcz35_2 hcz35_3 hcz35_4 hcz35_5 hcz35_6 hcz35_7
     try clear hcz36_0 hcz36_1 hcz36_2 hcz36_3 hcz36_4 hcz36_5 hcz36_6 hcz36_7
     try clear hcz39_0 hcz39_1 hcz39_2 hcz39_3 hcz39_4 hcz39_5 hcz39_6 hcz39_7
     try clear hfz11_0 hfz11_1 hfz11_2 hfz11_3 hfz11_4 hfz11_5 hfz11_6 hfz11_7
     try clear hfz12_0 hfz12_1 hfz12_2 hfz12_3 hfz12_4 hfz12_5 hfz12_6 hfz12_7
     try clear hfz17_0 hfz17_1 hfz17_2 hfz17_3 hfz17_4 hfz17_5 hfz17_6 hfz17_7
     try clear hfz18_0 hfz18_1 hfz18_2 hfz18_3 hfz18_4 hfz18_5 hfz18_6 hfz18_7
     try clear hfz20_0 hfz20_1 hfz20_2 hfz20_3 hfz20_4 hfz20_5 hfz20_6 hfz20_7
     try clear hfz21_0 hfz21_1 hfz21_2 hfz21_3 hfz21_4 hfz21_5 hfz21_6 hfz21_7
     try clear hfz23_0 hfz23_1 hfz23_2 hfz23_3 hfz23_4 hfz23_5 hfz23_6 hfz23_7
     try clear hfz24_0 hfz24_1 hfz24_2 hfz24_3 hfz24_4 hfz24_5 hfz24_6 hfz24_7
     try clear hfz26_0 hfz26_1 hfz26_2 hfz26_3 hfz26_4 hfz26_5 hfz26_6 hfz26_7
     try clear hfz27_0 hfz27_1 hfz27_2 hfz27_3 hfz27_4 hfz27_5 hfz27_6 hfz27_7
     try clear hfz29_0 hfz29_1 hfz29_2 hfz29_3 hfz29_4 hfz29_5 hfz29_6 hfz29_7
     try clear hfz30_0 hfz30_1 hfz30_2 hfz30_3 hfz30_4 hfz30_5 hfz30_6 hfz30_7
     try clear hfz32_0 hfz32_1 hfz32_2 hfz32_3 hfz32_4 hfz32_5 hfz32_6 hfz32_7
     try clear hfz33_0 hfz33_1 hfz33_2 hfz33_3 hfz33_4 hfz33_5 hfz33_6 hfz33_7
     try clear hfz35_0 hfz35_1 hfz35_2 hfz35_3 hfz35_4 hfz35_5 hfz35_6 hfz35_7
     try clear hfz36_0 hfz36_1 hfz36_2 hfz36_3 hfz36_4 hfz36_5 hfz36_6 hfz36_7
     try clear hfz39_0 hfz39_1 hfz39_2 hfz39_3 hfz39_4 hfz39_5 hfz39_6 hfz39_7
     obtain ⟨x68_2, rfl, HA, HK2, BK299, BK300, HB⟩ := hrel
     cases gk with
     | zero => exact absurd HA.out (by simp [polyglotlaw18_Same.l0])
     | succ k2 =>
      have H := HA.out
      clear HA
      simp only [polyglotlaw18_Same.l0] at H
      by_cases c40 : x68_2 < (l0_4.length : Int)
      ·rw [if_pos c40] at H
       have c40b0 : decide (x68_2 < (l0_4.length : Int)) = true := decide_eq_true c40
       clear c40
       by_cases c41 : 0 ≤ x68_2
       ·rw [if_pos c41] at H
        have c41b0 : decide (0 ≤ x68_2) = true := decide_eq_true c41
        clear c41
        by_cases c42 : x68_2 < (l0_4.length : Int)
        ·rw [if_pos c42] at H
         have c42b0 : decide (x68_2 < (l0_4.length : Int)) = true := decide_eq_true c42
         clear c42
         by_cases c43 : x68_2 < (l1_4.length : Int)
         ·rw [if_pos c43] at H
          have c43b0 : decide (x68_2 < (l1_4.length : Int)) = true := decide_eq_true c43
          clear c43
          by_cases c44 : (rdOf ByteArray.empty l0_4 x68_2).toList = (rdOf ByteArray.empty l1_4 x68_2).toList
          ·rw [if_pos c44] at H
           have c44b0 : ((rdOf ByteArray.empty l0_4 x68_2).toList == (rdOf ByteArray.empty l1_4 x68_2).toList) = true := beq_iff_eq.mpr c44
           have c44b1 : ((rdOf ByteArray.empty l0_4 x68_2).toList != (rdOf ByteArray.empty l1_4 x68_2).toList) = false := bne_eq_false_iff_eq.mpr c44
           clear c44
           have H' := Aside0.mk H
           clear H
           have hnb45 := NB299_300.out
           have hnc45 := NB300_299.out
           obtain ⟨hcz46_0, hcz46_1, hcz46_2, hcz46_3, hcz46_4, hcz46_5, hcz46_6, hcz46_7, hfz46_0, hfz46_1, hfz46_2, hfz46_3, hfz46_4, hfz46_5, hfz46_6, hfz46_7⟩ := cellsF8 BK299.out
           have p301 : 0 ≤ (x68_2 : Int) := of_decide_eq_true q5_
           have q301 : x68_2 < (l0_4.length : Int) := of_decide_eq_true q5_
           obtain ⟨ad301, e301, hx301_0⟩ := Kd.at_string HR0_4.out x68_2 p301 q301
           cases e301
           replace hx301_0 := (HB.out.cell (World.block_lt_of_cell? w _ hx301_0)).trans hx301_0
           replace p301 := eq_true p301
           replace q301 := eq_true q301
           obtain ⟨hcz47_0, hcz47_1, hcz47_2, hcz47_3, hcz47_4, hcz47_5, hcz47_6, hcz47_7, hfz47_0, hfz47_1, hfz47_2, hfz47_3, hfz47_4, hfz47_5, hfz47_6, hfz47_7⟩ := cellsF8 BK300.out
           have p302 : 0 ≤ (x68_2 : Int) := of_decide_eq_true q5_
           have q302 : x68_2 < (l1_4.length : Int) := of_decide_eq_true q5_
           obtain ⟨ad302, e302, hx302_0⟩ := Kd.at_string HR1_4.out x68_2 p302 q302
           cases e302
           replace hx302_0 := (HB.out.cell (World.block_lt_of_cell? w _ hx302_0)).trans hx302_0
           replace p302 := eq_true p302
           replace q302 := eq_true q302
           go_wp2
           repeat (go_quiet (fail); try go_wp2)
           go_roundg k2
           case measure => have := HJ2.out; have := HK2.out; omega
           case rel => exact ⟨(wrap64 (x68_2 + 1)), q6_, H', ⟨(by have := HJ2.out; have := HK2.out; omega)⟩, ⟨q1_⟩, ⟨q3_⟩, ⟨q0_⟩⟩
          ·rw [if_neg c44] at H
           have c44b0 : ((rdOf ByteArray.empty l0_4 x68_2).toList == (rdOf ByteArray.empty l1_4 x68_2).toList) = false := beq_eq_false_iff_ne.mpr c44
           have c44b1 : ((rdOf ByteArray.empty l0_4 x68_2).toList != (rdOf ByteArray.empty l1_4 x68_2).toList) = true := bne_iff_ne.mpr c44
           obtain rfl := Option.some.inj H
           have hnb48 := NB299_300.out
           have hnc48 := NB300_299.out
           obtain ⟨hcz49_0, hcz49_1, hcz49_2, hcz49_3, hcz49_4, hcz49_5, hcz49_6, hcz49_7, hfz49_0, hfz49_1, hfz49_2, hfz49_3, hfz49_4, hfz49_5, hfz49_6, hfz49_7⟩ := cellsF8 BK299.out
           have p301 : 0 ≤ (x68_2 : Int) := of_decide_eq_true q5_
           have q301 : x68_2 < (l0_4.length : Int) := of_decide_eq_true q5_
           obtain ⟨ad301, e301, hx301_0⟩ := Kd.at_string HR0_4.out x68_2 p301 q301
           cases e301
           replace hx301_0 := (HB.out.cell (World.block_lt_of_cell? w _ hx301_0)).trans hx301_0
           replace p301 := eq_true p301
           replace q301 := eq_true q301
           obtain ⟨hcz50_0, hcz50_1, hcz50_2, hcz50_3, hcz50_4, hcz50_5, hcz50_6, hcz50_7, hfz50_0, hfz50_1, hfz50_2, hfz50_3, hfz50_4, hfz50_5, hfz50_6, hfz50_7⟩ := cellsF8 BK300.out
           have p302 : 0 ≤ (x68_2 : Int) := of_decide_eq_true q5_
           have q302 : x68_2 < (l1_4.length : Int) := of_decide_eq_true q5_
           obtain ⟨ad302, e302, hx302_0⟩ := Kd.at_string HR1_4.out x68_2 p302 q302
           cases e302
           replace hx302_0 := (HB.out.cell (World.block_lt_of_cell? w _ hx302_0)).trans hx302_0
           replace p302 := eq_true p302
           replace q302 := eq_true q302
           go_wp2
           repeat (go_quiet (fail); try go_wp2)
           go_ret
           exact ⟨q9_, q0_⟩
         ·rw [if_neg c43] at H
          exact absurd H (by simp)
        ·rw [if_neg c42] at H
         exact absurd H (by simp)
       ·rw [if_neg c41] at H
        exact absurd H (by simp)
      ·rw [if_neg c40] at H
       have c40b0 : decide (x68_2 < (l0_4.length : Int)) = false := decide_eq_false c40
       clear c40
       have H' := Aside0.mk H
       clear H
       have hnb51 := NB299_300.out
       have hnc51 := NB300_299.out
       obtain ⟨hcz52_0, hcz52_1, hcz52_2, hcz52_3, hcz52_4, hcz52_5, hcz52_6, hcz52_7, hfz52_0, hfz52_1, hfz52_2, hfz52_3, hfz52_4, hfz52_5, hfz52_6, hfz52_7⟩ := cellsF8 BK299.out
       go_wp2
       repeat (go_quiet (fail); try go_wp2)
       go_loopg [86] k2 (fun kq v86 w' => ∃ (x86_3 : Int), v86 = .int .i64 x86_3 ∧ Aside0 (polyglotlaw18_Same.l1 kq (l0_7.length : Int) x86_3 a0_0 a0_1 a0_2 a0_3 l0_4 a0_5 a0_6 l0_7 a1_0 a1_1 a1_2 a1_3 l1_4 a1_5 a1_6 l1_7 = some r) ∧ Aside0 (kq ≤ k2) ∧ Aside0 (w'.heap[gb299]? = some (.cells #[.int .i64 a0_0, .string a0_1, .string a0_2, .bool a0_3, (.slice A0_4 l0_4.length c0_4), .string a0_5, .string a0_6, (.slice A0_7 l0_7.length c0_7)] 29 (0, 0))) ∧ Aside0 (w'.heap[gb300]? = some (.cells #[.int .i64 a1_0, .string a1_1, .string a1_2, .bool a1_3, (.slice A1_4 l1_4.length c1_4), .string a1_5, .string a1_6, (.slice A1_7 l1_7.length c1_7)] 29 (0, 0))) ∧ Aside0 (Below w.heap.size w w'))
       case atStart => exact ⟨(0), q6_, H', ⟨Nat.le_refl _⟩, ⟨q1_⟩, ⟨q3_⟩, ⟨q0_⟩⟩
       case round =>
        clear H'
        try clear c1
        try clear c2
        try clear p2 p2
        try clear c3
        try clear p3
        try clear q3
        try clear hx3
        try clear c4
        try clear c5
        try clear c6
        try clear c6b0
        try clear c6b1
        try clear p6
        try clear c7
        try clear c7b0
        try clear c7b1
        try clear c8
        try clear c8b0
        try clear c8b1
        try clear c9
        try clear c9b0
        try clear c9b1
        try clear c9b2
        try clear c10
        try clear c13
        try clear c13b0
        try clear c13b1
        try clear c14
        try clear c14b0
        try clear c14b1
        try clear c15
        try clear c15b0
        try clear c15b1
        try clear c15b2
        try clear c16
        try clear c19
        try clear c22
        try clear c25
        try clear c28
        try clear p30
        try clear q30
        try clear hx30
        try clear c31
        try clear c34
        try clear c37
        try clear c38
        try clear c40
        try clear c40b0
        try clear c41
        try clear c41b0
        try clear c42
        try clear c42b0
        try clear c43
        try clear c43b0
        try clear c44
        try clear c44b0
        try clear c44b1
        try clear c45
        try clear c48
        try clear c51
        try clear hcz11_0 hcz11_1 hcz11_2 hcz11_3 hcz11_4 hcz11_5 hcz11_6 hcz11_7
        try clear hcz12_0 hcz12_1 hcz12_2 hcz12_3 hcz12_4 hcz12_5 hcz12_6 hcz12_7
        try clear hcz17_0 hcz17_1 hcz17_2 hcz17_3 hcz17_4 hcz17_5 hcz17_6 hcz17_7
        try clear hcz18_0 hcz18_1 hcz18_2 hcz18_3 hcz18_4 hcz18_5 hcz18_6 hcz18_7
        try clear hcz20_0 hcz20_1 hcz20_2 hcz20_3 hcz20_4 hcz20_5 hcz20_6 hcz20_7
        try clear hcz21_0 hcz21_1 hcz21_2 hcz21_3 hcz21_4 hcz21_5 hcz21_6 hcz21_7
        try clear hcz23_0 hcz23_1 hcz23_2 hcz23_3 hcz23_4 hcz23_5 hcz23_6 hcz23_7
        try clear hcz24_0 hcz24_1 hcz24_2 hcz24_3 hcz24_4 hcz24_5 hcz24_6 hcz24_7
        try clear hcz26_0 hcz26_1 hcz26_2 hcz26_3 hcz26_4 hcz26_5 hcz26_6 hcz26_7
        try clear hcz27_0 hcz27_1 hcz27_2 hcz27_3 hcz27_4 hcz27_5 hcz27_6 hcz27_7
        try clear hcz29_0 hcz29_1 hcz29_2 hcz29_3 hcz29_4 hcz29_5 hcz29_6 hcz29_7
        try clear hcz30_0 hcz30_1 hcz30_2 hcz30_3 hcz30_4 hcz30_5 hcz30_6 hcz30_7
        try clear hcz32_0 hcz32_1 hcz32_2 hcz32_3 hcz32_4 hcz32_5 hcz32_6 hcz32_7
        try clear hcz33_0 hcz33_1 hcz33_2 hcz33_3 hcz33_4 hcz33_5 hcz33_6 hcz33_7
        try clear hcz35_0 hcz35_1 hcz35_2 hcz35_3 hcz35_4 hcz35_5 hcz35_6 hcz35_7
        try clear hcz36_0 hcz36_1 hcz36_2 hcz36_3 hcz36_4 hcz36_5 hcz36_6 hcz36_7
        try clear hcz39_0 hcz39_1 hcz39_2 hcz39_3 hcz39_4 hcz39_5 hcz39_6 hcz39_7
        try clear hcz46_0 hcz46_1 hcz46_2 hcz46_3 hcz46_4 hcz46_5 hcz46_6 hcz46_7
        try clear hcz47_0 hcz47_1 hcz47_2 hcz47_3 hcz47_4 hcz47_5 hcz47_6 hcz47_7
        try clear hcz49_0 hcz49_1 hcz49_2 hcz49_3 hcz49_4 hcz49_5 hcz49_6 hcz49_7
        try clear hcz50_0 hcz50_1 hcz50_2 hcz50_3 hcz50_4 hcz50_5 hcz50_6 hcz50_7
        try clear hcz52_0 hcz52_1 hcz52_2 hcz52_3 hcz52_4 hcz52_5 hcz52_6 hcz52_7
        try clear hfz11_0 hfz11_1 hfz11_2 hfz11_3 hfz11_4 hfz11_5 hfz11_6 hfz11_7
        try clear hfz12_0 hfz12_1 hfz12_2 hfz12_3 hfz12_4 hfz12_5 hfz12_6 hfz12_7
        try clear hfz17_0 hfz17_1 hfz17_2 hfz17_3 hfz17_4 hfz17_5 hfz17_6 hfz17_7
        try clear hfz18_0 hfz18_1 hfz18_2 hfz18_3 hfz18_4 hfz18_5 hfz18_6 hfz18_7
        try clear hfz20_0 hfz20_1 hfz20_2 hfz20_3 hfz20_4 hfz20_5 hfz20_6 hfz20_7
        try clear hfz21_0 hfz21_1 hfz21_2 hfz21_3 hfz21_4 hfz21_5 hfz21_6 hfz21_7
        try clear hfz23_0 hfz23_1 hfz23_2 hfz23_3 hfz23_4 hfz23_5 hfz23_6 hfz23_7
        try clear hfz24_0 hfz24_1 hfz24_2 hfz24_3 hfz24_4 hfz24_5 hfz24_6 hfz24_7
        try clear hfz26_0 hfz26_1 hfz26_2 hfz26_3 hfz26_4 hfz26_5 hfz26_6 hfz26_7
        try clear hfz27_0 hfz27_1 hfz27_2 hfz27_3 hfz27_4 hfz27_5 hfz27_6 hfz27_7
        try clear hfz29_0 hfz29_1 hfz29_2 hfz29_3 hfz29_4 hfz29_5 hfz29_6 hfz29_7
        try clear hfz30_0 hfz30_1 hfz30_2 hfz30_3 hfz30_4 hfz30_5 hfz30_6 hfz30_7
        try clear hfz32_0 hfz32_1 hfz32_2 hfz32_3 hfz32_4 hfz32_5 hfz32_6 hfz32_7
        try clear hfz33_0 hfz33_1 hfz33_2 hfz33_3 hfz33_4 hfz33_5 hfz33_6 hfz33_7
        try clear hfz35_0 hfz35_1 hfz35_2 hfz35_3 hfz35_4 hfz35_5 hfz35_6 hfz35_7
        try clear hfz36_0 hfz36_1 hfz36_2 hfz36_3 hfz36_4 hfz36_5 hfz36_6 hfz36_7
        try clear hfz39_0 hfz39_1 hfz39_2 hfz39_3 hfz39_4 hfz39_5 hfz39_6 hfz39_7
        try clear hfz46_0 hfz46_1 hfz46_2 hfz46_3 hfz46_4 hfz46_5 hfz46_6 hfz46_7
        try clear hfz47_0 hfz47_1 hfz47_2 hfz47_3 hfz47_4 hfz47_5 hfz47_6 hfz47_7
        try clear hfz49_0 hfz49_1 hfz49_2 hfz49_3 hfz49_4 hfz49_5 hfz49_6 hfz49_7
        try clear hfz50_0 hfz50_1 hfz50_2 hfz50_3 hfz50_4 hfz50_5 hfz50_6 hfz50_7
        try clear hfz52_0 hfz52_1 hfz52_2 hfz52_3 hfz52_4 hfz52_5 hfz52_6 hfz52_7
        try clear hx301_0
        try clear hx302_0
        try clear p301
        try clear p302
        try clear q301
        try clear q302
        obtain ⟨x86_3, rfl, HA, HK3, BK299, BK300, HB⟩ := hrel
        cases gk with
        | zero => exact absurd HA.out (by simp [polyglotlaw18_Same.l1])
        | succ k3 =>
         have H := HA.out
         clear HA
         simp only [polyglotlaw18_Same.l1] at H
         by_cases c53 : x86_3 < (l0_7.length : Int)
         ·rw [if_pos c53] at H
          have c53b0 : decide (x86_3 < (l0_7.length : Int)) = true := decide_eq_true c53
          clear c53
          by_cases c54 : 0 ≤ x86_3
          ·rw [if_pos c54] at H
           have c54b0 : decide (0 ≤ x86_3) = true := decide_eq_true c54
           clear c54
           by_cases c55 : x86_3 < (l0_7.length : Int)
           ·rw [if_pos c55] at H
            have c55b0 : decide (x86_3 < (l0_7.length : Int)) = true := decide_eq_true c55
            clear c55
            by_cases c56 : x86_3 < (l1_7.length : Int)
            ·rw [if_pos c56] at H
             have c56b0 : decide (x86_3 < (l1_7.length : Int)) = true := decide_eq_true c56
             clear c56
             by_cases c57 : (!((((rd_T44 l0_7 x86_3).f0).toList) == (((rd_T44 l1_7 x86_3).f0).toList)) || (!(((rd_T44 l0_7 x86_3).f1) == ((rd_T44 l1_7 x86_3).f1)) || (!((((rd_T44 l0_7 x86_3).f2).toList) == (((rd_T44 l1_7 x86_3).f2).toList))))) = true
             ·rw [if_pos c57] at H
              have c57b0 : (!((((rd_T44 l0_7 x86_3).f0).toList) == (((rd_T44 l1_7 x86_3).f0).toList)) || (!(((rd_T44 l0_7 x86_3).f1) == ((rd_T44 l1_7 x86_3).f1)) || (!((((rd_T44 l0_7 x86_3).f2).toList) == (((rd_T44 l1_7 x86_3).f2).toList))))) = true := c57
              clear c57
              obtain rfl := Option.some.inj H
              have hnb58 := NB299_300.out
              have hnc58 := NB300_299.out
              obtain ⟨hcz59_0, hcz59_1, hcz59_2, hcz59_3, hcz59_4, hcz59_5, hcz59_6, hcz59_7, hfz59_0, hfz59_1, hfz59_2, hfz59_3, hfz59_4, hfz59_5, hfz59_6, hfz59_7⟩ := cellsF8 BK299.out
              have p303 : 0 ≤ (x86_3 : Int) := of_decide_eq_true q5_
              have q303 : x86_3 < (l0_7.length : Int) := of_decide_eq_true q5_
              obtain ⟨ad303, e303, hx303_0, hx303_1, hx303_2⟩ := at_T44 HR0_7.out x86_3 p303 q303
              cases e303
              replace hx303_0 := (HB.out.cell (World.block_lt_of_cell? w _ hx303_0)).trans hx303_0
              replace hx303_1 := (HB.out.cell (World.block_lt_of_cell? w _ hx303_1)).trans hx303_1
              replace hx303_2 := (HB.out.cell (World.block_lt_of_cell? w _ hx303_2)).trans hx303_2
              replace p303 := eq_true p303
              replace q303 := eq_true q303
              obtain ⟨hcz60_0, hcz60_1, hcz60_2, hcz60_3, hcz60_4, hcz60_5, hcz60_6, hcz60_7, hfz60_0, hfz60_1, hfz60_2, hfz60_3, hfz60_4, hfz60_5, hfz60_6, hfz60_7⟩ := cellsF8 BK300.out
              have p304 : 0 ≤ (x86_3 : Int) := of_decide_eq_true q5_
              have q304 : x86_3 < (l1_7.length : Int) := of_decide_eq_true q5_
              obtain ⟨ad304, e304, hx304_0, hx304_1, hx304_2⟩ := at_T44 HR1_7.out x86_3 p304 q304
              cases e304
              replace hx304_0 := (HB.out.cell (World.block_lt_of_cell? w _ hx304_0)).trans hx304_0
              replace hx304_1 := (HB.out.cell (World.block_lt_of_cell? w _ hx304_1)).trans hx304_1
              replace hx304_2 := (HB.out.cell (World.block_lt_of_cell? w _ hx304_2)).trans hx304_2
              replace p304 := eq_true p304
              replace q304 := eq_true q304
              go_wp2
              repeat (go_quiet (fail); try go_wp2)
              go_ret
              exact ⟨q9_, q0_⟩
             ·rw [if_neg c57] at H
              have c57b0 : (!((((rd_T44 l0_7 x86_3).f0).toList) == (((rd_T44 l1_7 x86_3).f0).toList)) || (!(((rd_T44 l0_7 x86_3).f1) == ((rd_T44 l1_7 x86_3).f1)) || (!((((rd_T44 l0_7 x86_3).f2).toList) == (((rd_T44 l1_7 x86_3).f2).toList))))) = false := by simpa using c57
              clear c57
              have H' := Aside0.mk H
              clear H
              have hnb61 := NB299_300.out
              have hnc61 := NB300_299.out
              obtain ⟨hcz62_0, hcz62_1, hcz62_2, hcz62_3, hcz62_4, hcz62_5, hcz62_6, hcz62_7, hfz62_0, hfz62_1, hfz62_2, hfz62_3, hfz62_4, hfz62_5, hfz62_6, hfz62_7⟩ := cellsF8 BK299.out
              have p303 : 0 ≤ (x86_3 : Int) := of_decide_eq_true q5_
              have q303 : x86_3 < (l0_7.length : Int) := of_decide_eq_true q5_
              obtain ⟨ad303, e303, hx303_0, hx303_1, hx303_2⟩ := at_T44 HR0_7.out x86_3 p303 q303
              cases e303
              replace hx303_0 := (HB.out.cell (World.block_lt_of_cell? w _ hx303_0)).trans hx303_0
              replace hx303_1 := (HB.out.cell (World.block_lt_of_cell? w _ hx303_1)).trans hx303_1
              replace hx303_2 := (HB.out.cell (World.block_lt_of_cell? w _ hx303_2)).trans hx303_2
              replace p303 := eq_true p303
              replace q303 := eq_true q303
              obtain ⟨hcz63_0, hcz63_1, hcz63_2, hcz63_3, hcz63_4, hcz63_5, hcz63_6, hcz63_7, hfz63_0, hfz63_1, hfz63_2, hfz63_3, hfz63_4, hfz63_5, hfz63_6, hfz63_7⟩ := cellsF8 BK300.out
              have p304 : 0 ≤ (x86_3 : Int) := of_decide_eq_true q5_
              have q304 : x86_3 < (l1_7.length : Int) := of_decide_eq_true q5_
              obtain ⟨ad304, e304, hx304_0, hx304_1, hx304_2⟩ := at_T44 HR1_7.out x86_3 p304 q304
              cases e304
              replace hx304_0 := (HB.out.cell (World.block_lt_of_cell? w _ hx304_0)).trans hx304_0
              replace hx304_1 := (HB.out.cell (World.block_lt_of_cell? w _ hx304_1)).trans hx304_1
              replace hx304_2 := (HB.out.cell (World.block_lt_of_cell? w _ hx304_2)).trans hx304_2
              replace p304 := eq_true p304
              replace q304 := eq_true q304
              go_wp2
              repeat (go_quiet (fail); try go_wp2)
              go_roundg k3
              case measure => have := HJ2.out; have := HK2.out; have := HK3.out; omega
              case rel => exact ⟨(wrap64 (x86_3 + 1)), q6_, H', ⟨(by have := HJ2.out; have := HK2.out; have := HK3.out; omega)⟩, ⟨q1_⟩, ⟨q3_⟩, ⟨q0_⟩⟩
            ·rw [if_neg c56] at H
             exact absurd H (by simp)
           ·rw [if_neg c55] at H
            exact absurd H (by simp)
          ·rw [if_neg c54] at H
           exact absurd H (by simp)
         ·rw [if_neg c53] at H
          have c53b0 : decide (x86_3 < (l0_7.length : Int)) = false := decide_eq_false c53
          clear c53
          obtain rfl := Option.some.inj H
          go_wp2
          repeat (go_quiet (fail); try go_wp2)
          go_ret
          exact ⟨q9_, q0_⟩
end Go.Proofs.YtdhpcofnddkcaaaGreatDoor.S
namespace Go.Proofs.YtdhpcofnddkcaaaGreatDoor.S
open Go.RowKit Go.Proofs.YtdhpcofnddkcaaaGreatDoor.G Go.Proofs.YtdhpcofnddkcaaaGreatDoorW.PrintWords Go.Proofs.YtdhpcofnddkcaaaGreatDoorW.PrintLast Go.Proofs.YtdhpcofnddkcaaaGreatDoorW.PrintMore
attribute [local go_sem] max2_int min2_int max_two min_two max_three min_three max_four min_four
set_option linter.unusedVariables false
set_option linter.unusedSimpArgs false
namespace Sx17
theorem cellsF8 {w : World} {g : Nat} {t : TypeId} {a0 a1 a2 a3 a4 a5 a6 a7 : Value} (h : w.heap[g]? = some (.cells #[a0, a1, a2, a3, a4, a5, a6, a7] t (0, 0))) : w.cell? ⟨g, 0, none⟩ = some a0 ∧ w.cell? ⟨g, 1, none⟩ = some a1 ∧ w.cell? ⟨g, 2, none⟩ = some a2 ∧ w.cell? ⟨g, 3, none⟩ = some a3 ∧ w.cell? ⟨g, 4, none⟩ = some a4 ∧ w.cell? ⟨g, 5, none⟩ = some a5 ∧ w.cell? ⟨g, 6, none⟩ = some a6 ∧ w.cell? ⟨g, 7, none⟩ = some a7 ∧ w.frozen? ⟨g, 0, none⟩ = false ∧ w.frozen? ⟨g, 1, none⟩ = false ∧ w.frozen? ⟨g, 2, none⟩ = false ∧ w.frozen? ⟨g, 3, none⟩ = false ∧ w.frozen? ⟨g, 4, none⟩ = false ∧ w.frozen? ⟨g, 5, none⟩ = false ∧ w.frozen? ⟨g, 6, none⟩ = false ∧ w.frozen? ⟨g, 7, none⟩ = false := ⟨(blk_cell h 0).trans rfl, (blk_cell h 1).trans rfl, (blk_cell h 2).trans rfl, (blk_cell h 3).trans rfl, (blk_cell h 4).trans rfl, (blk_cell h 5).trans rfl, (blk_cell h 6).trans rfl, (blk_cell h 7).trans rfl, blk_frozen h 0, blk_frozen h 1, blk_frozen h 2, blk_frozen h 3, blk_frozen h 4, blk_frozen h 5, blk_frozen h 6, blk_frozen h 7⟩
theorem q0_ {p_ : Prop} (h_ : p_ := by (with_reducible repeat (first | refine blk_drewN ?_ _ | refine blk_drew ?_ | refine blk_alloc ?_ _)); refine blk_put (cs := #[.int .i64 ((rd_T29 l0 x20_1).f0), .string ((rd_T29 l0 x20_1).f1), .string ((rd_T29 l0 x20_1).f2), .bool ((rd_T29 l0 x20_1).f3), .slice A307_4 ((rd_T29 l0 x20_1).f4).length c307_4, .string ((rd_T29 l0 x20_1).f5), .string ((rd_T29 l0 x20_1).f6), .slice none 0 0]) ?_ 7 _ rfl; (with_reducible repeat (first | refine blk_drewN ?_ _ | refine blk_drew ?_ | refine blk_alloc ?_ _)); refine blk_put (cs := #[.int .i64 ((rd_T29 l0 x20_1).f0), .string ((rd_T29 l0 x20_1).f1), .string ((rd_T29 l0 x20_1).f2), .bool ((rd_T29 l0 x20_1).f3), .slice A307_4 ((rd_T29 l0 x20_1).f4).length c307_4, .string ((rd_T29 l0 x20_1).f5), .string (⟨#[]⟩ : ByteArray), .slice none 0 0]) ?_ 6 _ rfl; (with_reducible repeat (first | refine blk_drewN ?_ _ | refine blk_drew ?_ | refine blk_alloc ?_ _)); refine blk_put (cs := #[.int .i64 ((rd_T29 l0 x20_1).f0), .string ((rd_T29 l0 x20_1).f1), .string ((rd_T29 l0 x20_1).f2), .bool ((rd_T29 l0 x20_1).f3), .slice A307_4 ((rd_T29 l0 x20_1).f4).length c307_4, .string (⟨#[]⟩ : ByteArray), .string (⟨#[]⟩ : ByteArray), .slice none 0 0]) ?_ 5 _ rfl; (with_reducible repeat (first | refine blk_drewN ?_ _ | refine blk_drew ?_ | refine blk_alloc ?_ _)); refine blk_put (cs := #[.int .i64 ((rd_T29 l0 x20_1).f0), .string ((rd_T29 l0 x20_1).f1), .string ((rd_T29 l0 x20_1).f2), .bool ((rd_T29 l0 x20_1).f3), .slice none 0 0, .string (⟨#[]⟩ : ByteArray), .string (⟨#[]⟩ : ByteArray), .slice none 0 0]) ?_ 4 _ rfl; (with_reducible repeat (first | refine blk_drewN ?_ _ | refine blk_drew ?_ | refine blk_alloc ?_ _)); refine blk_put (cs := #[.int .i64 ((rd_T29 l0 x20_1).f0), .string ((rd_T29 l0 x20_1).f1), .string ((rd_T29 l0 x20_1).f2), .bool false, .slice none 0 0, .string (⟨#[]⟩ : ByteArray), .string (⟨#[]⟩ : ByteArray), .slice none 0 0]) ?_ 3 _ rfl; (with_reducible repeat (first | refine blk_drewN ?_ _ | refine blk_drew ?_ | refine blk_alloc ?_ _)); refine blk_put (cs := #[.int .i64 ((rd_T29 l0 x20_1).f0), .string ((rd_T29 l0 x20_1).f1), .string (⟨#[]⟩ : ByteArray), .bool false, .slice none 0 0, .string (⟨#[]⟩ : ByteArray), .string (⟨#[]⟩ : ByteArray), .slice none 0 0]) ?_ 2 _ rfl; (with_reducible repeat (first | refine blk_drewN ?_ _ | refine blk_drew ?_ | refine blk_alloc ?_ _)); refine blk_put (cs := #[.int .i64 ((rd_T29 l0 x20_1).f0), .string (⟨#[]⟩ : ByteArray), .string (⟨#[]⟩ : ByteArray), .bool false, .slice none 0 0, .string (⟨#[]⟩ : ByteArray), .string (⟨#[]⟩ : ByteArray), .slice none 0 0]) ?_ 1 _ rfl; (with_reducible repeat (first | refine blk_drewN ?_ _ | refine blk_drew ?_ | refine blk_alloc ?_ _)); refine blk_put (cs := #[.int .i64 0, .string (⟨#[]⟩ : ByteArray), .string (⟨#[]⟩ : ByteArray), .bool false, .slice none 0 0, .string (⟨#[]⟩ : ByteArray), .string (⟨#[]⟩ : ByteArray), .slice none 0 0]) ?_ 0 _ rfl; (with_reducible repeat (first | refine blk_drewN ?_ _ | refine blk_drew ?_ | refine blk_alloc ?_ _)); exact BK308.out) : p_ := h_
theorem q1_ {p_ : Prop} (h_ : p_ := by repeat (first | (with_reducible first | exact HB.out | apply below_alloc | apply pw_below_drewN | apply below_drew1) | exact HB.out)) : p_ := h_
theorem q2_ {p_ : Prop} (h_ : p_ := by repeat (first | (with_reducible first | exact HB.out | apply below_alloc | apply pw_below_drewN | apply below_drew1 | refine below_set ?_ GE308.out) | exact HB.out)) : p_ := h_
theorem q3_ {p_ : Prop} (h_ : p_ := by (try simp only [List.map_toArray, List.map_cons, List.map_nil]); first | done | rfl | (simp only [List.length_drop, List.length_take]; rfl)) : p_ := h_
theorem q4_ {p_ : Prop} (h_ : p_ := by (with_reducible repeat (first | refine blk_drewN ?_ _ | refine blk_drew ?_ | refine blk_alloc ?_ _)); exact BK308.out) : p_ := h_
theorem q5_ {p_ : Prop} (h_ : p_ := by first | (with_reducible assumption) | assumption) : p_ := h_
theorem q6_ {p_ : Prop} (h_ : p_ := by first | rfl | (simp; done) | (simp [*]; done)) : p_ := h_
theorem q7_ {p_ : Prop} (h_ : p_ := by first | rfl | (simp [errW_none, errW_some] <;> rfl) | (simp [*, errW_none, errW_some] <;> rfl)) : p_ := h_
theorem q8_ {p_ : Prop} (h_ : p_ := by repeat (first | (with_reducible exact HR322_4.out) | (with_reducible refine Kd.C_alloc ?_ _) | (with_reducible refine Kd.C_drewN ?_ _) | (with_reducible refine Kd.C_drew ?_) | exact HR322_4.out)) : p_ := h_
theorem q9_ {p_ : Prop} (h_ : p_ := by repeat (first | (with_reducible exact HR322_7.out) | (with_reducible refine Kd.C_alloc ?_ _) | (with_reducible refine Kd.C_drewN ?_ _) | (with_reducible refine Kd.C_drew ?_) | exact HR322_7.out)) : p_ := h_
theorem q10_ {p_ : Prop} (h_ : p_ := by (with_reducible repeat (first | apply Kd.S_alloc | apply Kd.S_drewN | apply Kd.S_drew)); exact HO321.out) : p_ := h_
theorem q11_ {p_ : Prop} (h_ : p_ := by (with_reducible repeat (first | apply Kd.S_alloc | apply Kd.S_drewN | apply Kd.S_drew)); exact HO_9.out) : p_ := h_
theorem q12_ {p_ : Prop} (h_ : p_ := by rw [hg]; exact (below_size q1_)) : p_ := h_
theorem q13_ {p_ : Prop} (h_ : p_ := by have := HK1.out; first | omega | exact Nat.le_refl _) : p_ := h_
end Sx17
open Sx17
mutual
def polyglotlaw18_ScriptBytes.l0 : Nat → List (S29) → Bool → ByteArray → List (S29) → Int → Int → Option (Bool)
 | 0, _, _, _, _, _, _ => none
 | k + 1, x0, x3, x4, x18, x19, x20 => if x20 < x19 then (if 0 ≤ x20 then (if x20 < (x18.length : Int) then ((script_Step_Right.f k ((rd_T29 x18 x20).f0) ((rd_T29 x18 x20).f1) ((rd_T29 x18 x20).f2) ((rd_T29 x18 x20).f3) ((rd_T29 x18 x20).f4) ((rd_T29 x18 x20).f5) ((rd_T29 x18 x20).f6) ((rd_T29 x18 x20).f7)).bind fun t309 => ((polyglotlaw18_Right.f k ((rd_T29 x18 x20).f0) ((rd_T29 x18 x20).f1) ((rd_T29 x18 x20).f2) ((rd_T29 x18 x20).f3) ((rd_T29 x18 x20).f4) ((rd_T29 x18 x20).f5) ((rd_T29 x18 x20).f6) ((rd_T29 x18 x20).f7)).bind fun t310 => (if (t309 != t310) = true then (some false) else (if x3 = true then ((polyglotlaw18_Right.f k ((rd_T29 x18 x20).f0) ((rd_T29 x18 x20).f1) ((rd_T29 x18 x20).f2) ((rd_T29 x18 x20).f3) ((rd_T29 x18 x20).f4) ((rd_T29 x18 x20).f5) ((rd_T29 x18 x20).f6) ((rd_T29 x18 x20).f7)).bind fun t311 => (if t311 = true then ((polyglotlaw18_Bytes.f k ((rd_T29 x18 x20).f0) ((rd_T29 x18 x20).f1) ((rd_T29 x18 x20).f2) ((rd_T29 x18 x20).f3) ((rd_T29 x18 x20).f4) ((rd_T29 x18 x20).f5) ((rd_T29 x18 x20).f6) ((rd_T29 x18 x20).f7)).bind fun t312 => (if x4.size + t312.size ≤ 9223372036854775807 then (polyglotlaw18_ScriptBytes.l0 k x0 t311 (x4 ++ t312) x18 x19 (wrap64 (x20 + 1))) else (none))) else (polyglotlaw18_ScriptBytes.l0 k x0 t311 x4 x18 x19 (wrap64 (x20 + 1))))) else (polyglotlaw18_ScriptBytes.l0 k x0 false x4 x18 x19 (wrap64 (x20 + 1))))))) else (none)) else (none)) else ((script_Encode.f x0).bind fun bt313 => (if x3 = true then ((script_Decode.f bt313.1).bind fun bt317 => (if bt313.2 = 0 then (if bt317.2.2 = 0 then (if (strOfNums bt313.1).toList = x4.toList then (if bt317.2.1 = (bt313.1.length : Int) then (polyglotlaw18_ScriptBytes.j1 k x0 bt317.1 ((bt317.1.length : Int) != (x0.length : Int))) else (polyglotlaw18_ScriptBytes.j1 k x0 bt317.1 true)) else (polyglotlaw18_ScriptBytes.j1 k x0 bt317.1 true)) else (polyglotlaw18_ScriptBytes.j1 k x0 bt317.1 true)) else (polyglotlaw18_ScriptBytes.j1 k x0 bt317.1 true))) else (if bt313.2 = 1 then (some ((bt313.1.length : Int) == 0)) else (some false))))
def polyglotlaw18_ScriptBytes.j1 : Nat → List (S29) → List (S29) → Bool → Option (Bool)
 | 0, _, _, _ => none
 | k + 1, x0, x9, x84 => if x84 = true then (some false) else (polyglotlaw18_ScriptBytes.l1 k x0 x9 (x9.length : Int) 0)
def polyglotlaw18_ScriptBytes.l1 : Nat → List (S29) → List (S29) → Int → Int → Option (Bool)
 | 0, _, _, _, _ => none
 | k + 1, x0, x9, x86, x87 => if x87 < x86 then (if 0 ≤ x87 then (if x87 < (x9.length : Int) then (if x87 < (x0.length : Int) then ((polyglotlaw18_Same.f k ((rd_T29 x9 x87).f0) ((rd_T29 x9 x87).f1) ((rd_T29 x9 x87).f2) ((rd_T29 x9 x87).f3) ((rd_T29 x9 x87).f4) ((rd_T29 x9 x87).f5) ((rd_T29 x9 x87).f6) ((rd_T29 x9 x87).f7) ((rd_T29 x0 x87).f0) ((rd_T29 x0 x87).f1) ((rd_T29 x0 x87).f2) ((rd_T29 x0 x87).f3) ((rd_T29 x0 x87).f4) ((rd_T29 x0 x87).f5) ((rd_T29 x0 x87).f6) ((rd_T29 x0 x87).f7)).bind fun t324 => (if t324 = true then (polyglotlaw18_ScriptBytes.l1 k x0 x9 x86 (wrap64 (x87 + 1))) else (some false))) else (none)) else (none)) else (none)) else (some true)
end
theorem polyglotlaw18_ScriptBytes.mono_l : ∀ k, (∀ y0 y1 y2 y3 y4 y5, LeO (polyglotlaw18_ScriptBytes.l0 k y0 y1 y2 y3 y4 y5) (polyglotlaw18_ScriptBytes.l0 (k + 1) y0 y1 y2 y3 y4 y5)) ∧ (∀ y0 y1 y2, LeO (polyglotlaw18_ScriptBytes.j1 k y0 y1 y2) (polyglotlaw18_ScriptBytes.j1 (k + 1) y0 y1 y2)) ∧ (∀ y0 y1 y2 y3, LeO (polyglotlaw18_ScriptBytes.l1 k y0 y1 y2 y3) (polyglotlaw18_ScriptBytes.l1 (k + 1) y0 y1 y2 y3))
 | 0 => ⟨fun _ _ _ _ _ _ r h => by simp [polyglotlaw18_ScriptBytes.l0] at h, fun _ _ _ r h => by simp [polyglotlaw18_ScriptBytes.j1] at h, fun _ _ _ _ r h => by simp [polyglotlaw18_ScriptBytes.l1] at h⟩
 | k + 1 => by
  obtain ⟨ih0, ih1, ih2⟩ := polyglotlaw18_ScriptBytes.mono_l k
  refine ⟨?_, ?_, ?_⟩
  ·intro y0 y1 y2 y3 y4 y5
   unfold polyglotlaw18_ScriptBytes.l0
   repeat' first
   | (with_reducible exact ih0 _ _ _ _ _ _)
   | (with_reducible exact ih1 _ _ _)
   | (with_reducible exact ih2 _ _ _ _)
   | (with_reducible exact polyglotlaw18_Bytes.mono _ _ _ _ _ _ _ _ _)
   | (with_reducible exact polyglotlaw18_Few.mono _ _)
   | (with_reducible exact polyglotlaw18_Right.mono _ _ _ _ _ _ _ _ _)
   | (with_reducible exact polyglotlaw18_Same.mono _ _ _ _ _ _ _ _ _ _ _ _ _ _ _ _ _)
   | (with_reducible exact script_Step_Right.mono _ _ _ _ _ _ _ _ _)
   | (with_reducible exact LeO.refl _)
   | (with_reducible exact LeO.none _)
   | (with_reducible refine LeO.ite ?_ ?_)
   | (with_reducible refine LeO.bind ?_ (fun _ => ?_))
   | exact ih0 _ _ _ _ _ _
   | exact ih1 _ _ _
   | exact ih2 _ _ _ _
   | exact polyglotlaw18_Bytes.mono _ _ _ _ _ _ _ _ _
   | exact polyglotlaw18_Few.mono _ _
   | exact polyglotlaw18_Right.mono _ _ _ _ _ _ _ _ _
   | exact polyglotlaw18_Same.mono _ _ _ _ _ _ _ _ _ _ _ _ _ _ _ _ _
   | exact script_Step_Right.mono _ _ _ _ _ _ _ _ _
   | exact LeO.none _
   | refine LeO.ite ?_ ?_
   | refine LeO.bind ?_ (fun _ => ?_)
  ·intro y0 y1 y2
   unfold polyglotlaw18_ScriptBytes.j1
   repeat' first
   | (with_reducible exact ih0 _ _ _ _ _ _)
   | (with_reducible exact ih1 _ _ _)
   | (with_reducible exact ih2 _ _ _ _)
   | (with_reducible exact polyglotlaw18_Bytes.mono _ _ _ _ _ _ _ _ _)
   | (with_reducible exact polyglotlaw18_Few.mono _ _)
   | (with_reducible exact polyglotlaw18_Right.mono _ _ _ _ _ _ _ _ _)
   | (with_reducible exact polyglotlaw18_Same.mono _ _ _ _ _ _ _ _ _ _ _ _ _ _ _ _ _)
   | (with_reducible exact script_Step_Right.mono _ _ _ _ _ _ _ _ _)
   | (with_reducible exact LeO.refl _)
   | (with_reducible exact LeO.none _)
   | (with_reducible refine LeO.ite ?_ ?_)
   | (with_reducible refine LeO.bind ?_ (fun _ => ?_))
   | exact ih0 _ _ _ _ _ _
   | exact ih1 _ _ _
   | exact ih2 _ _ _ _
   | exact polyglotlaw18_Bytes.mono _ _ _ _ _ _ _ _ _
   | exact polyglotlaw18_Few.mono _ _
   | exact polyglotlaw18_Right.mono _ _ _ _ _ _ _ _ _
   | exact polyglotlaw18_Same.mono _ _ _ _ _ _ _ _ _ _ _ _ _ _ _ _ _
   | exact script_Step_Right.mono _ _ _ _ _ _ _ _ _
   | exact LeO.none _
   | refine LeO.ite ?_ ?_
   | refine LeO.bind ?_ (fun _ => ?_)
  ·intro y0 y1 y2 y3
   unfold polyglotlaw18_ScriptBytes.l1
   repeat' first
   | (with_reducible exact ih0 _ _ _ _ _ _)
   | (with_reducible exact ih1 _ _ _)
   | (with_reducible exact ih2 _ _ _ _)
   | (with_reducible exact polyglotlaw18_Bytes.mono _ _ _ _ _ _ _ _ _)
   | (with_reducible exact polyglotlaw18_Few.mono _ _)
   | (with_reducible exact polyglotlaw18_Right.mono _ _ _ _ _ _ _ _ _)
   | (with_reducible exact polyglotlaw18_Same.mono _ _ _ _ _ _ _ _ _ _ _ _ _ _ _ _ _)
   | (with_reducible exact script_Step_Right.mono _ _ _ _ _ _ _ _ _)
   | (with_reducible exact LeO.refl _)
   | (with_reducible exact LeO.none _)
   | (with_reducible refine LeO.ite ?_ ?_)
   | (with_reducible refine LeO.bind ?_ (fun _ => ?_))
   | exact ih0 _ _ _ _ _ _
   | exact ih1 _ _ _
   | exact ih2 _ _ _ _
   | exact polyglotlaw18_Bytes.mono _ _ _ _ _ _ _ _ _
   | exact polyglotlaw18_Few.mono _ _
   | exact polyglotlaw18_Right.mono _ _ _ _ _ _ _ _ _
   | exact polyglotlaw18_Same.mono _ _ _ _ _ _ _ _ _ _ _ _ _ _ _ _ _
   | exact script_Step_Right.mono _ _ _ _ _ _ _ _ _
   | exact LeO.none _
   | refine LeO.ite ?_ ?_
   | refine LeO.bind ?_ (fun _ => ?_)
end Go.Proofs.YtdhpcofnddkcaaaGreatDoor.S
namespace Go.Proofs.YtdhpcofnddkcaaaGreatDoor.S
open Go.RowKit Go.Proofs.YtdhpcofnddkcaaaGreatDoor.G Go.Proofs.YtdhpcofnddkcaaaGreatDoorW.PrintWords Go.Proofs.YtdhpcofnddkcaaaGreatDoorW.PrintLast Go.Proofs.YtdhpcofnddkcaaaGreatDoorW.PrintMore
set_option linter.unusedVariables false
set_option linter.unusedSimpArgs false
theorem encB_le (t : ByteArray) (h : t.size ≤ 262144) : (Net.encB t).length ≤ t.size + 8 := by
  unfold Net.encB
  rw [Net.enc_length]
  have e : (Net.lb t).length = t.size := (sz t).symm
  have := Net.dec_len (u := (Net.lb t).length) (by omega)
  omega
theorem encs_le : ∀ (ps : List ByteArray), (∀ p ∈ ps, p.size ≤ 262144) → (Net.encs ps).length ≤ wsum ps + 8 * ps.length
  | [], _ => by simp [wsum, Net.encs]
  | a :: r, h => by
    rw [Net.encs_cons, List.length_append, List.length_cons]
    have h1 := encB_le a (h a (.head _))
    have h2 := encs_le r (fun p hp => h p (.tail _ hp))
    have h3 : wsum (a :: r) = a.size + wsum r := by simp [wsum]
    omega
theorem wsum_mem {l : List ByteArray} {t : ByteArray} (h : t ∈ l) : t.size ≤ wsum l := by
  induction l with
  | nil => cases h
  | cons a r ih =>
    have e : wsum (a :: r) = a.size + wsum r := by simp [wsum]
    rcases List.mem_cons.1 h with rfl | h
    · omega
    · have := ih h; omega
theorem asum_mem {l : List S44} {a : S44} (h : a ∈ l) : a.f0.size + a.f2.size ≤ asum l := by
  induction l with
  | nil => cases h
  | cons b r ih =>
    have e : asum (b :: r) = (b.f0.size + b.f2.size) + asum r := by simp [asum]
    rcases List.mem_cons.1 h with rfl | h
    · omega
    · have := ih h; omega
theorem tot_mem {l : List S29} {s : S29} (h : s ∈ l) : ssum s ≤ tot l := by
  induction l with
  | nil => cases h
  | cons b r ih =>
    rw [tot_cons]
    rcases List.mem_cons.1 h with rfl | h
    · omega
    · have := ih h; omega
theorem tnm_le (k : Int) : (Net.tnm k).size ≤ 1 := by
  unfold Net.tnm
  split
  · decide
  · split <;> decide
theorem argsT_le : ∀ (l : List S44), (∀ a ∈ l, a.f0.size ≤ 262144 ∧ a.f2.size ≤ 262144) → (Net.encs (Net.argsT (l.map toAr))).length ≤ asum l + 25 * l.length
  | [], _ => by simp [asum, Net.encs, Net.argsT]
  | a :: r, h => by
    rw [List.map_cons, Net.argsT_cons, Net.encs_app, List.length_append, List.length_cons]
    have h0 := h a (.head _)
    have h1 := encs_le (Net.argT (toAr a)) (fun p hp => by
      rcases List.mem_cons.1 hp with rfl | hp
      · exact h0.1
      · rcases List.mem_cons.1 hp with rfl | hp
        · have := tnm_le a.f1
          show (Net.tnm a.f1).size ≤ _
          omega
        · obtain rfl := List.mem_singleton.1 hp
          exact h0.2)
    have h2 := argsT_le r (fun p hp => h p (.tail _ hp))
    have h3 : asum (a :: r) = (a.f0.size + a.f2.size) + asum r := by simp [asum]
    have h4 : wsum (Net.argT (toAr a)) = a.f0.size + ((Net.tnm a.f1).size + a.f2.size) := by
      show (([a.f0, Net.tnm a.f1, a.f2] : List ByteArray).map ByteArray.size).sum = _
      simp
    have h5 : (Net.argT (toAr a)).length = 3 := rfl
    have h6 := tnm_le a.f1
    omega
theorem itoaB_le {n : Nat} (h : n ≤ 262144) : (Net.itoaB n).size ≤ 6 := by
  have h1 := Net.dec_len h
  have e : (Net.itoaB n).size = (Net.lb (Net.itoaB n)).length := sz _
  have e2 : Net.lb (Net.itoaB n) = Lib.decDigits n := by unfold Net.itoaB; rw [Net.lb_bs]
  rw [e2] at e
  omega
theorem parts_le (s : S29) (h4 : s.f4.length ≤ 20) (h7 : s.f7.length ≤ 20) (hs : ssum s ≤ 3000) : (Net.encs (Net.parts (toSt s))).length ≤ ssum s + 1000 := by
  have es : ssum s = s.f1.size + s.f2.size + s.f5.size + s.f6.size + wsum s.f4 + asum s.f7 := rfl
  show (Net.encs (if s.f0 = 0 then [Net.cA, s.f1, if s.f3 = true then Net.c1 else Net.c0, s.f2] else if s.f0 = 1 then [Net.cC, s.f1, Net.itoaB s.f4.length] ++ s.f4 else [Net.cQ, s.f5, s.f6, Net.itoaB (s.f7.map toAr).length] ++ Net.argsT (s.f7.map toAr))).length ≤ _
  by_cases k0 : s.f0 = 0
  · rw [if_pos k0]
    have hc : (if s.f3 = true then Net.c1 else Net.c0).size = 1 := by split <;> decide
    have ha : Net.cA.size = 1 := by decide
    have := encs_le [Net.cA, s.f1, if s.f3 = true then Net.c1 else Net.c0, s.f2] (fun p hp => by
      simp only [List.mem_cons, List.not_mem_nil, or_false] at hp
      rcases hp with rfl | rfl | rfl | rfl <;> omega)
    have e : wsum [Net.cA, s.f1, if s.f3 = true then Net.c1 else Net.c0, s.f2] = Net.cA.size + (s.f1.size + ((if s.f3 = true then Net.c1 else Net.c0).size + s.f2.size)) := by simp [wsum]
    have e2 : [Net.cA, s.f1, if s.f3 = true then Net.c1 else Net.c0, s.f2].length = 4 := rfl
    omega
  · rw [if_neg k0]
    by_cases k1 : s.f0 = 1
    · rw [if_pos k1, Net.encs_app, List.length_append]
      have hc : Net.cC.size = 1 := by decide
      have hi := itoaB_le (n := s.f4.length) (by omega)
      have h1 := encs_le [Net.cC, s.f1, Net.itoaB s.f4.length] (fun p hp => by
        simp only [List.mem_cons, List.not_mem_nil, or_false] at hp
        rcases hp with rfl | rfl | rfl <;> omega)
      have e : wsum [Net.cC, s.f1, Net.itoaB s.f4.length] = Net.cC.size + (s.f1.size + (Net.itoaB s.f4.length).size) := by simp [wsum]
      have e2 : [Net.cC, s.f1, Net.itoaB s.f4.length].length = 3 := rfl
      have h2 := encs_le s.f4 (fun p hp => by have := wsum_mem hp; omega)
      omega
    · rw [if_neg k1, Net.encs_app, List.length_append, List.length_map]
      have hc : Net.cQ.size = 1 := by decide
      have hi := itoaB_le (n := s.f7.length) (by omega)
      have h1 := encs_le [Net.cQ, s.f5, s.f6, Net.itoaB s.f7.length] (fun p hp => by
        simp only [List.mem_cons, List.not_mem_nil, or_false] at hp
        rcases hp with rfl | rfl | rfl | rfl <;> omega)
      have e : wsum [Net.cQ, s.f5, s.f6, Net.itoaB s.f7.length] = Net.cQ.size + (s.f5.size + (s.f6.size + (Net.itoaB s.f7.length).size)) := by simp [wsum]
      have e2 : [Net.cQ, s.f5, s.f6, Net.itoaB s.f7.length].length = 4 := rfl
      have h2 := argsT_le s.f7 (fun a ha => by have := asum_mem ha; omega)
      omega
theorem encS_le : ∀ (l : List S29), (∀ s ∈ l, s.f4.length ≤ 20 ∧ s.f7.length ≤ 20) → tot l ≤ 3000 → (Net.encS (l.map toSt)).length ≤ tot l + 1000 * l.length
  | [], _, _ => Nat.le_refl _
  | a :: r, h, ht => by
    rw [tot_cons] at ht ⊢
    rw [List.map_cons, Net.encS_cons, List.length_append, List.length_cons]
    have h0 := h a (.head _)
    have h1 := parts_le a h0.1 h0.2 (by omega)
    have h2 := encS_le r (fun s hs => h s (.tail _ hs)) (by omega)
    omega
theorem few_small {l : List S29} (h : ∀ s ∈ l, s.f4.length ≤ 20 ∧ s.f7.length ≤ 20) (ht : tot l ≤ 3000) : ∀ s ∈ l.map toSt, Net.small s := by
  intro x hx
  obtain ⟨s, hs, rfl⟩ := List.mem_map.1 hx
  have h0 := h s hs
  have h1 := tot_mem hs
  have es : ssum s = s.f1.size + s.f2.size + s.f5.size + s.f6.size + wsum s.f4 + asum s.f7 := rfl
  have e : ∀ t : ByteArray, (Net.lb t).length = t.size := fun t => (sz t).symm
  refine ⟨?_, ?_, ?_, ?_, by omega, by rw [List.length_map]; omega, fun t ht' => ?_, fun y hy => ?_⟩
  · show (Net.lb s.f1).length ≤ 262144
    rw [e]; omega
  · show (Net.lb s.f2).length ≤ 262144
    rw [e]; omega
  · show (Net.lb s.f5).length ≤ 262144
    rw [e]; omega
  · show (Net.lb s.f6).length ≤ 262144
    rw [e]; omega
  · have := wsum_mem ht'
    show (Net.lb t).length ≤ 262144
    rw [e]; omega
  · obtain ⟨a, ha, rfl⟩ := List.mem_map.1 hy
    have := asum_mem ha
    refine ⟨?_, ?_⟩
    · show (Net.lb a.f0).length ≤ 262144
      rw [e]; omega
    · show (Net.lb a.f2).length ≤ 262144
      rw [e]; omega
theorem ofSt_to (s : S29) : ofSt (toSt s) = s := by
  obtain ⟨k, t, b, o, ws, n, m, ags⟩ := s
  show (⟨k, t, b, o, ws, n, m, (ags.map toAr).map ofAr⟩ : S29) = _
  have e : ∀ l : List S44, (l.map toAr).map ofAr = l := fun l => by
    induction l with
    | nil => rfl
    | cons a t ih => rw [List.map_cons, List.map_cons, ih]; rfl
  rw [e]
theorem ofSt_all (l : List S29) : (l.map toSt).map ofSt = l := by
  induction l with
  | nil => rfl
  | cons a t ih => rw [List.map_cons, List.map_cons, ih, ofSt_to]
theorem encode_few {l : List S29} (hn : l.length ≤ 20) (h : ∀ s ∈ l, s.f4.length ≤ 20 ∧ s.f7.length ≤ 20) (ht : tot l ≤ 3000) :
    script_Encode.f l = if l.all rightS = true then some (nums8 (Net.encS (l.map toSt)), 0) else some ([], 1) := by
  have h1 := encS_le l h ht
  unfold script_Encode.f
  rw [if_pos (by omega), if_pos ⟨by omega, fun s hs => ⟨by have := h s hs; omega, by have := h s hs; omega, fun a ha => by
    have h2 := tot_mem hs
    have h3 := asum_mem ha
    have es : ssum s = s.f1.size + s.f2.size + s.f5.size + s.f6.size + wsum s.f4 + asum s.f7 := rfl
    omega⟩⟩, show (l.map toSt).all (Net.right okA) = l.all rightS from by rw [List.all_map]; rfl]
  rfl
theorem same_l1 (s : S29) (hl : s.f7.length ≤ 1000000) : ∀ (d i : Nat), s.f7.length - i ≤ d → i ≤ s.f7.length → ∀ k, d + 1 ≤ k →
    polyglotlaw18_Same.l1 k (s.f7.length : Int) (i : Int) s.f0 s.f1 s.f2 s.f3 s.f4 s.f5 s.f6 s.f7 s.f0 s.f1 s.f2 s.f3 s.f4 s.f5 s.f6 s.f7 = some true := by
  intro d
  induction d with
  | zero =>
    intro i h1 h2 k hk
    obtain ⟨m, rfl⟩ : ∃ m, k = m + 1 := ⟨k - 1, by omega⟩
    rw [polyglotlaw18_Same.l1, if_neg (by omega)]
  | succ d ih =>
    intro i h1 h2 k hk
    obtain ⟨m, rfl⟩ : ∃ m, k = m + 1 := ⟨k - 1, by omega⟩
    by_cases hi : (i : Int) < (s.f7.length : Int)
    · rw [polyglotlaw18_Same.l1, if_pos hi, if_pos (by omega), if_pos hi, if_pos hi, if_neg (by simp), w64 _ (by omega) (by omega), show (i : Int) + 1 = ((i + 1 : Nat) : Int) by omega]
      exact ih (i + 1) (by omega) (by omega) m (by omega)
    · rw [polyglotlaw18_Same.l1, if_neg hi]
theorem same_l0 (s : S29) (h4 : s.f4.length ≤ 1000000) (h7 : s.f7.length ≤ 1000000) : ∀ (d i : Nat), s.f4.length - i ≤ d → i ≤ s.f4.length → ∀ k, d + s.f7.length + 2 ≤ k →
    polyglotlaw18_Same.l0 k (s.f4.length : Int) (i : Int) s.f0 s.f1 s.f2 s.f3 s.f4 s.f5 s.f6 s.f7 s.f0 s.f1 s.f2 s.f3 s.f4 s.f5 s.f6 s.f7 = some true := by
  intro d
  induction d with
  | zero =>
    intro i h1 h2 k hk
    obtain ⟨m, rfl⟩ : ∃ m, k = m + 1 := ⟨k - 1, by omega⟩
    rw [polyglotlaw18_Same.l0, if_neg (by omega)]
    exact same_l1 s h7 s.f7.length 0 (by omega) (by omega) m (by omega)
  | succ d ih =>
    intro i h1 h2 k hk
    obtain ⟨m, rfl⟩ : ∃ m, k = m + 1 := ⟨k - 1, by omega⟩
    by_cases hi : (i : Int) < (s.f4.length : Int)
    · rw [polyglotlaw18_Same.l0, if_pos hi, if_pos (by omega), if_pos hi, if_pos hi, if_pos rfl, w64 _ (by omega) (by omega), show (i : Int) + 1 = ((i + 1 : Nat) : Int) by omega]
      exact ih (i + 1) (by omega) (by omega) m (by omega)
    · rw [polyglotlaw18_Same.l0, if_neg hi]
      exact same_l1 s h7 s.f7.length 0 (by omega) (by omega) m (by omega)
theorem same_refl (s : S29) (h4 : s.f4.length ≤ 1000000) (h7 : s.f7.length ≤ 1000000) (k : Nat) (hk : s.f4.length + s.f7.length + 3 ≤ k) :
    polyglotlaw18_Same.f k s.f0 s.f1 s.f2 s.f3 s.f4 s.f5 s.f6 s.f7 s.f0 s.f1 s.f2 s.f3 s.f4 s.f5 s.f6 s.f7 = some true := by
  obtain ⟨m, rfl⟩ : ∃ m, k = m + 1 := ⟨k - 1, by omega⟩
  unfold polyglotlaw18_Same.f
  rw [if_pos rfl, if_pos rfl, if_pos rfl, if_neg (by simp), if_pos rfl, if_pos rfl, if_pos rfl, bne_self_eq_false, polyglotlaw18_Same.j0, if_neg (by decide)]
  exact same_l0 s h4 h7 s.f4.length 0 (by omega) (by omega) m (by omega)
end Go.Proofs.YtdhpcofnddkcaaaGreatDoor.S
namespace Go.Proofs.YtdhpcofnddkcaaaGreatDoor.S
open Go.RowKit Go.Proofs.YtdhpcofnddkcaaaGreatDoor.G Go.Proofs.YtdhpcofnddkcaaaGreatDoorW.PrintWords Go.Proofs.YtdhpcofnddkcaaaGreatDoorW.PrintLast Go.Proofs.YtdhpcofnddkcaaaGreatDoorW.PrintMore
set_option linter.unusedVariables false
set_option linter.unusedSimpArgs false
theorem few_told (l : List S29) (hl : l.length ≤ 281474976710656) (hm : ∀ s ∈ l, Mem s) :
    ∃ b, polyglotlaw18_Few.f (fuel l) l = some b ∧ (b = true → l.length ≤ 20 ∧ (∀ s ∈ l, s.f4.length ≤ 20 ∧ s.f7.length ≤ 20) ∧ tot l ≤ 3000) := by
  obtain ⟨b, hb, hfew⟩ := few_l0 l hl hm l.length 0 0 (by omega) (by omega)
  rw [List.drop_zero] at hb hfew
  refine ⟨b, hb, fun h => ?_⟩
  obtain ⟨q1, q2, q3⟩ := hfew h
  have hsum : tot l ≤ l.length * (4 * 281474976710656 + 20 * 281474976710656 + 20 * 562949953421312) := by
    clear hb hfew q1 q3
    induction l with
    | nil => exact Nat.le_refl _
    | cons a t ih =>
      have h1 := ih (by rw [List.length_cons] at hl; omega) (fun s hs => hm s (.tail _ hs)) (fun s hs => q2 s (.tail _ hs))
      obtain ⟨m1, m2, m5, m6, m4, m7, mw, ma⟩ := hm a (.head _)
      have h2 := wsum_le a.f4 mw
      have h3 := asum_le a.f7 ma
      have h4 := q2 a (.head _)
      have es : ssum a = a.f1.size + a.f2.size + a.f5.size + a.f6.size + wsum a.f4 + asum a.f7 := rfl
      rw [tot_cons, List.length_cons]
      omega
  exact ⟨q1, q2, by have := q3 (by omega) (by omega); omega⟩
def FewL (l : List S29) : Prop := l.length ≤ 20 ∧ (∀ s ∈ l, s.f4.length ≤ 20 ∧ s.f7.length ≤ 20) ∧ tot l ≤ 3000
end Go.Proofs.YtdhpcofnddkcaaaGreatDoor.S
namespace Go.Proofs.YtdhpcofnddkcaaaGreatDoor.S
open Go.RowKit Go.Proofs.YtdhpcofnddkcaaaGreatDoor.G Go.Proofs.YtdhpcofnddkcaaaGreatDoorW.PrintWords Go.Proofs.YtdhpcofnddkcaaaGreatDoorW.PrintLast Go.Proofs.YtdhpcofnddkcaaaGreatDoorW.PrintMore
set_option linter.unusedVariables false
set_option linter.unusedSimpArgs false
theorem nums8_take (l : List UInt8) (k : Nat) : (nums8 l).take k = nums8 (l.take k) := by unfold nums8; rw [List.map_take]
theorem nums8_app (a b : List UInt8) : nums8 a ++ nums8 b = nums8 (a ++ b) := by unfold nums8; rw [List.map_append]
theorem decode_none {l : List UInt8} (h0 : 0 < l.length) (hl : l.length ≤ 100000) (hn : Net.noStep okA l 0) : script_Decode.f (nums8 l) = some ([], 0, 2) := by
  have e : Net.decR okA l (l.length + 1) 4096 0 = ([], 0, 2) := by
    rw [Net.decR, if_pos h0]
    cases hs : Net.stepR l 0 with
    | none => rfl
    | some r =>
      obtain ⟨st, b⟩ := r
      have := hn st b hs
      show (if Net.right okA st = true then _ else _) = _
      rw [if_neg (by rw [this]; decide)]
  unfold script_Decode.f
  rw [nums8_len, if_pos hl, if_neg (by omega)]
  show some ((Net.decR okA (bl (strOfNums (nums8 l))) _ 4096 0).1.map ofSt, ((Net.decR okA (bl (strOfNums (nums8 l))) _ 4096 0).2.1 : Int), (Net.decR okA (bl (strOfNums (nums8 l))) _ 4096 0).2.2) = _
  rw [bl_nums, e]
  rfl
theorem decode_nil : script_Decode.f [] = some ([], 0, 0) := by
  have h : script_Decode.f (nums8 []) = some ([], 0, 0) := by
    unfold script_Decode.f
    rw [nums8_len, if_pos (by decide), if_neg (by decide)]
    show some ((Net.decR okA (bl (strOfNums (nums8 []))) _ 4096 0).1.map ofSt, ((Net.decR okA (bl (strOfNums (nums8 []))) _ 4096 0).2.1 : Int), (Net.decR okA (bl (strOfNums (nums8 []))) _ 4096 0).2.2) = _
    rw [bl_nums]
    have e : Net.decR okA [] (([] : List UInt8).length + 1) 4096 0 = ([], 0, 0) := by
      rw [Net.decR, if_neg (by decide)]
    rw [e]
    rfl
  exact h
theorem decode_more {s : S29} {l : List S29} (hs : FewL [s]) (hl : FewL l) (rs : rightS s = true) (rl : l.all rightS = true) :
    script_Decode.f (nums8 (Net.encs (Net.parts (toSt s)) ++ Net.encS (l.map toSt))) = some (s :: l, (((Net.encs (Net.parts (toSt s))).length + (Net.encS (l.map toSt)).length : Nat) : Int), 0) := by
  have h1 := encS_le [s] hs.2.1 hs.2.2
  have h2 := encS_le l hl.2.1 hl.2.2
  have e : Net.encS ((s :: l).map toSt) = Net.encs (Net.parts (toSt s)) ++ Net.encS (l.map toSt) := by rw [List.map_cons, Net.encS_cons]
  have e1 : Net.encS ([s].map toSt) = Net.encs (Net.parts (toSt s)) := by rw [List.map_cons, List.map_nil, Net.encS_cons, Net.encS_nil, List.append_nil]
  rw [e1] at h1
  have q1 := hs.2.2
  have q2 := hl.2.2
  have q3 := hl.1
  have q4 := encS_len ((s :: l).map toSt)
  have d := decode_of (list := (s :: l).map toSt) (fun x hx => by
    obtain ⟨y, hy, rfl⟩ := List.mem_map.1 hx
    rcases List.mem_cons.1 hy with rfl | hy
    · exact rs
    · exact List.all_eq_true.1 rl y hy) (fun x hx => by
    obtain ⟨y, hy, rfl⟩ := List.mem_map.1 hx
    rcases List.mem_cons.1 hy with rfl | hy
    · exact few_small hs.2.1 hs.2.2 _ (List.mem_map_of_mem (List.mem_singleton.2 rfl))
    · exact few_small hl.2.1 hl.2.2 _ (List.mem_map_of_mem hy)) (by rw [List.length_map, List.length_cons]; omega) (by rw [e, List.length_append]; simp only [List.length_singleton] at h1; omega) (by omega)
  rw [ofSt_all, e, List.length_append] at d
  exact d
structure Bx (w : World) (s : S29) (A4 : Option Addr) (c4 : Nat) (A7 : Option Addr) (c7 : Nat) (W : World) : Prop where
  bel : Below w.heap.size w W
  box : W.heap[w.heap.size]? = some (.cells #[.int .i64 s.f0, .string s.f1, .string s.f2, .bool s.f3, .slice A4 s.f4.length c4, .string s.f5, .string s.f6, .slice A7 s.f7.length c7] 29 (0, 0))
section
variable {w W W1 : World} {s : S29} {A4 A7 : Option Addr} {c4 c7 : Nat}
theorem Bx.step (h : Bx w s A4 c4 A7 c7 W) (hb : Below W.heap.size W W1) : Bx w s A4 c4 A7 c7 W1 := ⟨below_step h.bel hb, blk_below h.box hb⟩
theorem Bx.start : Bx w s A4 c4 A7 c7 (w.alloc (.cells #[.int .i64 s.f0, .string s.f1, .string s.f2, .bool s.f3, .slice A4 s.f4.length c4, .string s.f5, .string s.f6, .slice A7 s.f7.length c7] 29)) := ⟨below_alloc (Below.refl _ _) _, blk_new w _⟩
theorem Bx.get (h : Bx w s A4 c4 A7 c7 W) : W.cell? ⟨w.heap.size, 0, none⟩ = some (.int .i64 s.f0) ∧ W.cell? ⟨w.heap.size, 1, none⟩ = some (.string s.f1) ∧ W.cell? ⟨w.heap.size, 2, none⟩ = some (.string s.f2) ∧ W.cell? ⟨w.heap.size, 3, none⟩ = some (.bool s.f3) ∧ W.cell? ⟨w.heap.size, 4, none⟩ = some (.slice A4 s.f4.length c4) ∧ W.cell? ⟨w.heap.size, 5, none⟩ = some (.string s.f5) ∧ W.cell? ⟨w.heap.size, 6, none⟩ = some (.string s.f6) ∧ W.cell? ⟨w.heap.size, 7, none⟩ = some (.slice A7 s.f7.length c7) :=
  ⟨(blk_cell h.box 0).trans rfl, (blk_cell h.box 1).trans rfl, (blk_cell h.box 2).trans rfl, (blk_cell h.box 3).trans rfl, (blk_cell h.box 4).trans rfl, (blk_cell h.box 5).trans rfl, (blk_cell h.box 6).trans rfl, (blk_cell h.box 7).trans rfl⟩
def oneW (s : S29) (A4 : Option Addr) (c4 : Nat) (A7 : Option Addr) (c7 : Nat) (W : World) : World := W.alloc (.cells #[.int .i64 s.f0, .string s.f1, .string s.f2, .bool s.f3, .slice A4 s.f4.length c4, .string s.f5, .string s.f6, .slice A7 s.f7.length c7] 29)
theorem oneW_below : Below W.heap.size W (oneW s A4 c4 A7 c7 W) := below_alloc (Below.refl _ _) _
theorem one_C (h4 : s.f4.length ≤ c4) (C4 : Kd.C Kd.string W A4 s.f4.length s.f4) (h7 : s.f7.length ≤ c7) (C7 : Kd.C k44 W A7 s.f7.length s.f7) : Kd.C k29 (oneW s A4 c4 A7 c7 W) (some ⟨W.heap.size, 0, none⟩) [s].length [s] := by
  have hb := blk_new W (.cells #[.int .i64 s.f0, .string s.f1, .string s.f2, .bool s.f3, .slice A4 s.f4.length c4, .string s.f5, .string s.f6, .slice A7 s.f7.length c7] 29 (0, 0))
  refine ⟨rfl, by simp, fun _ => ⟨_, rfl, fun j p hj => ?_⟩⟩
  match j, hj with
  | 0, hj =>
    obtain rfl : p = s := (Option.some.inj hj).symm
    refine ⟨_, rfl, k29_mk (oneW p A4 c4 A7 c7 W) p h4 (Kd.C_below C4 oneW_below) h7 (Kd.C_below C7 oneW_below), fun i u hu => ?_⟩
    rw [show 0 * k29.sz + i = i by omega, add_plain]
    refine (blk_cell hb i).trans ?_
    rw [← Array.getElem?_toList]
    exact hu
end
end Go.Proofs.YtdhpcofnddkcaaaGreatDoor.S
namespace Go.Proofs.YtdhpcofnddkcaaaGreatDoor.S
open Go.RowKit Go.Proofs.YtdhpcofnddkcaaaGreatDoor.G Go.Proofs.YtdhpcofnddkcaaaGreatDoorW.PrintWords Go.Proofs.YtdhpcofnddkcaaaGreatDoorW.PrintLast Go.Proofs.YtdhpcofnddkcaaaGreatDoorW.PrintMore
set_option linter.unusedVariables false
set_option linter.unusedSimpArgs false
structure Fst (s : S29) (g : Nat) (B4 : Option Addr) (d4 : Nat) (B7 : Option Addr) (d7 : Nat) (W : World) : Prop where
  get : W.cell? ⟨g, 0, none⟩ = some (.int .i64 s.f0) ∧ W.cell? ⟨g, 1, none⟩ = some (.string s.f1) ∧ W.cell? ⟨g, 2, none⟩ = some (.string s.f2) ∧ W.cell? ⟨g, 3, none⟩ = some (.bool s.f3) ∧ W.cell? ⟨g, 4, none⟩ = some (.slice B4 s.f4.length d4) ∧ W.cell? ⟨g, 5, none⟩ = some (.string s.f5) ∧ W.cell? ⟨g, 6, none⟩ = some (.string s.f6) ∧ W.cell? ⟨g, 7, none⟩ = some (.slice B7 s.f7.length d7)
  l4 : s.f4.length ≤ d4
  C4 : Kd.C Kd.string W B4 s.f4.length s.f4
  l7 : s.f7.length ≤ d7
  C7 : Kd.C k44 W B7 s.f7.length s.f7
theorem Fst.step {s : S29} {g : Nat} {B4 : Option Addr} {d4 : Nat} {B7 : Option Addr} {d7 : Nat} {W W1 : World} (h : Fst s g B4 d4 B7 d7 W) (hb : Below W.heap.size W W1) : Fst s g B4 d4 B7 d7 W1 := by
  obtain ⟨q0, q1, q2, q3, q4, q5, q6, q7⟩ := h.get
  exact ⟨⟨pw_cell_below hb q0, pw_cell_below hb q1, pw_cell_below hb q2, pw_cell_below hb q3, pw_cell_below hb q4, pw_cell_below hb q5, pw_cell_below hb q6, pw_cell_below hb q7⟩, h.l4, Kd.C_below h.C4 hb, h.l7, Kd.C_below h.C7 hb⟩
theorem first_step {W : World} {base : Nat} {ok : Nat → Prop} {v : Value} {s : S29} {l : List S29} (h : Kd.S k29 29 W base ok v (s :: l)) :
    ∃ g cap B4 d4 B7 d7, v = .slice (some ⟨g, 0, none⟩) (l.length + 1) cap ∧ Fst s g B4 d4 B7 d7 W := by
  obtain ⟨-, inner, ho, hr⟩ := Kd.S_R h
  obtain ⟨g, cap, hv, -, -⟩ := ho.form (show 0 < (s :: l).length from Nat.succ_pos _)
  have hM := hr.2 0 s rfl
  rw [Nat.zero_mul, List.drop_zero] at hM
  obtain ⟨v4, v7, hc, g4, g7⟩ := k29_openM hM
  obtain ⟨B4, d4, rfl⟩ := Kd.R_slice g4
  obtain ⟨B7, d7, rfl⟩ := Kd.R_slice g7
  have hcell : ∀ j u, (inner.take 8)[j]? = some u → W.cell? ⟨g, j, none⟩ = some u := fun j u hj => by
    have h1 := ho.cells (g := g) (by rw [hv]; rfl) j u (by
      rw [List.getElem?_take] at hj
      split at hj
      · exact hj
      · cases hj)
    rwa [add_plain] at h1
  have hc2 : inner.take 8 = _ := hc
  rw [hc2] at hcell
  refine ⟨g, cap, B4, d4, B7, d7, hv, ⟨⟨hcell 0 _ rfl, hcell 1 _ rfl, hcell 2 _ rfl, hcell 3 _ rfl, hcell 4 _ rfl, hcell 5 _ rfl, hcell 6 _ rfl, hcell 7 _ rfl⟩, (Kd.R_reads' g4).2.1, (Kd.R_reads' g4).2.2, (Kd.R_reads' g7).2.1, (Kd.R_reads' g7).2.2⟩⟩
theorem C_bytes {w W : World} {a b : List Int} {base : Nat} {v : Value} {na nb : List Value} (hown : W.ownsRow base 5 1 v (a.length + b.length) (na ++ nb))
    (ra : Reps ((Kd.int .u8).K w) 1 a na) (rb : Reps ((Kd.int .u8).K w) 1 b nb) : ∃ A c, v = .slice A (a ++ b).length c ∧ (a ++ b).length ≤ c ∧ Kd.C (Kd.int .u8) W A (a ++ b).length (a ++ b) := by
  have hr : Reps ((Kd.int .u8).K W) 1 (a ++ b) (na ++ nb) := (Reps.app_ ra rb).imp_ (fun p c hp => hp)
  have hlen : (a ++ b).length = a.length + b.length := List.length_append
  obtain ⟨A, c, he, hC⟩ := own_reads_row hown hr hlen
  refine ⟨A, c, by rw [hlen]; exact he, ?_, by rw [hlen]; exact hC⟩
  subst he
  rw [hlen]
  rcases hown.2 with ⟨he, h0⟩ | ⟨g, cap, cur, he, _, _, hnc, _⟩
  · omega
  · injection he with _ _ hc
    subst hc
    exact hnc
end Go.Proofs.YtdhpcofnddkcaaaGreatDoor.S
