/- ScriptMany: for every int the call returns true (Text 6 of 6: what the law's proof rests on, joined; walks printed by the kit's print over given contracts, walks and plain laws by hand.) -/
import Derived.IntWalk
import Derived.Lib.Hide
import Derived.Test.YtdhpcofnddkcaaaGreatDoorMan0
import Derived.Test.YtdhpcofnddkcaaaGreatDoorMan1
import Derived.Test.YtdhpcofnddkcaaaGreatDoorMan2
import Derived.Test.YtdhpcofnddkcaaaGreatDoorMan3
import Derived.Test.YtdhpcofnddkcaaaGreatDoorMan4
namespace Go.Proofs.YtdhpcofnddkcaaaGreatDoor.S
open Go.RowKit Go.Proofs.YtdhpcofnddkcaaaGreatDoor.G Go.Proofs.YtdhpcofnddkcaaaGreatDoorW.PrintWords Go.Proofs.YtdhpcofnddkcaaaGreatDoorW.PrintLast Go.Proofs.YtdhpcofnddkcaaaGreatDoorW.PrintMore
attribute [local go_sem] max2_int min2_int max_two min_two max_three min_three max_four min_four
set_option linter.unusedVariables false
set_option linter.unusedSimpArgs false
def DecEnd (r0 : List S29) (r1 r2 : Int) (w : World) (e : Ending) (w' : World) : Prop :=
  ∃ v, e = .returned (.tuple #[v, .int .i64 r1, .int .i64 r2]) ∧ Kd.S k29 29 w' w.heap.size (fun _ => True) v r0 ∧ Below w.heap.size w w'
def DecRel (s : ByteArray) (L : List S29) (n : Nat) (e : Int) (w : World) (g fuel a : Nat) (v : Value) (w' : World) : Prop :=
  ∃ xs : List S29, xs.length ≤ 4096 ∧ a ≤ s.size ∧ s.size < fuel + a ∧ L = xs ++ (Net.decR okA (Net.lb s) fuel (4096 - xs.length) a).1.map ofSt ∧ n = (Net.decR okA (Net.lb s) fuel (4096 - xs.length) a).2.1 ∧ e = (Net.decR okA (Net.lb s) fuel (4096 - xs.length) a).2.2 ∧
    IsS71 w w' g s (a : Int) false ∧ Kd.S k29 29 w' w.heap.size (fun k => k ≠ g) v xs ∧ Below w.heap.size w w'
set_option maxHeartbeats 8000000 in
set_option maxRecDepth 100000 in
theorem decode_any (A : Option Addr) (c : Nat) (l : List Int) (w : World) (hr : Kd.C (Kd.int .u8) w A l.length l) (hc : l.length ≤ c) (hl : l.length ≤ 262144) (k : Nat) (s : ByteArray) (hs : strOfNums l = s) (hsz : s.size = l.length)
    (hS : ∀ a : Nat, a < s.size → match Net.stepR (Net.lb s) a with
      | some (st, b) => script_reader_step.f k s (a : Int) false = some ((ofSt st).f0, (ofSt st).f1, (ofSt st).f2, (ofSt st).f3, (ofSt st).f4, (ofSt st).f5, (ofSt st).f6, (ofSt st).f7, s, (b : Int), false) ∧ (Net.right okA st = true → a < b) ∧ b ≤ s.size ∧
          script_Step_Right.f k (ofSt st).f0 (ofSt st).f1 (ofSt st).f2 (ofSt st).f3 (ofSt st).f4 (ofSt st).f5 (ofSt st).f6 (ofSt st).f7 = some (Net.right okA st)
      | none => ∃ (q : Int) (t b : ByteArray) (o : Bool) (ws : List ByteArray) (n m : ByteArray) (ags : List S44) (a1 : Int), script_reader_step.f k s (a : Int) false = some (q, t, b, o, ws, n, m, ags, s, a1, true))
    (L : List S29) (n : Nat) (e : Int) (h1 : L = (Net.decR okA (Net.lb s) (l.length + 1) 4096 0).1.map ofSt) (h2 : n = (Net.decR okA (Net.lb s) (l.length + 1) 4096 0).2.1) (h3 : e = (Net.decR okA (Net.lb s) (l.length + 1) 4096 0).2.2)
    (HT : Tab_ w) (HP : TabP_ w) (HE : TabE_ w) :
    Calls Tryz.prog 15 #[.slice A l.length c] w (DecEnd L n e w) := by
  have n1 : decide ((262144 : Int) < (l.length : Int)) = false := decide_eq_false (by omega)
  have n2 : (l.length : Int) ≤ 262144 := by omega
  have hcv : (convert 32 9 (.slice A l.length c)).run Tryz.prog w = .ok (.string s) w := by
    rw [← hs]
    exact Kd.C_string Tryz.underlying32 Tryz.underlying5 Tryz.underlying9 hr
  have HS := Lib.hid hS
  have HC := Lib.hid hr
  have H1 := Lib.hid h1
  have H2 := Lib.hid h2
  have H3 := Lib.hid h3
  have HSZ := Lib.hid hsz
  have m1 : (s.size : Int) ≤ 262144 := by omega
  clear hS hr hs h1 h2 h3 hsz
  go_enter Tryz.func15, Tryz.ntmps15
  go_wp2
  go_loopg [6] (l.length + 1) (fun fuel v6 w' => ∃ a : Nat, DecRel s L n e w w.heap.size fuel a v6 w')
  case atStart =>
    have hI := IsS71.new w w s 0 false (Below.refl _ _)
    refine ⟨0, [], by simp, by omega, by have := HSZ.out; omega, H1.out, H2.out, H3.out, hI, Kd.S_nil _ _ _ _ _, below_alloc (Below.refl _ _) _⟩
  case round =>
    obtain ⟨a, xs, hx, ha, hf, g1, g2, g3, hI, hv, hb⟩ := hrel
    have k0 := cellS71_0 hI.1
    have k1 := cellS71_1 hI.1
    have k2 := cellS71_2 hI.1
    have HI := Lib.hid hI
    have HV := Lib.hid hv
    have HB := Lib.hid hb
    obtain ⟨Ax, cx, rfl⟩ := Kd.S_slice hv
    clear hI hv hb
    by_cases hlt : a < s.size
    · have q0 : decide (a < s.size) = true := decide_eq_true hlt
      have HG1 := Lib.hid g1
      have HG2 := Lib.hid g2
      have HG3 := Lib.hid g3
      have HF := Lib.hid hf
      have HA := Lib.hid hlt
      have HX := Lib.hid hx
      clear g1 g2 g3 hf hlt ha hx
      go_wp2
      go_quiet (fail)
      go_upto_region 7 with (fail)
      have cS := HS.out a HA.out
      have HTw := Tab_.step HT HB.out
      have HPw := TabP_.step HP HB.out
      have HEw := TabE_.step HE HB.out
      cases hst : Net.stepR (Net.lb s) a with
      | none =>
        rw [hst] at cS
        obtain ⟨q, t, b, o, ws, nm, mm, ags, a1, hf⟩ := cS
        have cC := script_reader_step.calls k w.heap.size s (a : Int) false q t b o ws nm mm ags s a1 true w (wr.drewN nq) (IsS71.drewN HI.out nq) (pw_below_drewN HB.out nq) hf HT HP HE
        have HST := Lib.hid hst
        clear hst hf
        go_upto_region 8 with (first
          | (go_at_call 25; refine cC.mono ?_; rintro e1 W1 ⟨v4, v7, rfl, h4, h7, hI1, hb1, hk1⟩; obtain ⟨A4, c4, rfl⟩ := Kd.R_slice h4; obtain ⟨A7, c7, rfl⟩ := Kd.R_slice h7; have HI1 := Lib.hid hI1; have HB1 := Lib.hid hb1; have HK1 := Lib.hid hk1; clear h4 h7 hI1 hb1 hk1)
          | ((with_reducible refine gate_dst (N := 8) rfl ?_); (try (refine gate_guard (by rfl) ?_; dsimp only)); refine box_event ?hg (N := 8) ?hd (cs := #[.int .i64 0, .string (⟨#[]⟩ : ByteArray), .string (⟨#[]⟩ : ByteArray), .bool false, .slice none 0 0, .string (⟨#[]⟩ : ByteArray), .string (⟨#[]⟩ : ByteArray), .slice none 0 0]) (t := 29) ?hr ?_; (case hd => rfl); (case hg => rfl); (case hr => first | (go_simp; done) | (go_simp; rfl)); intro gb hg W2 hbox hb; have hfz0 := blk_frozen hbox 0; have hfz1 := blk_frozen hbox 1; have hfz2 := blk_frozen hbox 2; have hfz3 := blk_frozen hbox 3; have hfz4 := blk_frozen hbox 4; have hfz5 := blk_frozen hbox 5; have hfz6 := blk_frozen hbox 6; have hfz7 := blk_frozen hbox 7; have hc0 := blk_cell hbox 0; have hc1 := blk_cell hbox 1; have hc2 := blk_cell hbox 2; have hc3 := blk_cell hbox 3; have hc4 := blk_cell hbox 4; have hc5 := blk_cell hbox 5; have hc6 := blk_cell hbox 6; have hc7 := blk_cell hbox 7; have HBX := Lib.hid hbox; have HBB := Lib.hid hb; have HGB := Lib.hid hg; clear hbox hb hg))
        have hgb : gb = W1.heap.size := HGB.out
        have BK := blk_put8 HBX.out (.int .i64 q) (.string t) (.string b) (.bool o) (.slice A4 ws.length c4) (.string nm) (.string mm) (.slice A7 ags.length c7)
        have HS8 := below_set8 HBB.out (by omega : W1.heap.size ≤ gb) (.int .i64 q) (.string t) (.string b) (.bool o) (.slice A4 ws.length c4) (.string nm) (.string mm) (.slice A7 ags.length c7)
        generalize ((((((((W2.setCell ⟨gb, 0, none⟩ (.int .i64 q)).setCell ⟨gb, 1, none⟩ (.string t)).setCell ⟨gb, 2, none⟩ (.string b)).setCell ⟨gb, 3, none⟩ (.bool o)).setCell ⟨gb, 4, none⟩ (.slice A4 ws.length c4)).setCell ⟨gb, 5, none⟩ (.string nm)).setCell ⟨gb, 6, none⟩ (.string mm)).setCell ⟨gb, 7, none⟩ (.slice A7 ags.length c7)) = W3 at BK HS8 ⊢
        have hI3 := HI1.out.below HS8
        have hB3 := below_step HB1.out HS8
        have hV3 := Kd.S_below (Kd.S_keep (Kd.S_drewN (Kd.S_mono (Kd.S_bound HV.out) (fun k_ hk_ => (⟨hk_.1, Nat.not_le.2 hk_.2.2.1⟩ : k_ ≠ w.heap.size ∧ ¬ wr.heap.size ≤ k_))) nq) HK1.out (fun _ h => h.1)) HS8
        clear HS8 BK hgb hfz0 hfz1 hfz2 hfz3 hfz4 hfz5 hfz6 hfz7 hc0 hc1 hc2 hc3 hc4 hc5 hc6 hc7 HBX HBB HGB k0 k1 k2 cC
        have y0 := cellS71_0 hI3.1
        have y1 := cellS71_1 hI3.1
        have y2 := cellS71_2 hI3.1
        have HI3 := Lib.hid hI3
        have HB3 := Lib.hid hB3
        have HV3 := Lib.hid hV3
        clear hI3 hB3 hV3
        have hD : Net.decR okA (Net.lb s) gk (4096 - xs.length) a = ([], a, 2) := by
          obtain ⟨m, hm⟩ : ∃ m, gk = m + 1 := ⟨gk - 1, by have := HF.out; have := HA.out; omega⟩
          have hl : a < (Net.lb s).length := by
            have := Lib.size_eq s
            have := HA.out
            show a < s.data.toList.length
            omega
          rw [hm, Net.decR, if_pos hl, HST.out]
        have g1 := HG1.out
        have g2 := HG2.out
        have g3 := HG3.out
        rw [hD] at g1 g2 g3
        have e1 : L = xs := by rw [g1]; simp
        have e2 : n = a := g2
        have e3 : e = 2 := g3
        subst e1 e2 e3
        clear hD g1 g2 g3 HG1 HG2 HG3 H1 H2 H3
        go_wp2
        go_ret3
        exact ⟨_, rfl, Kd.S_mono HV3.out (fun _ _ => trivial), HB3.out⟩
      | some r =>
        obtain ⟨st, b⟩ := r
        rw [hst] at cS
        obtain ⟨hf, hab, hbs, hRt⟩ := cS
        generalize hxx : ofSt st = x at hf hRt
        have cC := script_reader_step.calls k w.heap.size s (a : Int) false x.f0 x.f1 x.f2 x.f3 x.f4 x.f5 x.f6 x.f7 s b false w (wr.drewN nq) (IsS71.drewN HI.out nq) (pw_below_drewN HB.out nq) hf HT HP HE
        have HST := Lib.hid hst
        have HXX := Lib.hid hxx
        have HRT := Lib.hid hRt
        have HAB := Lib.hid hab
        have HBS := Lib.hid hbs
        clear hst hf hxx hRt hab hbs
        go_upto_region 8 with (first
          | (go_at_call 25; refine cC.mono ?_; rintro e1 W1 ⟨v4, v7, rfl, h4, h7, hI1, hb1, hk1⟩; obtain ⟨A4, c4, rfl⟩ := Kd.R_slice h4; obtain ⟨A7, c7, rfl⟩ := Kd.R_slice h7; have HI1 := Lib.hid hI1; have HB1 := Lib.hid hb1; have HK1 := Lib.hid hk1; have H4 := Lib.hid h4; have H7 := Lib.hid h7; clear h4 h7 hI1 hb1 hk1)
          | ((with_reducible refine gate_dst (N := 8) rfl ?_); (try (refine gate_guard (by rfl) ?_; dsimp only)); refine box_event ?hg (N := 8) ?hd (cs := #[.int .i64 0, .string (⟨#[]⟩ : ByteArray), .string (⟨#[]⟩ : ByteArray), .bool false, .slice none 0 0, .string (⟨#[]⟩ : ByteArray), .string (⟨#[]⟩ : ByteArray), .slice none 0 0]) (t := 29) ?hr ?_; (case hd => rfl); (case hg => rfl); (case hr => first | (go_simp; done) | (go_simp; rfl)); intro gb hg W2 hbox hb; have hfz0 := blk_frozen hbox 0; have hfz1 := blk_frozen hbox 1; have hfz2 := blk_frozen hbox 2; have hfz3 := blk_frozen hbox 3; have hfz4 := blk_frozen hbox 4; have hfz5 := blk_frozen hbox 5; have hfz6 := blk_frozen hbox 6; have hfz7 := blk_frozen hbox 7; have hc0 := blk_cell hbox 0; have hc1 := blk_cell hbox 1; have hc2 := blk_cell hbox 2; have hc3 := blk_cell hbox 3; have hc4 := blk_cell hbox 4; have hc5 := blk_cell hbox 5; have hc6 := blk_cell hbox 6; have hc7 := blk_cell hbox 7; have HBX := Lib.hid hbox; have HBB := Lib.hid hb; have HGB := Lib.hid hg; clear hbox hb hg))
        have hgb : gb = W1.heap.size := HGB.out
        have BK := blk_put8 HBX.out (.int .i64 x.f0) (.string x.f1) (.string x.f2) (.bool x.f3) (.slice A4 x.f4.length c4) (.string x.f5) (.string x.f6) (.slice A7 x.f7.length c7)
        have HS8 := below_set8 HBB.out (by omega : W1.heap.size ≤ gb) (.int .i64 x.f0) (.string x.f1) (.string x.f2) (.bool x.f3) (.slice A4 x.f4.length c4) (.string x.f5) (.string x.f6) (.slice A7 x.f7.length c7)
        generalize ((((((((W2.setCell ⟨gb, 0, none⟩ (.int .i64 x.f0)).setCell ⟨gb, 1, none⟩ (.string x.f1)).setCell ⟨gb, 2, none⟩ (.string x.f2)).setCell ⟨gb, 3, none⟩ (.bool x.f3)).setCell ⟨gb, 4, none⟩ (.slice A4 x.f4.length c4)).setCell ⟨gb, 5, none⟩ (.string x.f5)).setCell ⟨gb, 6, none⟩ (.string x.f6)).setCell ⟨gb, 7, none⟩ (.slice A7 x.f7.length c7)) = W3 at BK HS8 ⊢
        have hI3 := HI1.out.below HS8
        have hB3 := below_step HB1.out HS8
        have hV3 := Kd.S_below (Kd.S_keep (Kd.S_drewN (Kd.S_mono (Kd.S_bound HV.out) (fun k_ hk_ => (⟨hk_.1, Nat.not_le.2 hk_.2.2.1⟩ : k_ ≠ w.heap.size ∧ ¬ wr.heap.size ≤ k_))) nq) HK1.out (fun _ h => h.1)) HS8
        have h43 := Kd.R_below H4.out HS8
        have h73 := Kd.R_below H7.out HS8
        have hN : wr.heap.size ≤ W3.heap.size := by have := HK1.out.1; have := HS8.size; simp at *; omega
        clear HS8 hgb hfz0 hfz1 hfz2 hfz3 hfz4 hfz5 hfz6 hfz7 hc0 hc1 hc2 hc3 hc4 hc5 hc6 hc7 HBX HBB HGB k0 k1 k2 cC
        have y0 := cellS71_0 hI3.1
        have y1 := cellS71_1 hI3.1
        have y2 := cellS71_2 hI3.1
        have HI3 := Lib.hid hI3
        have HB3 := Lib.hid hB3
        have HV3 := Lib.hid hV3
        clear hI3 hB3 hV3
        have hxl := HX.out
        have hlt : a < (Net.lb s).length := by
          have := Lib.size_eq s
          have := HA.out
          show a < s.data.toList.length
          omega
        obtain ⟨m, hm⟩ : ∃ m, gk = m + 1 := ⟨gk - 1, by have := HF.out; have := HA.out; omega⟩
        subst hm
        have z0 := blk_cell BK 0
        have z1 := blk_cell BK 1
        have z2 := blk_cell BK 2
        have z3 := blk_cell BK 3
        have z4 := blk_cell BK 4
        have z5 := blk_cell BK 5
        have z6 := blk_cell BK 6
        have z7 := blk_cell BK 7
        have cR := script_Step_Right.calls k x.f0 x.f1 x.f2 x.f3 A4 c4 x.f4 x.f5 x.f6 A7 c7 x.f7 (Net.right okA st) W3 (Kd.R_reads' h43).2.2 (Kd.R_reads' h43).2.1 (Kd.R_reads' h73).2.2 (Kd.R_reads' h73).2.1 HRT.out (Tab_.step HT HB3.out) (TabP_.step HP HB3.out) (TabE_.step HE HB3.out)
        have BK3 := Lib.hid BK
        have H43 := Lib.hid h43
        have H73 := Lib.hid h73
        have HNN := Lib.hid hN
        have HLT := Lib.hid hlt
        clear BK h43 h73 hN hlt
        by_cases hRx : Net.right okA st = true
        · rw [hRx] at cR
          have HRX := Lib.hid hRx
          clear hRx
          by_cases hfull : xs.length = 4096
          · have hD : Net.decR okA (Net.lb s) (m + 1) (4096 - xs.length) a = ([], a, 4) := by
              rw [Net.decR, if_pos HLT.out, HST.out]
              show (if Net.right okA st = true then _ else _) = _
              rw [if_pos HRX.out, if_pos (by omega)]
            have g1 := HG1.out
            have g2 := HG2.out
            have g3 := HG3.out
            rw [hD] at g1 g2 g3
            have e1 : L = xs := by rw [g1]; simp
            have e2 : n = a := g2
            have e3 : e = 4 := g3
            subst e1 e2 e3
            have q1 : ((L.length : Int) == 4096) = true := by rw [hfull]; rfl
            clear hD g1 g2 g3 HG1 HG2 HG3 H1 H2 H3 hfull hxl HX
            go_wp2_with ((go_at_call 11; refine cR.mono ?_; rintro e1 W5 ⟨rfl, b5⟩; have HB5 := Lib.hid (below_step HB3.out b5); have HV5 := Lib.hid (Kd.S_below HV3.out b5); clear b5))
            go_ret3
            exact ⟨_, rfl, Kd.S_mono HV5.out (fun _ _ => trivial), HB5.out⟩
          · have q1 : ((xs.length : Int) == 4096) = false := by
              rw [beq_eq_false_iff_ne]
              omega
            have q2 : (xs.length : Int) ≤ 4095 := by omega
            have hD : Net.decR okA (Net.lb s) (m + 1) (4096 - xs.length) a = (st :: (Net.decR okA (Net.lb s) m (4096 - (xs.length + 1)) b).1, (Net.decR okA (Net.lb s) m (4096 - (xs.length + 1)) b).2.1, (Net.decR okA (Net.lb s) m (4096 - (xs.length + 1)) b).2.2) := by
              rw [Net.decR, if_pos HLT.out, HST.out]
              show (if Net.right okA st = true then _ else _) = _
              rw [if_pos HRX.out, if_neg (by omega), show 4096 - xs.length - 1 = 4096 - (xs.length + 1) by omega]
            have g1 := HG1.out
            have g2 := HG2.out
            have g3 := HG3.out
            rw [hD] at g1 g2 g3
            rw [List.map_cons, HXX.out] at g1
            have HG4 := Lib.hid g1
            have HG5 := Lib.hid g2
            have HG6 := Lib.hid g3
            have hx5 : xs.length ≤ 4095 := by omega
            have HX5 := Lib.hid hx5
            clear hD g1 g2 g3 HG1 HG2 HG3 H1 H2 H3 hfull hxl HX hx5
            go_wp2_with (first
              | (go_at_call 11; refine cR.mono ?_; rintro e1 W5 ⟨rfl, b5⟩; have BK5 := blk_below BK3.out b5; have t0 := blk_cell BK5 0; have t1 := blk_cell BK5 1; have t2 := blk_cell BK5 2; have t3 := blk_cell BK5 3; have t4 := blk_cell BK5 4; have t5 := blk_cell BK5 5; have t6 := blk_cell BK5 6; have t7 := blk_cell BK5 7; have HB5 := Lib.hid (below_step HB3.out b5); have HV5 := Lib.hid (Kd.S_below HV3.out b5); have HI5 := Lib.hid (HI3.out.below b5); have H45 := Lib.hid (Kd.R_below H43.out b5); have H75 := Lib.hid (Kd.R_below H73.out b5); clear b5 BK5)
              | (at_builtin; refine Kd.S_append k29 (w0 := w) w.heap.size rfl (.tmp 48) (.tmp 50) 22 29 _ 128 rfl Tryz.underlying22 info29 rfl (by decide) (by decide) (.slice Ax xs.length cx) xs x [.int .i64 x.f0, .string x.f1, .string x.f2, .bool x.f3, .slice A4 x.f4.length c4, .string x.f5, .string x.f6, .slice A7 x.f7.length c7] (fun k_ => k_ ≠ w.heap.size) (fun k_ => wr.heap.size ≤ k_) rfl rfl ?c1 ?c2 ?c3 HV5.out HB5.out HB5.out.size ?c4 ?_))
            case c1 => exact k29_mkM _ _ _ x (Kd.R_lower (Kd.R_mono (Kd.R_bound H45.out) (fun _ hk => hk.2.1)) HB.out.size) (Kd.R_lower (Kd.R_mono (Kd.R_bound H75.out) (fun _ hk => hk.2.1)) HB.out.size)
            case c2 => exact fun k_ hk_ => ⟨by have := HI.out.lt; omega, fun he => by have := Kd.S_lt HV.out k_ he.symm; omega⟩
            case c3 => exact fun k_ hk_ => by have := HI5.out.lt; omega
            case c4 => have := HX5.out; omega
            intro v1 W6 hv1 hb1 hg1 hat
            have hI6 := HI5.out.grown hg1 (IsS71.own_neS HI.out HV.out (by decide))
            have HI6 := Lib.hid hI6
            have HV6 := Lib.hid hv1
            have HB6 := Lib.hid hb1
            clear hI6 hv1 hb1 hg1 hat
            go_wp2
            go_roundg m
            case measure => omega
            case rel =>
              refine ⟨b, xs ++ [x], ?_, HBS.out, ?_, ?_, ?_, ?_, HI6.out, HV6.out, HB6.out⟩
              · rw [List.length_append]
                have := HX5.out
                simp
                omega
              · have := HF.out
                have := HAB.out HRX.out
                omega
              · rw [HG4.out, List.length_append, List.append_assoc]
                rfl
              · rw [HG5.out, List.length_append]
                rfl
              · rw [HG6.out, List.length_append]
                rfl
        · have hRf : Net.right okA st = false := by simpa using hRx
          rw [hRf] at cR
          have hD : Net.decR okA (Net.lb s) (m + 1) (4096 - xs.length) a = ([], a, 2) := by
            rw [Net.decR, if_pos HLT.out, HST.out]
            show (if Net.right okA st = true then _ else _) = _
            rw [if_neg hRx]
          have g1 := HG1.out
          have g2 := HG2.out
          have g3 := HG3.out
          rw [hD] at g1 g2 g3
          have e1 : L = xs := by rw [g1]; simp
          have e2 : n = a := g2
          have e3 : e = 2 := g3
          subst e1 e2 e3
          clear hD g1 g2 g3 HG1 HG2 HG3 H1 H2 H3 hRx hRf hxl HX
          go_wp2_with ((go_at_call 11; refine cR.mono ?_; rintro e1 W5 ⟨rfl, b5⟩; have HB5 := Lib.hid (below_step HB3.out b5); have HV5 := Lib.hid (Kd.S_below HV3.out b5); clear b5))
          go_ret3
          exact ⟨_, rfl, Kd.S_mono HV5.out (fun _ _ => trivial), HB5.out⟩
    · have q0 : decide (a < s.size) = false := decide_eq_false hlt
      have hD : Net.decR okA (Net.lb s) gk (4096 - xs.length) a = ([], a, 0) := by
        obtain ⟨m, rfl⟩ : ∃ m, gk = m + 1 := ⟨gk - 1, by omega⟩
        have : ¬ a < (Net.lb s).length := by
          have := Lib.size_eq s
          show ¬ a < s.data.toList.length
          omega
        rw [Net.decR, if_neg this]
      rw [hD] at g1 g2 g3
      have e1 : L = xs := by rw [g1]; simp
      have e2 : n = a := g2
      have e3 : e = 0 := g3
      subst e1 e2 e3
      clear hD g1 g2 g3 hf hlt ha hx H1 H2 H3
      go_wp2
      go_quiet (fail)
      go_wp2
      go_quiet (fail)
      go_wp2
      go_ret3
      exact ⟨_, rfl, Kd.S_mono (Kd.S_drewN (Kd.S_drewN HV.out _) _) (fun _ _ => trivial), pw_below_drewN (pw_below_drewN HB.out _) _⟩
end Go.Proofs.YtdhpcofnddkcaaaGreatDoor.S
namespace Go.Proofs.YtdhpcofnddkcaaaGreatDoor.S
open Go.RowKit Go.Proofs.YtdhpcofnddkcaaaGreatDoor.G Go.Proofs.YtdhpcofnddkcaaaGreatDoorW.PrintWords Go.Proofs.YtdhpcofnddkcaaaGreatDoorW.PrintLast Go.Proofs.YtdhpcofnddkcaaaGreatDoorW.PrintMore
set_option linter.unusedVariables false
set_option linter.unusedSimpArgs false
theorem tx_none (s : ByteArray) (hs : s.size ≤ 1000000) (a : Nat) (ha : a ≤ s.size) : script_reader_text.f s (a : Int) true = some (Net.em, s, (a : Int), true) := by
  unfold script_reader_text.f
  rw [if_pos ⟨hs, by omega, by omega⟩, if_pos rfl]
  rfl
theorem tx_fail (s : ByteArray) (hs : s.size ≤ 1000000) (a : Nat) (ha : a ≤ s.size) (h : Net.rdB (bl s) a = none) : script_reader_text.f s (a : Int) false = some (Net.em, s, (a : Int), true) := by
  unfold script_reader_text.f
  rw [if_pos ⟨hs, by omega, by omega⟩, if_neg (by decide), Int.toNat_natCast]
  show (match Net.rdB (bl s) a with | some (p, b) => _ | none => _) = _
  rw [h]
  rfl
theorem tx_ok (s : ByteArray) (hs : s.size ≤ 1000000) (a : Nat) (ha : a ≤ s.size) {p : ByteArray} {b : Nat} (h : Net.rdB (bl s) a = some (p, b)) : script_reader_text.f s (a : Int) false = some (p, s, (b : Int), false) ∧ b ≤ s.size := by
  have hz : s.size = (bl s).length := sz s
  refine ⟨?_, ?_⟩
  · unfold script_reader_text.f
    rw [if_pos ⟨hs, by omega, by omega⟩, if_neg (by decide), Int.toNat_natCast]
    show (match Net.rdB (bl s) a with | some (p, b) => _ | none => _) = _
    rw [h]
  · obtain ⟨_, h2, h3⟩ := Net.rdB_sound h
    have := Net.drop_le h3 (by omega)
    omega
theorem cnt_em : Net.cnt (bl Net.em) = none := by
  cases h : Net.cnt (bl Net.em) with
  | none => rfl
  | some n => exact absurd (Net.cnt_some h).2.symm (Net.dec_ne n)
theorem count_none {p : ByteArray} (hp : p.size ≤ 281474976710656) (h : Net.cnt (bl p) = none) : ∃ v, script_count.f p = some (v, false) := by
  obtain ⟨v, b, h1, h2⟩ := count_cnt p hp
  have h2' : (match Net.cnt (bl p) with | some n => v = (n : Int) ∧ b = true | none => b = false) := h2
  rw [h] at h2'
  have : b = false := h2'
  subst this
  exact ⟨v, h1⟩
theorem count_some {p : ByteArray} {n : Nat} (hp : p.size ≤ 281474976710656) (h : Net.cnt (bl p) = some n) : script_count.f p = some ((n : Int), true) := by
  obtain ⟨v, b, h1, h2⟩ := count_cnt p hp
  have h2' : (match Net.cnt (bl p) with | some n => v = (n : Int) ∧ b = true | none => b = false) := h2
  rw [h] at h2'
  obtain ⟨rfl, rfl⟩ : v = (n : Int) ∧ b = true := h2'
  exact h1
theorem num_none (s : ByteArray) (hs : s.size ≤ 1000000) (a : Nat) (ha : a ≤ s.size) : script_reader_number.f s (a : Int) true = some (0, s, (a : Int), true) := by
  obtain ⟨v, hv⟩ := count_none (p := Net.em) (by decide) cnt_em
  unfold script_reader_number.f
  rw [tx_none s hs a ha, Option.bind_some, hv, Option.bind_some]
  rfl
theorem num_fail (s : ByteArray) (hs : s.size ≤ 1000000) (a : Nat) (ha : a ≤ s.size) (h : Net.rdB (bl s) a = none) : script_reader_number.f s (a : Int) false = some (0, s, (a : Int), true) := by
  obtain ⟨v, hv⟩ := count_none (p := Net.em) (by decide) cnt_em
  unfold script_reader_number.f
  rw [tx_fail s hs a ha h, Option.bind_some, hv, Option.bind_some]
  rfl
theorem num_no (s : ByteArray) (hs : s.size ≤ 1000000) (a : Nat) (ha : a ≤ s.size) {p : ByteArray} {b : Nat} (h : Net.rdB (bl s) a = some (p, b)) (hc : Net.cnt (bl p) = none) : script_reader_number.f s (a : Int) false = some (0, s, (b : Int), true) ∧ b ≤ s.size := by
  obtain ⟨h1, h2⟩ := tx_ok s hs a ha h
  obtain ⟨v, hv⟩ := count_none (p := p) (by
    have h3 : (bl p).length ≤ 262144 := (Net.rdB_sound h).1
    have := sz p
    omega) hc
  refine ⟨?_, h2⟩
  unfold script_reader_number.f
  rw [h1, Option.bind_some, hv, Option.bind_some]
  rfl
theorem num_ok (s : ByteArray) (hs : s.size ≤ 1000000) (a : Nat) (ha : a ≤ s.size) {p : ByteArray} {b n : Nat} (h : Net.rdB (bl s) a = some (p, b)) (hc : Net.cnt (bl p) = some n) : script_reader_number.f s (a : Int) false = some ((n : Int), s, (b : Int), false) ∧ b ≤ s.size := by
  obtain ⟨h1, h2⟩ := tx_ok s hs a ha h
  have hv := count_some (p := p) (by
    have h3 : (bl p).length ≤ 262144 := (Net.rdB_sound h).1
    have := sz p
    omega) hc
  refine ⟨?_, h2⟩
  unfold script_reader_number.f
  rw [h1, Option.bind_some, hv, Option.bind_some]
  rfl
abbrev RT := Int × ByteArray × ByteArray × Bool × List ByteArray × ByteArray × ByteArray × (List (S44)) × ByteArray × Int × Bool
def Fails (s : ByteArray) (r : Option RT) : Prop := ∃ (q : Int) (t b : ByteArray) (o : Bool) (ws : List ByteArray) (n m : ByteArray) (ags : List S44) (a : Nat), r = some (q, t, b, o, ws, n, m, ags, s, (a : Int), true)
def Reads (s : ByteArray) (st : S29) (b : Nat) (r : Option RT) : Prop := r = some (st.f0, st.f1, st.f2, st.f3, st.f4, st.f5, st.f6, st.f7, s, (b : Int), false) ∧ b ≤ s.size
theorem wish_loop (s : ByteArray) (hs : s.size ≤ 1000000) (q : Int) (t b0 : ByteArray) (o : Bool) (nm at_ : ByteArray) : ∀ (n a : Nat) (acc : List ByteArray), a ≤ s.size → acc.length + n ≤ 1000000 → ∀ k, n + 2 ≤ k →
    match Net.rdN (bl s) n a with
    | some (ws, b) => script_reader_step.l0 k (n : Int) s (a : Int) false q t b0 o acc nm at_ = some (q, t, b0, o, acc ++ ws, nm, at_, [], s, (b : Int), false) ∧ b ≤ s.size
    | none => Fails s (script_reader_step.l0 k (n : Int) s (a : Int) false q t b0 o acc nm at_) := by
  intro n
  induction n with
  | zero =>
    intro a acc ha hacc k hk
    obtain ⟨m, rfl⟩ : ∃ m, k = m + 1 := ⟨k - 1, by omega⟩
    show script_reader_step.l0 (m + 1) ((0 : Nat) : Int) s (a : Int) false q t b0 o acc nm at_ = some (q, t, b0, o, acc ++ [], nm, at_, [], s, (a : Int), false) ∧ a ≤ s.size
    rw [script_reader_step.l0, if_neg (by omega), List.append_nil]
    exact ⟨rfl, ha⟩
  | succ n ih =>
    intro a acc ha hacc k hk
    obtain ⟨m, rfl⟩ : ∃ m, k = m + 1 := ⟨k - 1, by omega⟩
    rw [Net.rdN]
    cases h : Net.rdB (bl s) a with
    | none =>
      show Fails s _
      obtain ⟨j, rfl⟩ : ∃ j, m = j + 1 := ⟨m - 1, by omega⟩
      rw [script_reader_step.l0, if_pos (by omega), if_neg (by decide), tx_fail s hs a ha h, Option.bind_some, if_pos (by omega), script_reader_step.l0]
      by_cases hp : wrap64 (((n + 1 : Nat) : Int) - 1) > 0
      · rw [if_pos hp, if_pos rfl]
        exact ⟨_, _, _, _, _, _, _, _, _, rfl⟩
      · rw [if_neg hp]
        exact ⟨_, _, _, _, _, _, _, _, _, rfl⟩
    | some r =>
      obtain ⟨p, b⟩ := r
      obtain ⟨h1, h2⟩ := tx_ok s hs a ha h
      have hstep : script_reader_step.l0 (m + 1) ((n + 1 : Nat) : Int) s (a : Int) false q t b0 o acc nm at_ = script_reader_step.l0 m (n : Int) s (b : Int) false q t b0 o (acc ++ [p]) nm at_ := by
        rw [script_reader_step.l0, if_pos (by omega), if_neg (by decide), h1, Option.bind_some, if_pos (by omega), w64 _ (by omega) (by omega), show ((n + 1 : Nat) : Int) - 1 = (n : Int) by omega]
      have := ih b (acc ++ [p]) h2 (by simp; omega) m (by omega)
      rw [hstep]
      show (match (match Net.rdN (bl s) n b with | none => none | some (ts, a2) => some (p :: ts, a2)) with
        | some (ws, b) => _
        | none => _)
      cases h3 : Net.rdN (bl s) n b with
      | none =>
        rw [h3] at this
        exact this
      | some r2 =>
        obtain ⟨ws, c⟩ := r2
        rw [h3] at this
        obtain ⟨e1, e2⟩ : _ ∧ _ := this
        refine ⟨?_, e2⟩
        rw [e1, List.append_assoc]
        rfl
end Go.Proofs.YtdhpcofnddkcaaaGreatDoor.S
namespace Go.Proofs.YtdhpcofnddkcaaaGreatDoor.S
open Go.RowKit Go.Proofs.YtdhpcofnddkcaaaGreatDoor.G Go.Proofs.YtdhpcofnddkcaaaGreatDoorW.PrintWords Go.Proofs.YtdhpcofnddkcaaaGreatDoorW.PrintLast Go.Proofs.YtdhpcofnddkcaaaGreatDoorW.PrintMore
set_option linter.unusedVariables false
set_option linter.unusedSimpArgs false
theorem arg_stop (s : ByteArray) (q : Int) (t b0 : ByteArray) (o : Bool) (nm at_ : ByteArray) (acc : List S44) (x : Int) (a : Nat) (k : Nat) (hk : 2 ≤ k) : Fails s (script_reader_step.l1 k x s (a : Int) true q t b0 o nm at_ acc) := by
  obtain ⟨m, rfl⟩ : ∃ m, k = m + 1 + 1 := ⟨k - 2, by omega⟩
  rw [script_reader_step.l1]
  by_cases h : x > 0
  · rw [if_pos h, script_reader_step.j2, if_neg (by decide)]
    exact ⟨_, _, _, _, _, _, _, _, _, rfl⟩
  · rw [if_neg h, script_reader_step.j2, if_neg (by decide)]
    exact ⟨_, _, _, _, _, _, _, _, _, rfl⟩
theorem idx_f (k : ByteArray) : strings_Index.f (⟨#[116, 110, 109]⟩ : ByteArray) k = some (Net.kindOf k) := by
  unfold strings_Index.f
  rw [if_pos (by decide)]
  rfl
theorem arg_loop (s : ByteArray) (hs : s.size ≤ 1000000) (q : Int) (t b0 : ByteArray) (o : Bool) (nm at_ : ByteArray) : ∀ (n a : Nat) (acc : List S44), a ≤ s.size → acc.length + n ≤ 1000000 → ∀ k, 2 * n + 4 ≤ k →
    match Net.rdA (bl s) n a with
    | some (ags, b) => script_reader_step.l1 k (n : Int) s (a : Int) false q t b0 o nm at_ acc = some (q, t, b0, o, [], nm, at_, acc ++ ags.map ofAr, s, (b : Int), false) ∧ b ≤ s.size
    | none => Fails s (script_reader_step.l1 k (n : Int) s (a : Int) false q t b0 o nm at_ acc) := by
  intro n
  induction n with
  | zero =>
    intro a acc ha hacc k hk
    obtain ⟨m, rfl⟩ : ∃ m, k = m + 1 + 1 := ⟨k - 2, by omega⟩
    show script_reader_step.l1 (m + 1 + 1) ((0 : Nat) : Int) s (a : Int) false q t b0 o nm at_ acc = some (q, t, b0, o, [], nm, at_, acc ++ [], s, (a : Int), false) ∧ a ≤ s.size
    rw [script_reader_step.l1, if_neg (by omega), script_reader_step.j2, if_neg (by decide), List.append_nil]
    exact ⟨rfl, ha⟩
  | succ n ih =>
    intro a acc ha hacc k hk
    obtain ⟨m, rfl⟩ : ∃ m, k = m + 1 + 1 := ⟨k - 2, by omega⟩
    have hin : script_reader_step.l1 (m + 1 + 1) ((n + 1 : Nat) : Int) s (a : Int) false q t b0 o nm at_ acc = script_reader_step.j2 (m + 1) ((n + 1 : Nat) : Int) true s (a : Int) false q t b0 o nm at_ acc := by
      rw [script_reader_step.l1, if_pos (by omega)]
      rfl
    rw [hin, script_reader_step.j2, if_pos rfl, Net.rdA]
    have hx : wrap64 (((n + 1 : Nat) : Int) - 1) = (n : Int) := by rw [w64 _ (by omega) (by omega)]; omega
    cases h : Net.rdB (bl s) a with
    | none =>
      show Fails s _
      rw [tx_fail s hs a ha h, Option.bind_some, tx_none s hs a ha, Option.bind_some, idx_f, Option.bind_some, tx_none s hs a ha, Option.bind_some, if_pos rfl, if_pos (by omega)]
      exact arg_stop s q t b0 o nm at_ _ _ a m (by omega)
    | some r =>
      obtain ⟨p, b⟩ := r
      obtain ⟨h1, h2⟩ := tx_ok s hs a ha h
      rw [h1, Option.bind_some]
      cases hk2 : Net.rdB (bl s) b with
      | none =>
        simp only [hk2]
        rw [tx_fail s hs b h2 hk2, Option.bind_some, idx_f, Option.bind_some, tx_none s hs b h2, Option.bind_some, if_pos rfl, if_pos (by omega)]
        exact arg_stop s q t b0 o nm at_ _ _ b m (by omega)
      | some r =>
        obtain ⟨kk, c⟩ := r
        obtain ⟨h3, h4⟩ := tx_ok s hs b h2 hk2
        simp only [hk2]
        rw [h3, Option.bind_some, idx_f, Option.bind_some]
        cases hk3 : Net.rdB (bl s) c with
        | none =>
          simp only []
          rw [tx_fail s hs c h4 hk3, Option.bind_some, if_pos rfl, if_pos (by omega)]
          exact arg_stop s q t b0 o nm at_ _ _ c m (by omega)
        | some r =>
          obtain ⟨tx, d⟩ := r
          obtain ⟨h5, h6⟩ := tx_ok s hs c h4 hk3
          simp only []
          have hzk : kk.size = (Net.lb kk).length := sz kk
          by_cases hl : (Net.lb kk).length = 1
          · rw [if_pos hl, h5, Option.bind_some, if_neg Bool.false_ne_true, if_pos (by omega), hx]
            have hb : ((kk.size : Int) != 1) = false := by rw [hzk, hl]; rfl
            show (match (match Net.rdA (bl s) n d with | none => none | some (ags, a4) => some ((p, Net.kindOf kk, tx) :: ags, a4)) with
              | some (ags, b) => script_reader_step.l1 m (n : Int) s (d : Int) ((kk.size : Int) != 1) q t b0 o nm at_ (acc ++ [(⟨p, Net.kindOf kk, tx⟩ : S44)]) = _ ∧ _
              | none => Fails s (script_reader_step.l1 m (n : Int) s (d : Int) ((kk.size : Int) != 1) q t b0 o nm at_ (acc ++ [(⟨p, Net.kindOf kk, tx⟩ : S44)])))
            rw [hb]
            have := ih d (acc ++ [(⟨p, Net.kindOf kk, tx⟩ : S44)]) h6 (by simp; omega) m (by omega)
            cases h7 : Net.rdA (bl s) n d with
            | none =>
              rw [h7] at this
              exact this
            | some r2 =>
              obtain ⟨ags, e⟩ := r2
              rw [h7] at this
              obtain ⟨e1, e2⟩ : _ ∧ _ := this
              refine ⟨?_, e2⟩
              rw [e1, List.append_assoc]
              rfl
          · rw [if_neg hl, h5, Option.bind_some, if_neg Bool.false_ne_true, if_pos (by omega), hx]
            have hb : ((kk.size : Int) != 1) = true := by
              rw [bne_iff_ne]
              omega
            show Fails s (script_reader_step.l1 m (n : Int) s (d : Int) ((kk.size : Int) != 1) q t b0 o nm at_ (acc ++ [(⟨p, Net.kindOf kk, tx⟩ : S44)]))
            rw [hb]
            exact arg_stop s q t b0 o nm at_ _ _ d m (by omega)
theorem toL (t : ByteArray) (c : UInt8) : (t.toList = [c]) = (t = ⟨#[c]⟩) := by
  rw [tl, eq_iff_iff]
  exact ⟨fun h => ba_ext h, fun h => by rw [h]⟩
theorem step_f (s : ByteArray) (hs : s.size ≤ 1000000) (a : Nat) (ha : a ≤ s.size) (k : Nat) (hk : 600000 ≤ k) :
    match Net.stepR (bl s) a with
    | some (st, b) => Reads s (ofSt st) b (script_reader_step.f k s (a : Int) false)
    | none => Fails s (script_reader_step.f k s (a : Int) false) := by
  unfold script_reader_step.f Net.stepR
  cases h0 : Net.rdB (bl s) a with
  | none =>
    simp only []
    rw [tx_fail s hs a ha h0, Option.bind_some, if_neg (show ¬ Net.em.toList = [97] by rw [tl]; decide), if_neg (show ¬ Net.em.toList = [99] by rw [tl]; decide), if_neg (show ¬ Net.em.toList = [113] by rw [tl]; decide)]
    exact ⟨_, _, _, _, _, _, _, _, _, rfl⟩
  | some r =>
    obtain ⟨t, a0⟩ := r
    obtain ⟨x0, y0⟩ := tx_ok s hs a ha h0
    simp only []
    rw [x0, Option.bind_some]
    simp only [toL]
    by_cases hA : t = Net.cA
    · rw [if_pos hA, if_pos (show t = ⟨#[97]⟩ from hA)]
      cases h1 : Net.rdB (bl s) a0 with
      | none =>
        simp only []
        rw [tx_fail s hs a0 y0 h1, Option.bind_some, tx_none s hs a0 y0, Option.bind_some, if_pos rfl, tx_none s hs a0 y0, Option.bind_some]
        exact ⟨_, _, _, _, _, _, _, _, _, rfl⟩
      | some r =>
        obtain ⟨tag, a1⟩ := r
        obtain ⟨x1, y1⟩ := tx_ok s hs a0 y0 h1
        simp only []
        rw [x1, Option.bind_some]
        cases h2 : Net.rdB (bl s) a1 with
        | none =>
          simp only []
          rw [tx_fail s hs a1 y1 h2, Option.bind_some, if_pos rfl, tx_none s hs a1 y1, Option.bind_some]
          exact ⟨_, _, _, _, _, _, _, _, _, rfl⟩
        | some r =>
          obtain ⟨ov, a2⟩ := r
          obtain ⟨x2, y2⟩ := tx_ok s hs a1 y1 h2
          simp only []
          have hov1 : (ov.toList == ([49] : List UInt8)) = decide (ov = Net.c1) := by
            rw [tl]
            by_cases h : ov = Net.c1
            · rw [decide_eq_true h, h]; rfl
            · rw [decide_eq_false h]
              exact beq_eq_false_iff_ne.2 fun e => h (ba_ext e)
          by_cases hc0 : ov = Net.c0
          · rw [if_pos (Or.inl hc0), x2, Option.bind_some, if_neg Bool.false_ne_true, if_pos (show ov = ⟨#[48]⟩ from hc0)]
            cases h3 : Net.rdB (bl s) a2 with
            | none =>
              simp only []
              rw [tx_fail s hs a2 y2 h3, Option.bind_some]
              exact ⟨_, _, _, _, _, _, _, _, _, rfl⟩
            | some r =>
              obtain ⟨by_, a3⟩ := r
              obtain ⟨x3, y3⟩ := tx_ok s hs a2 y2 h3
              simp only []
              rw [x3, Option.bind_some, hov1]
              exact ⟨rfl, y3⟩
          · by_cases hc1 : ov = Net.c1
            · have hb : (ov.toList != ([49] : List UInt8)) = false := by
                show (!(ov.toList == ([49] : List UInt8))) = false
                rw [hov1, decide_eq_true hc1]
                rfl
              rw [if_pos (Or.inr hc1), x2, Option.bind_some, if_neg Bool.false_ne_true, if_neg (show ¬ ov = ⟨#[48]⟩ from hc0), hb]
              cases h3 : Net.rdB (bl s) a2 with
              | none =>
                simp only []
                rw [tx_fail s hs a2 y2 h3, Option.bind_some]
                exact ⟨_, _, _, _, _, _, _, _, _, rfl⟩
              | some r =>
                obtain ⟨by_, a3⟩ := r
                obtain ⟨x3, y3⟩ := tx_ok s hs a2 y2 h3
                simp only []
                rw [x3, Option.bind_some, hov1]
                exact ⟨rfl, y3⟩
            · have hb : (ov.toList != ([49] : List UInt8)) = true := by
                show (!(ov.toList == ([49] : List UInt8))) = true
                rw [hov1, decide_eq_false hc1]
                rfl
              rw [if_neg (show ¬ (ov = Net.c0 ∨ ov = Net.c1) from fun h => h.elim hc0 hc1), x2, Option.bind_some, if_neg Bool.false_ne_true, if_neg (show ¬ ov = ⟨#[48]⟩ from hc0), hb, tx_none s hs a2 y2, Option.bind_some]
              exact ⟨_, _, _, _, _, _, _, _, _, rfl⟩
    · rw [if_neg hA, if_neg (show ¬ t = ⟨#[97]⟩ from hA)]
      by_cases hC : t = Net.cC
      · rw [if_pos hC, if_pos (show t = ⟨#[99]⟩ from hC)]
        cases h1 : Net.rdB (bl s) a0 with
        | none =>
          simp only []
          rw [tx_fail s hs a0 y0 h1, Option.bind_some, num_none s hs a0 y0, Option.bind_some]
          obtain ⟨m, rfl⟩ : ∃ m, k = m + 1 := ⟨k - 1, by omega⟩
          rw [script_reader_step.l0, if_neg (by show ¬ (0 : Int) > 0; decide)]
          exact ⟨_, _, _, _, _, _, _, _, _, rfl⟩
        | some r =>
          obtain ⟨tag, a1⟩ := r
          obtain ⟨x1, y1⟩ := tx_ok s hs a0 y0 h1
          simp only []
          rw [x1, Option.bind_some]
          cases h2 : Net.rdB (bl s) a1 with
          | none =>
            simp only []
            rw [num_fail s hs a1 y1 h2, Option.bind_some]
            obtain ⟨m, rfl⟩ : ∃ m, k = m + 1 := ⟨k - 1, by omega⟩
            rw [script_reader_step.l0, if_neg (by show ¬ (0 : Int) > 0; decide)]
            exact ⟨_, _, _, _, _, _, _, _, _, rfl⟩
          | some r =>
            obtain ⟨cn, a2⟩ := r
            simp only []
            cases hc : Net.cnt (Net.lb cn) with
            | none =>
              obtain ⟨x2, y2⟩ := num_no s hs a1 y1 h2 hc
              simp only []
              rw [x2, Option.bind_some]
              obtain ⟨m, rfl⟩ : ∃ m, k = m + 1 := ⟨k - 1, by omega⟩
              rw [script_reader_step.l0, if_neg (by show ¬ (0 : Int) > 0; decide)]
              exact ⟨_, _, _, _, _, _, _, _, _, rfl⟩
            | some n =>
              obtain ⟨x2, y2⟩ := num_ok s hs a1 y1 h2 hc
              have hn := (Net.cnt_some hc).1
              simp only []
              rw [x2, Option.bind_some]
              have := wish_loop s hs 1 tag (⟨#[]⟩ : ByteArray) false (⟨#[]⟩ : ByteArray) (⟨#[]⟩ : ByteArray) n a2 [] y2 (by simp; omega) k (by omega)
              cases h3 : Net.rdN (bl s) n a2 with
              | none =>
                rw [h3] at this
                exact this
              | some r =>
                obtain ⟨ws, b⟩ := r
                rw [h3] at this
                exact this
      · rw [if_neg hC, if_neg (show ¬ t = ⟨#[99]⟩ from hC)]
        by_cases hQ : t = Net.cQ
        · rw [if_pos hQ, if_pos (show t = ⟨#[113]⟩ from hQ)]
          cases h1 : Net.rdB (bl s) a0 with
          | none =>
            simp only []
            rw [tx_fail s hs a0 y0 h1, Option.bind_some, tx_none s hs a0 y0, Option.bind_some, num_none s hs a0 y0, Option.bind_some]
            exact arg_stop s _ _ _ _ _ _ _ _ a0 k (by omega)
          | some r =>
            obtain ⟨nm, a1⟩ := r
            obtain ⟨x1, y1⟩ := tx_ok s hs a0 y0 h1
            simp only []
            rw [x1, Option.bind_some]
            cases h2 : Net.rdB (bl s) a1 with
            | none =>
              simp only []
              rw [tx_fail s hs a1 y1 h2, Option.bind_some, num_none s hs a1 y1, Option.bind_some]
              exact arg_stop s _ _ _ _ _ _ _ _ a1 k (by omega)
            | some r =>
              obtain ⟨at_, a2⟩ := r
              obtain ⟨x2, y2⟩ := tx_ok s hs a1 y1 h2
              simp only []
              rw [x2, Option.bind_some]
              cases h3 : Net.rdB (bl s) a2 with
              | none =>
                simp only []
                rw [num_fail s hs a2 y2 h3, Option.bind_some]
                exact arg_stop s _ _ _ _ _ _ _ _ a2 k (by omega)
              | some r =>
                obtain ⟨cn, a3⟩ := r
                simp only []
                cases hc : Net.cnt (Net.lb cn) with
                | none =>
                  obtain ⟨x3, y3⟩ := num_no s hs a2 y2 h3 hc
                  simp only []
                  rw [x3, Option.bind_some]
                  exact arg_stop s _ _ _ _ _ _ _ _ a3 k (by omega)
                | some n =>
                  obtain ⟨x3, y3⟩ := num_ok s hs a2 y2 h3 hc
                  have hn := (Net.cnt_some hc).1
                  simp only []
                  rw [x3, Option.bind_some]
                  have := arg_loop s hs 2 (⟨#[]⟩ : ByteArray) (⟨#[]⟩ : ByteArray) false nm at_ n a3 [] y3 (by simp; omega) k (by omega)
                  cases h4 : Net.rdA (bl s) n a3 with
                  | none =>
                    rw [h4] at this
                    exact this
                  | some r =>
                    obtain ⟨ags, b⟩ := r
                    rw [h4] at this
                    exact this
        · rw [if_neg hQ, if_neg (show ¬ t = ⟨#[113]⟩ from hQ)]
          exact ⟨_, _, _, _, _, _, _, _, _, rfl⟩
end Go.Proofs.YtdhpcofnddkcaaaGreatDoor.S
namespace Go.Proofs.YtdhpcofnddkcaaaGreatDoor.Net
theorem rd_len {l p : List UInt8} {m : Nat} (h : rd l = some (p, m)) : p.length ≤ l.length := by
  obtain ⟨_, _, r, e⟩ := rd_sound h
  rw [e, List.length_append, enc_length]
  omega
theorem rdB_len {l : List UInt8} {a b : Nat} {p : ByteArray} (h : rdB l a = some (p, b)) : p.size ≤ l.length := by
  unfold rdB at h
  cases hr : rd (l.drop a) with
  | none => rw [hr] at h; cases h
  | some q =>
    rw [hr] at h
    obtain ⟨h1, -⟩ := Prod.mk.inj (Option.some.inj h)
    have := rd_len (p := q.1) (m := q.2) hr
    rw [List.length_drop] at this
    have e : p.size = (lb p).length := Lib.size_eq p
    rw [e, ← h1, lb_bs]
    omega
theorem rdA_len {l : List UInt8} : ∀ {n a b : Nat} {ags : List Ar}, rdA l n a = some (ags, b) → ags.length = n ∧ ∀ x ∈ ags, x.2.2.size ≤ l.length
  | 0, a, b, ags, h => by
    obtain ⟨h1, -⟩ := Prod.mk.inj (Option.some.inj h)
    subst h1
    exact ⟨rfl, fun x hx => by cases hx⟩
  | n + 1, a, b, ags, h => by
    unfold rdA at h
    cases h1 : rdB l a with
    | none => rw [h1] at h; cases h
    | some r1 =>
      obtain ⟨nm, a1⟩ := r1
      rw [h1] at h
      simp only at h
      cases h2 : rdB l a1 with
      | none => rw [h2] at h; cases h
      | some r2 =>
        obtain ⟨k, a2⟩ := r2
        rw [h2] at h
        simp only at h
        cases h3 : rdB l a2 with
        | none => rw [h3] at h; cases h
        | some r3 =>
          obtain ⟨tx, a3⟩ := r3
          rw [h3] at h
          simp only at h
          by_cases hk : (lb k).length = 1
          · rw [if_pos hk] at h
            cases h4 : rdA l n a3 with
            | none => rw [h4] at h; cases h
            | some r4 =>
              obtain ⟨t, a4⟩ := r4
              rw [h4] at h
              obtain ⟨e1, -⟩ := Prod.mk.inj (Option.some.inj h)
              subst e1
              obtain ⟨l1, l2⟩ := rdA_len h4
              refine ⟨by simp [l1], fun x hx => ?_⟩
              rcases List.mem_cons.1 hx with rfl | hx
              · exact rdB_len h3
              · exact l2 x hx
          · rw [if_neg hk] at h
            cases h
def argsOf (s : St) : List Ar := s.2.2.2.2.2.2.2
theorem stepR_len {l : List UInt8} {a b : Nat} {s : St} (h : stepR l a = some (s, b)) : (argsOf s).length ≤ 262144 ∧ ∀ x ∈ argsOf s, x.2.2.size ≤ l.length := by
  unfold stepR at h
  cases h1 : rdB l a with
  | none => rw [h1] at h; cases h
  | some r1 =>
    obtain ⟨t, a0⟩ := r1
    rw [h1] at h
    simp only at h
    by_cases c1 : t = cA
    · rw [if_pos c1] at h
      cases h2 : rdB l a0 with
      | none => rw [h2] at h; cases h
      | some r2 =>
        obtain ⟨tag, a1⟩ := r2
        rw [h2] at h
        simp only at h
        cases h3 : rdB l a1 with
        | none => rw [h3] at h; cases h
        | some r3 =>
          obtain ⟨ov, a2⟩ := r3
          rw [h3] at h
          simp only at h
          by_cases c2 : ov = c0 ∨ ov = Net.c1
          · rw [if_pos c2] at h
            cases h4 : rdB l a2 with
            | none => rw [h4] at h; cases h
            | some r4 =>
              rw [h4] at h
              obtain ⟨e1, -⟩ := Prod.mk.inj (Option.some.inj h)
              subst e1
              exact ⟨Nat.zero_le _, fun x hx => by cases hx⟩
          · rw [if_neg c2] at h
            cases h
    · rw [if_neg c1] at h
      by_cases c2 : t = cC
      · rw [if_pos c2] at h
        cases h2 : rdB l a0 with
        | none => rw [h2] at h; cases h
        | some r2 =>
          obtain ⟨tag, a1⟩ := r2
          rw [h2] at h
          simp only at h
          cases h3 : rdB l a1 with
          | none => rw [h3] at h; cases h
          | some r3 =>
            obtain ⟨cn, a2⟩ := r3
            rw [h3] at h
            simp only at h
            cases h4 : cnt (lb cn) with
            | none => rw [h4] at h; cases h
            | some n =>
              rw [h4] at h
              simp only at h
              cases h5 : rdN l n a2 with
              | none => rw [h5] at h; cases h
              | some r5 =>
                rw [h5] at h
                obtain ⟨e1, -⟩ := Prod.mk.inj (Option.some.inj h)
                subst e1
                exact ⟨Nat.zero_le _, fun x hx => by cases hx⟩
      · rw [if_neg c2] at h
        by_cases c3 : t = cQ
        · rw [if_pos c3] at h
          cases h2 : rdB l a0 with
          | none => rw [h2] at h; cases h
          | some r2 =>
            obtain ⟨nm, a1⟩ := r2
            rw [h2] at h
            simp only at h
            cases h3 : rdB l a1 with
            | none => rw [h3] at h; cases h
            | some r3 =>
              obtain ⟨at_, a2⟩ := r3
              rw [h3] at h
              simp only at h
              cases h4 : rdB l a2 with
              | none => rw [h4] at h; cases h
              | some r4 =>
                obtain ⟨cn, a3⟩ := r4
                rw [h4] at h
                simp only at h
                cases h5 : cnt (lb cn) with
                | none => rw [h5] at h; cases h
                | some n =>
                  rw [h5] at h
                  simp only at h
                  cases h6 : rdA l n a3 with
                  | none => rw [h6] at h; cases h
                  | some r6 =>
                    obtain ⟨ags, a4⟩ := r6
                    rw [h6] at h
                    obtain ⟨e1, -⟩ := Prod.mk.inj (Option.some.inj h)
                    subst e1
                    obtain ⟨l1, l2⟩ := rdA_len h6
                    have := (cnt_some h5).1
                    exact ⟨by show ags.length ≤ _; omega, l2⟩
        · rw [if_neg c3] at h
          cases h
end Go.Proofs.YtdhpcofnddkcaaaGreatDoor.Net
namespace Go.Proofs.YtdhpcofnddkcaaaGreatDoor.S
open Go.RowKit Go.Proofs.YtdhpcofnddkcaaaGreatDoor.G Go.Proofs.YtdhpcofnddkcaaaGreatDoorW.PrintWords Go.Proofs.YtdhpcofnddkcaaaGreatDoorW.PrintLast Go.Proofs.YtdhpcofnddkcaaaGreatDoorW.PrintMore
set_option linter.unusedVariables false
set_option linter.unusedSimpArgs false
theorem cat_enc (l : List S29) : catS (fun s => Net.parts (toSt s)) (fun p => Net.bs (Net.encB p)) l = Net.encS (l.map toSt) := by
  unfold catS Net.encS catT Net.encs
  rw [List.flatMap_map]
  rfl
theorem encs_memB {ps : List ByteArray} {p : ByteArray} (h : p ∈ ps) : (Net.encB p).length ≤ (Net.encs ps).length := by
  induction ps with
  | nil => cases h
  | cons a t ih =>
    rw [Net.encs_cons, List.length_append]
    rcases List.mem_cons.1 h with rfl | h
    · omega
    · have := ih h
      omega
theorem encs_count' (ps : List ByteArray) : ps.length ≤ (Net.encs ps).length := by
  induction ps with
  | nil => exact Nat.zero_le _
  | cons p t ih =>
    rw [Net.encs_cons, List.length_append, List.length_cons]
    have : 1 ≤ (Net.encB p).length := by unfold Net.encB; rw [Net.enc_length]; omega
    omega
theorem encS_mem' {L : List Net.St} {s : Net.St} (h : s ∈ L) : (Net.encs (Net.parts s)).length ≤ (Net.encS L).length := by
  induction L with
  | nil => cases h
  | cons a t ih =>
    rw [Net.encS_cons, List.length_append]
    rcases List.mem_cons.1 h with rfl | h
    · omega
    · have := ih h
      omega
theorem parts_pos (s : Net.St) : 0 < (Net.parts s).length := by
  obtain ⟨k, tag, by_, ov, ws, nm, at_, ags⟩ := s
  show 0 < (if k = 0 then [Net.cA, tag, if ov = true then Net.c1 else Net.c0, by_] else if k = 1 then [Net.cC, tag, Net.itoaB ws.length] ++ ws else [Net.cQ, nm, at_, Net.itoaB ags.length] ++ Net.argsT ags).length
  split
  · exact Nat.succ_pos _
  · split
    · simp
    · simp
theorem script_Encode.calls (A : Option Addr) (c : Nat) (l : List S29) (r0 : List Int) (r1 : Int) (w : World) (hr : Kd.C k29 w A l.length l) (hc : l.length ≤ c) (h : script_Encode.f l = some (r0, r1))
    (HT0_ : Tab_ w := by exact Tab_.step HT0_ (by repeat (first | (with_reducible first | exact HB.out | apply below_alloc | apply pw_below_drewN | apply below_drew1 | refine below_set ?_ (Aside0.out (by assumption))) | exact HB.out)))
    (HP0_ : TabP_ w := by exact TabP_.step HP0_ (by repeat (first | (with_reducible first | exact HB.out | apply below_alloc | apply pw_below_drewN | apply below_drew1 | refine below_set ?_ (Aside0.out (by assumption))) | exact HB.out)))
    (HE0_ : TabE_ w := by exact TabE_.step HE0_ (by repeat (first | (with_reducible first | exact HB.out | apply below_alloc | apply pw_below_drewN | apply below_drew1 | refine below_set ?_ (Aside0.out (by assumption))) | exact HB.out))) :
    Calls Tryz.prog 14 #[.slice A l.length c] w fun e w' => ∃ v, e = .returned (.tuple #[v, .int .i64 r1]) ∧ Kd.V (Kd.int .u8) 5 w' w.heap.size (fun k_ => w.heap.size ≤ k_) v r0 ∧ Below w.heap.size w w' := by
  unfold script_Encode.f at h
  by_cases hn : l.length ≤ 4096
  · rw [if_pos hn] at h
    by_cases hz : (Net.encS (l.map toSt)).length ≤ 1000000 ∧ (∀ s ∈ l, s.f4.length ≤ 1000000 ∧ s.f7.length ≤ 1000000 ∧ ∀ a ∈ s.f7, a.f2.size ≤ 100000)
    · rw [if_pos hz] at h
      obtain ⟨z1, z2⟩ := hz
      have hall : (l.map toSt).all (Net.right okA) = l.all rightS := by rw [List.all_map]; rfl
      rw [hall] at h
      refine encode_any A c l w hr hc hn 1000003 rightS (fun s => Net.parts (toSt s)) (fun p => Net.bs (Net.encB p)) (fun s hs => right_f s 1000003 (by have := (z2 s hs).2.1; omega) (z2 s hs).2.1 (z2 s hs).2.2) (fun s hs hrs => ⟨parts_f s hrs (z2 s hs).2.1 (z2 s hs).1 1000003 (by have := (z2 s hs).2.1; omega), parts_pos _, ?_⟩) (fun s hs hrs p hp => part_f p ?_) (by rw [cat_enc]; exact z1) HT0_ HP0_ HE0_ r0 r1 (fun h1 => ?_) (fun h1 => ?_)
      · have h1 := encs_count' (Net.parts (toSt s))
        have h2 := encS_mem' (List.mem_map_of_mem (f := toSt) hs)
        omega
      · have h1 := encs_memB hp
        have h2 := encS_mem' (List.mem_map_of_mem (f := toSt) hs)
        have h3 := encB_ge p
        omega
      · rw [if_pos h1] at h
        obtain ⟨e1, e2⟩ := Prod.mk.inj (Option.some.inj h)
        rw [cat_enc]
        exact ⟨e1.symm, e2.symm⟩
      · rw [if_neg (by rw [h1]; decide)] at h
        obtain ⟨e1, e2⟩ := Prod.mk.inj (Option.some.inj h)
        exact ⟨e1.symm, e2.symm⟩
    · rw [if_neg hz] at h
      cases h
  · rw [if_neg hn] at h
    obtain ⟨e1, e2⟩ := Prod.mk.inj (Option.some.inj h)
    subst e1 e2
    exact encode_many A c l w (by omega) hr.2.1
theorem script_Decode.calls (A : Option Addr) (c : Nat) (l : List Int) (r0 : List S29) (r1 r2 : Int) (w : World) (hr : Kd.C (Kd.int .u8) w A l.length l) (hc : l.length ≤ c) (h : script_Decode.f l = some (r0, r1, r2))
    (HT0_ : Tab_ w := by exact Tab_.step HT0_ (by repeat (first | (with_reducible first | exact HB.out | apply below_alloc | apply pw_below_drewN | apply below_drew1 | refine below_set ?_ (Aside0.out (by assumption))) | exact HB.out)))
    (HP0_ : TabP_ w := by exact TabP_.step HP0_ (by repeat (first | (with_reducible first | exact HB.out | apply below_alloc | apply pw_below_drewN | apply below_drew1 | refine below_set ?_ (Aside0.out (by assumption))) | exact HB.out)))
    (HE0_ : TabE_ w := by exact TabE_.step HE0_ (by repeat (first | (with_reducible first | exact HB.out | apply below_alloc | apply pw_below_drewN | apply below_drew1 | refine below_set ?_ (Aside0.out (by assumption))) | exact HB.out))) :
    Calls Tryz.prog 15 #[.slice A l.length c] w fun e w' => ∃ v, e = .returned (.tuple #[v, .int .i64 r1, .int .i64 r2]) ∧ Kd.S k29 29 w' w.heap.size (fun _ => True) v r0 ∧ Below w.heap.size w w' := by
  unfold script_Decode.f at h
  by_cases hl : l.length ≤ 100000
  · rw [if_pos hl, if_neg (by omega)] at h
    obtain ⟨e1, h⟩ := Prod.mk.inj (Option.some.inj h)
    obtain ⟨e2, e3⟩ := Prod.mk.inj h
    subst e1 e2 e3
    have hsz : (strOfNums l).size = l.length := by
      rw [sz]
      show (strOfNums l).data.toList.length = _
      rw [strOfNums_data]
      simp
    refine decode_any A c l w hr hc (by omega) 700000 (strOfNums l) rfl hsz (fun a ha => ?_) _ _ _ rfl rfl rfl HT0_ HP0_ HE0_
    have hst := step_f (strOfNums l) (by omega) a (by omega) 700000 (by omega)
    have e : bl (strOfNums l) = Net.lb (strOfNums l) := rfl
    rw [e] at hst
    cases hx : Net.stepR (Net.lb (strOfNums l)) a with
    | none =>
      rw [hx] at hst
      obtain ⟨q, t, b, o, ws, n, m, ags, a1, hf⟩ := hst
      exact ⟨q, t, b, o, ws, n, m, ags, (a1 : Int), hf⟩
    | some r =>
      obtain ⟨st, b⟩ := r
      rw [hx] at hst
      obtain ⟨hf, hb⟩ := hst
      refine ⟨hf, fun hrt => ?_, hb, ?_⟩
      · obtain ⟨-, hb2, -⟩ := Net.stepR_sound okA_kind hx hrt
        have h1 := encs_count' (Net.parts st)
        have h2 := parts_pos st
        omega
      · obtain ⟨n1, n2⟩ := Net.stepR_len hx
        have hln : (Net.lb (strOfNums l)).length ≤ 100000 := by
          have := Lib.size_eq (strOfNums l)
          show (strOfNums l).data.toList.length ≤ _
          omega
        have hf7 : (ofSt st).f7.length = (Net.argsOf st).length := by
          obtain ⟨k, tag, by_, ov, ws, nm, at_, ags⟩ := st
          show (ags.map ofAr).length = ags.length
          rw [List.length_map]
        have hrt := right_f (ofSt st) 700000 (by omega) (by omega) (fun x hx2 => by
          obtain ⟨k, tag, by_, ov, ws, nm, at_, ags⟩ := st
          have hx3 : x ∈ ags.map ofAr := hx2
          obtain ⟨y, hy, rfl⟩ := List.mem_map.1 hx3
          have := n2 y hy
          show y.2.2.size ≤ _
          omega)
        have e2 : rightS (ofSt st) = Net.right okA st := by
          show Net.right okA (toSt (ofSt st)) = _
          rw [toSt_of]
        rw [e2] at hrt
        exact hrt
  · rw [if_neg hl] at h
    cases h
end Go.Proofs.YtdhpcofnddkcaaaGreatDoor.S
namespace Go.Proofs.YtdhpcofnddkcaaaGreatDoor.S
open Go.RowKit Go.Proofs.YtdhpcofnddkcaaaGreatDoor.G Go.Proofs.YtdhpcofnddkcaaaGreatDoorW.PrintWords Go.Proofs.YtdhpcofnddkcaaaGreatDoorW.PrintLast Go.Proofs.YtdhpcofnddkcaaaGreatDoorW.PrintMore
attribute [local go_sem] max2_int min2_int max_two min_two max_three min_three max_four min_four
set_option linter.unusedVariables false
set_option linter.unusedSimpArgs false
namespace Sx4
theorem q0_ {p_ : Prop} (h_ : p_ := by repeat (first | (with_reducible first | exact HB.out | apply below_alloc | apply pw_below_drewN | apply below_drew1) | exact HB.out)) : p_ := h_
theorem q1_ {p_ : Prop} (h_ : p_ := by (with_reducible repeat (first | apply Kd.S_alloc | apply Kd.S_drewN | apply Kd.S_drew)); exact HO103.out) : p_ := h_
theorem q2_ {p_ : Prop} (h_ : p_ := by (try simp only [List.map_toArray, List.map_cons, List.map_nil]); first | done | rfl | (simp only [List.length_drop, List.length_take]; rfl)) : p_ := h_
theorem q3_ {p_ : Prop} (h_ : p_ := by first | rfl | (simp [errW_none, errW_some] <;> rfl) | (simp [*, errW_none, errW_some] <;> rfl)) : p_ := h_
theorem q4_ {p_ : Prop} (h_ : p_ := by (with_reducible repeat (first | apply Kd.V_alloc | apply Kd.V_drewN | apply Kd.V_drew)); exact HO106.out) : p_ := h_
theorem u0_ {p_ : Prop} (h_ : p_ := by first | (go_simp; done) | (go_simp; rfl)) : p_ := h_
theorem u1_ {p_ : Prop} (h_ : p_ := by exact (Reps.c8 (show Kd.M k29 _ _ _ (⟨1, (⟨#[101, 110]⟩ : ByteArray), (⟨#[]⟩ : ByteArray), false, ([] : List ByteArray), (⟨#[]⟩ : ByteArray), (⟨#[]⟩ : ByteArray), ([] : List (S44))⟩ : S29) [.int .i64 1, .string (⟨#[101, 110]⟩ : ByteArray), .string (⟨#[]⟩ : ByteArray), .bool false, .slice none 0 0, .string (⟨#[]⟩ : ByteArray), .string (⟨#[]⟩ : ByteArray), .slice none 0 0] from (k29_mkM _ _ _ (⟨1, (⟨#[101, 110]⟩ : ByteArray), (⟨#[]⟩ : ByteArray), false, ([] : List ByteArray), (⟨#[]⟩ : ByteArray), (⟨#[]⟩ : ByteArray), ([] : List (S44))⟩ : S29) (Kd.R_nil _ _ _ _ _) (Kd.R_nil _ _ _ _ _))) (Reps.none _ _))) : p_ := h_
end Sx4
open Sx4
def polyglotlaw18_head.f  : Option (Bool) := (script_Encode.f (([(⟨1, (⟨#[101, 110]⟩ : ByteArray), (⟨#[]⟩ : ByteArray), false, ([] : List ByteArray), (⟨#[]⟩ : ByteArray), (⟨#[]⟩ : ByteArray), ([] : List (S44))⟩ : S29)] : List (S29)))).bind fun bt104 => (if bt104.2 = 0 then (if (strOfNums bt104.1).toList = ([49, 58, 99, 44, 50, 58, 101, 110, 44, 49, 58, 48, 44] : List UInt8) then ((script_Decode.f bt104.1).bind fun bt108 => (if bt108.2.2 = 0 then (if bt108.2.1 = (bt104.1.length : Int) then (if (bt108.1.length : Int) = 1 then (if 0 < (bt108.1.length : Int) then (some (((rd_T29 bt108.1 0).f1).toList == ([101, 110] : List UInt8))) else (none)) else (some false)) else (some false)) else (some false))) else (some false)) else (some false))
set_option maxHeartbeats 8000000 in
set_option maxRecDepth 100000 in
theorem polyglotlaw18_head.calls  (r : Bool) (w : World) (h : polyglotlaw18_head.f  = some r) (HT0_ : Tab_ w := by exact Tab_.step HT0_ (by repeat (first | (with_reducible first | exact HB.out | apply below_alloc | apply pw_below_drewN | apply below_drew1 | refine below_set ?_ (Aside0.out (by assumption))) | exact HB.out))) (HP0_ : TabP_ w := by exact TabP_.step HP0_ (by repeat (first | (with_reducible first | exact HB.out | apply below_alloc | apply pw_below_drewN | apply below_drew1 | refine below_set ?_ (Aside0.out (by assumption))) | exact HB.out))) (HE0_ : TabE_ w := by exact TabE_.step HE0_ (by repeat (first | (with_reducible first | exact HB.out | apply below_alloc | apply pw_below_drewN | apply below_drew1 | refine below_set ?_ (Aside0.out (by assumption))) | exact HB.out))) :
  Calls Tryz.prog 9 #[] w fun e w' => e = .returned (.bool r) ∧ Below w.heap.size w w' := by
 have hu29 := Tryz.underlying29
 have HB := Aside0.mk (Below.refl w.heap.size w)
 have H : ((script_Encode.f (([(⟨1, (⟨#[101, 110]⟩ : ByteArray), (⟨#[]⟩ : ByteArray), false, ([] : List ByteArray), (⟨#[]⟩ : ByteArray), (⟨#[]⟩ : ByteArray), ([] : List (S44))⟩ : S29)] : List (S29)))).bind fun bt104 => (if bt104.2 = 0 then (if (strOfNums bt104.1).toList = ([49, 58, 99, 44, 50, 58, 101, 110, 44, 49, 58, 48, 44] : List UInt8) then ((script_Decode.f bt104.1).bind fun bt108 => (if bt108.2.2 = 0 then (if bt108.2.1 = (bt104.1.length : Int) then (if (bt108.1.length : Int) = 1 then (if 0 < (bt108.1.length : Int) then (some (((rd_T29 bt108.1 0).f1).toList == ([101, 110] : List UInt8))) else (none)) else (some false)) else (some false)) else (some false))) else (some false)) else (some false))) = some r := h
 clear h
 obtain ⟨y101, hy101⟩ : ∃ y_ : List (S29), y_ = (([(⟨1, (⟨#[101, 110]⟩ : ByteArray), (⟨#[]⟩ : ByteArray), false, ([] : List ByteArray), (⟨#[]⟩ : ByteArray), (⟨#[]⟩ : ByteArray), ([] : List (S44))⟩ : S29)] : List (S29))) := ⟨_, rfl⟩
 replace H : ((script_Encode.f y101).bind fun bt104 => (if bt104.2 = 0 then (if (strOfNums bt104.1).toList = ([49, 58, 99, 44, 50, 58, 101, 110, 44, 49, 58, 48, 44] : List UInt8) then ((script_Decode.f bt104.1).bind fun bt108 => (if bt108.2.2 = 0 then (if bt108.2.1 = (bt104.1.length : Int) then (if (bt108.1.length : Int) = 1 then (if 0 < (bt108.1.length : Int) then (some (((rd_T29 bt108.1 0).f1).toList == ([101, 110] : List UInt8))) else (none)) else (some false)) else (some false)) else (some false))) else (some false)) else (some false))) = some r := by first | (rw [hy101]; with_reducible exact H) | (have H2_ := (Option.bind_some _ _).symm.trans H; rw [hy101]; with_reducible exact H2_) | (have H2_ := (Option.bind_some _ _).symm.trans H; with_reducible exact H2_) | with_reducible exact H | (rw [hy101]; exact H) | exact H
 have Ny101 := Aside0.mk hy101
 clear hy101
 replace H := Option.bind_eq_some_iff.mp H
 obtain ⟨⟨t104, t107⟩, A10, H⟩ := H
 replace H : (if t107 = 0 then (if (strOfNums t104).toList = ([49, 58, 99, 44, 50, 58, 101, 110, 44, 49, 58, 48, 44] : List UInt8) then ((script_Decode.f t104).bind fun bt108 => (if bt108.2.2 = 0 then (if bt108.2.1 = (t104.length : Int) then (if (bt108.1.length : Int) = 1 then (if 0 < (bt108.1.length : Int) then (some (((rd_T29 bt108.1 0).f1).toList == ([101, 110] : List UInt8))) else (none)) else (some false)) else (some false)) else (some false))) else (some false)) else (some false)) = some r := H
 have A1 := Aside0.mk A10
 clear A10
 by_cases c2 : t107 = 0
 ·rw [if_pos c2] at H
  have c2b0 : (t107 == 0) = true := beq_iff_eq.mpr c2
  have c2b1 : (t107 != 0) = false := bne_eq_false_iff_eq.mpr c2
  clear c2
  by_cases c3 : (strOfNums t104).toList = ([49, 58, 99, 44, 50, 58, 101, 110, 44, 49, 58, 48, 44] : List UInt8)
  ·rw [if_pos c3] at H
   have c3b0 : ((strOfNums t104).toList == ([49, 58, 99, 44, 50, 58, 101, 110, 44, 49, 58, 48, 44] : List UInt8)) = true := beq_iff_eq.mpr c3
   have c3b1 : ((strOfNums t104).toList != ([49, 58, 99, 44, 50, 58, 101, 110, 44, 49, 58, 48, 44] : List UInt8)) = false := bne_eq_false_iff_eq.mpr c3
   clear c3
   replace H := Option.bind_eq_some_iff.mp H
   obtain ⟨⟨t108, t109, t110⟩, A40, H⟩ := H
   replace H : (if t110 = 0 then (if t109 = (t104.length : Int) then (if (t108.length : Int) = 1 then (if 0 < (t108.length : Int) then (some (((rd_T29 t108 0).f1).toList == ([101, 110] : List UInt8))) else (none)) else (some false)) else (some false)) else (some false)) = some r := H
   have A4 := Aside0.mk A40
   clear A40
   by_cases c5 : t110 = 0
   ·rw [if_pos c5] at H
    have c5b0 : (t110 == 0) = true := beq_iff_eq.mpr c5
    have c5b1 : (t110 != 0) = false := bne_eq_false_iff_eq.mpr c5
    clear c5
    by_cases c6 : t109 = (t104.length : Int)
    ·rw [if_pos c6] at H
     have c6b0 : (t109 == (t104.length : Int)) = true := beq_iff_eq.mpr c6
     have c6b1 : (t109 != (t104.length : Int)) = false := bne_eq_false_iff_eq.mpr c6
     clear c6
     by_cases c7 : (t108.length : Int) = 1
     ·rw [if_pos c7] at H
      have c7b0 : ((t108.length : Int) == 1) = true := beq_iff_eq.mpr c7
      have c7b1 : ((t108.length : Int) != 1) = false := bne_eq_false_iff_eq.mpr c7
      clear c7
      by_cases c8 : 0 < (t108.length : Int)
      ·rw [if_pos c8] at H
       have c8b0 : decide (0 < (t108.length : Int)) = true := decide_eq_true c8
       have c8b1 : decide (0 < t108.length) = true := decide_eq_true (by omega)
       clear c8
       obtain rfl := Option.some.inj H
       go_enter Tryz.func9, Tryz.ntmps9
       go_wp2_with (first | ((with_reducible refine gate_dst (N := 8) rfl ?_); (try (refine gate_guard (by rfl) ?_; dsimp only)); refine Kd.S_lit k29 _ 29 ?hg (N := 8) ?hd (xs := ([(⟨1, (⟨#[101, 110]⟩ : ByteArray), (⟨#[]⟩ : ByteArray), false, ([] : List ByteArray), (⟨#[]⟩ : ByteArray), (⟨#[]⟩ : ByteArray), ([] : List (S44))⟩ : S29)] : List (S29))) (inner := [.int .i64 1, .string (⟨#[101, 110]⟩ : ByteArray), .string (⟨#[]⟩ : ByteArray), .bool false, .slice none 0 0, .string (⟨#[]⟩ : ByteArray), .string (⟨#[]⟩ : ByteArray), .slice none 0 0]) (ok := fun _ => True) (okp := fun _ => True) ?hr ?hp (fun _ hk => hk) trivial (Below.refl _ _) (Nat.le_refl _) (by simp) ?_; (case hd => rfl); (case hg => rfl); (case hr => exact u0_); (case hp => exact u1_); intro v102 w9 ho10 hb hg_ hnew_; clear hg_ hnew_; (first | rw [← Ny101.out] at ho10 | (simp only [Int.reduceToNat] at ho10; rw [← Ny101.out] at ho10)); have HO103 := Aside0.mk (Kd.S_lower ho10 (below_size q0_)); replace HB := Aside0.mk (below_step q0_ hb); clear hb ho10; obtain ⟨Ao11, co11, eo11⟩ := Kd.S_slice HO103.out; subst eo11) | ((with_reducible refine gate_callee (f := 14) rfl ?_); refine goesL_ (some 9) rfl rfl Tryz.func14 (by kernel_rfl) rfl #[.slice Ao11 y101.length co11] rfl q2_ ?_; (with_reducible refine (script_Encode.calls _ _ y101 t104 t107 _ ?side1 ?side2 A1.out).mono ?_); (case side1 => repeat (first | exact (Kd.S_reads' HO103.out).2.2 | (with_reducible refine Kd.C_alloc ?_ _) | (with_reducible refine Kd.C_drewN ?_ _) | (with_reducible refine Kd.C_drew ?_))); (case side2 => exact (Kd.S_reads' HO103.out).2.1); rintro e w12 ⟨v105, rfl, ho0, hb⟩; refine ⟨_, rfl, ?_⟩; have HO106 := Aside0.mk (Kd.V_lower (Kd.V_mono (ok' := fun k_ => some k_ ≠ (.slice Ao11 y101.length co11 : Value).ownBlock) ho0 (fun k_ hk_ => (Kd.fresh' (Kd.S_lt q1_) k_ hk_))) (below_size q0_)); replace HO103 := Aside0.mk (Kd.S_below q1_ hb); replace HB := Aside0.mk (below_step q0_ hb); (try clear hb); (try clear hb2); (try clear hk); (try clear hi); (try clear ho0); obtain ⟨Ao14, co14, eo14⟩ := Kd.V_slice HO106.out; subst eo14; have hcv13 := fun (c_ : Nat) => Kd.C_string (c := c_) (P := Tryz.prog) Tryz.underlying32 Tryz.underlying5 Tryz.underlying9 (Kd.V_reads' HO106.out).2.2) | ((with_reducible refine gate_callee (f := 15) rfl ?_); refine goesL_ (some 21) rfl rfl Tryz.func15 (by kernel_rfl) rfl #[.slice Ao14 t104.length co14] rfl q2_ ?_; (with_reducible refine (script_Decode.calls _ _ t104 t108 t109 t110 _ ?side1 ?side2 A4.out).mono ?_); (case side1 => repeat (first | exact (Kd.V_reads' HO106.out).2.2 | (with_reducible refine Kd.C_alloc ?_ _) | (with_reducible refine Kd.C_drewN ?_ _) | (with_reducible refine Kd.C_drew ?_))); (case side2 => exact (Kd.V_reads' HO106.out).2.1); rintro e w15 ⟨v111, rfl, ho0, hb⟩; refine ⟨_, rfl, ?_⟩; replace HO106 := Aside0.mk (Kd.V_elder' q4_ (Kd.S_base ho0) hb); have HO112 := Aside0.mk (Kd.S_lower (Kd.S_new' ho0 (Kd.S_lt q1_)) (below_size q0_)); replace HO103 := Aside0.mk (Kd.S_elder' q1_ (Kd.S_base ho0) hb); replace HB := Aside0.mk (below_step q0_ hb); (try clear hb); (try clear hb2); (try clear hk); (try clear hi); (try clear ho0); obtain ⟨Ao16, co16, eo16⟩ := Kd.S_slice HO112.out; subst eo16; have p113 : 0 ≤ (0 : Int) := (by omega); have q113 : 0 < (t108.length : Int) := of_decide_eq_true (by first | (with_reducible assumption) | assumption); obtain ⟨ad113, A113_4, c113_4, A113_7, c113_7, e113, hx113_0, hx113_1, hx113_2, hx113_3, hx113_4, hx113_5, hx113_6, hx113_7, hl113_4, hi113_4, hl113_7, hi113_7⟩ := at_T29 (Kd.S_reads' HO112.out).2.2 0 p113 q113; cases e113; obtain ⟨ce113, hce113, hMe113, hcc113⟩ := Kd.S_get HO112.out z29 0 p113 (by first | exact q113 | exact of_decide_eq_true (by first | (with_reducible assumption) | assumption) | (have e_ := (Kd.S_reads' HO112.out).1; omega)); obtain ⟨ve113_4, ve113_7, rfl, ge113_4, ge113_7⟩ := k29_openM hMe113; have hv113_4 := hcc113 4 _ rfl; rw [add_field _ _ 4 (by omega)] at hv113_4; replace hv113_4 := Option.some.inj (hv113_4.symm.trans hx113_4); rw [hv113_4] at ge113_4; have HL113_4 := Aside0.mk (show Kd.R Kd.string 9 _ _ _ _ ((rd_T29 t108 0).f4) from ge113_4); clear hv113_4 ge113_4; have hv113_7 := hcc113 7 _ rfl; rw [add_field _ _ 7 (by omega)] at hv113_7; replace hv113_7 := Option.some.inj (hv113_7.symm.trans hx113_7); rw [hv113_7] at ge113_7; have HL113_7 := Aside0.mk (show Kd.R k44 44 _ _ _ _ ((rd_T29 t108 0).f7) from ge113_7); clear hv113_7 ge113_7 hcc113 hce113; have qi113 : (0 < t108.length) = True := eq_true (by omega); (try rw [show ((0 : Int)).toNat = 0 from rfl] at hx113_0); (try rw [show 0 * 8 = 0 from rfl] at hx113_0); (try rw [Addr.add_zero'] at hx113_0); (try rw [show ((0 : Int)).toNat = 0 from rfl] at hx113_1); (try rw [show 0 * 8 = 0 from rfl] at hx113_1); (try rw [Addr.add_zero'] at hx113_1); (try rw [show ((0 : Int)).toNat = 0 from rfl] at hx113_2); (try rw [show 0 * 8 = 0 from rfl] at hx113_2); (try rw [Addr.add_zero'] at hx113_2); (try rw [show ((0 : Int)).toNat = 0 from rfl] at hx113_3); (try rw [show 0 * 8 = 0 from rfl] at hx113_3); (try rw [Addr.add_zero'] at hx113_3); (try rw [show ((0 : Int)).toNat = 0 from rfl] at hx113_4); (try rw [show 0 * 8 = 0 from rfl] at hx113_4); (try rw [Addr.add_zero'] at hx113_4); (try rw [show ((0 : Int)).toNat = 0 from rfl] at hx113_5); (try rw [show 0 * 8 = 0 from rfl] at hx113_5); (try rw [Addr.add_zero'] at hx113_5); (try rw [show ((0 : Int)).toNat = 0 from rfl] at hx113_6); (try rw [show 0 * 8 = 0 from rfl] at hx113_6); (try rw [Addr.add_zero'] at hx113_6); (try rw [show ((0 : Int)).toNat = 0 from rfl] at hx113_7); (try rw [show 0 * 8 = 0 from rfl] at hx113_7); (try rw [Addr.add_zero'] at hx113_7); have HR113_4 := Aside0.mk hi113_4; have HC113_4 := Aside0.mk hl113_4; clear hi113_4 hl113_4; have HR113_7 := Aside0.mk hi113_7; have HC113_7 := Aside0.mk hl113_7; clear hi113_7 hl113_7; replace p113 := eq_true p113; replace q113 := eq_true q113))
       go_ret
       exact ⟨q3_, q0_⟩
      ·rw [if_neg c8] at H
       exact absurd H (by simp)
     ·rw [if_neg c7] at H
      have c7b0 : ((t108.length : Int) == 1) = false := beq_eq_false_iff_ne.mpr c7
      have c7b1 : ((t108.length : Int) != 1) = true := bne_iff_ne.mpr c7
      obtain rfl := Option.some.inj H
      go_enter Tryz.func9, Tryz.ntmps9
      go_wp2_with (first | ((with_reducible refine gate_dst (N := 8) rfl ?_); (try (refine gate_guard (by rfl) ?_; dsimp only)); refine Kd.S_lit k29 _ 29 ?hg (N := 8) ?hd (xs := ([(⟨1, (⟨#[101, 110]⟩ : ByteArray), (⟨#[]⟩ : ByteArray), false, ([] : List ByteArray), (⟨#[]⟩ : ByteArray), (⟨#[]⟩ : ByteArray), ([] : List (S44))⟩ : S29)] : List (S29))) (inner := [.int .i64 1, .string (⟨#[101, 110]⟩ : ByteArray), .string (⟨#[]⟩ : ByteArray), .bool false, .slice none 0 0, .string (⟨#[]⟩ : ByteArray), .string (⟨#[]⟩ : ByteArray), .slice none 0 0]) (ok := fun _ => True) (okp := fun _ => True) ?hr ?hp (fun _ hk => hk) trivial (Below.refl _ _) (Nat.le_refl _) (by simp) ?_; (case hd => rfl); (case hg => rfl); (case hr => exact u0_); (case hp => exact u1_); intro v102 w17 ho18 hb hg_ hnew_; clear hg_ hnew_; (first | rw [← Ny101.out] at ho18 | (simp only [Int.reduceToNat] at ho18; rw [← Ny101.out] at ho18)); have HO103 := Aside0.mk (Kd.S_lower ho18 (below_size q0_)); replace HB := Aside0.mk (below_step q0_ hb); clear hb ho18; obtain ⟨Ao19, co19, eo19⟩ := Kd.S_slice HO103.out; subst eo19) | ((with_reducible refine gate_callee (f := 14) rfl ?_); refine goesL_ (some 9) rfl rfl Tryz.func14 (by kernel_rfl) rfl #[.slice Ao19 y101.length co19] rfl q2_ ?_; (with_reducible refine (script_Encode.calls _ _ y101 t104 t107 _ ?side1 ?side2 A1.out).mono ?_); (case side1 => repeat (first | exact (Kd.S_reads' HO103.out).2.2 | (with_reducible refine Kd.C_alloc ?_ _) | (with_reducible refine Kd.C_drewN ?_ _) | (with_reducible refine Kd.C_drew ?_))); (case side2 => exact (Kd.S_reads' HO103.out).2.1); rintro e w20 ⟨v105, rfl, ho0, hb⟩; refine ⟨_, rfl, ?_⟩; have HO106 := Aside0.mk (Kd.V_lower (Kd.V_mono (ok' := fun k_ => some k_ ≠ (.slice Ao19 y101.length co19 : Value).ownBlock) ho0 (fun k_ hk_ => (Kd.fresh' (Kd.S_lt q1_) k_ hk_))) (below_size q0_)); replace HO103 := Aside0.mk (Kd.S_below q1_ hb); replace HB := Aside0.mk (below_step q0_ hb); (try clear hb); (try clear hb2); (try clear hk); (try clear hi); (try clear ho0); obtain ⟨Ao22, co22, eo22⟩ := Kd.V_slice HO106.out; subst eo22; have hcv21 := fun (c_ : Nat) => Kd.C_string (c := c_) (P := Tryz.prog) Tryz.underlying32 Tryz.underlying5 Tryz.underlying9 (Kd.V_reads' HO106.out).2.2) | ((with_reducible refine gate_callee (f := 15) rfl ?_); refine goesL_ (some 21) rfl rfl Tryz.func15 (by kernel_rfl) rfl #[.slice Ao22 t104.length co22] rfl q2_ ?_; (with_reducible refine (script_Decode.calls _ _ t104 t108 t109 t110 _ ?side1 ?side2 A4.out).mono ?_); (case side1 => repeat (first | exact (Kd.V_reads' HO106.out).2.2 | (with_reducible refine Kd.C_alloc ?_ _) | (with_reducible refine Kd.C_drewN ?_ _) | (with_reducible refine Kd.C_drew ?_))); (case side2 => exact (Kd.V_reads' HO106.out).2.1); rintro e w23 ⟨v111, rfl, ho0, hb⟩; refine ⟨_, rfl, ?_⟩; replace HO106 := Aside0.mk (Kd.V_elder' q4_ (Kd.S_base ho0) hb); have HO112 := Aside0.mk (Kd.S_lower (Kd.S_new' ho0 (Kd.S_lt q1_)) (below_size q0_)); replace HO103 := Aside0.mk (Kd.S_elder' q1_ (Kd.S_base ho0) hb); replace HB := Aside0.mk (below_step q0_ hb); (try clear hb); (try clear hb2); (try clear hk); (try clear hi); (try clear ho0); obtain ⟨Ao24, co24, eo24⟩ := Kd.S_slice HO112.out; subst eo24))
      go_ret
      exact ⟨q3_, q0_⟩
    ·rw [if_neg c6] at H
     have c6b0 : (t109 == (t104.length : Int)) = false := beq_eq_false_iff_ne.mpr c6
     have c6b1 : (t109 != (t104.length : Int)) = true := bne_iff_ne.mpr c6
     obtain rfl := Option.some.inj H
     go_enter Tryz.func9, Tryz.ntmps9
     go_wp2_with (first | ((with_reducible refine gate_dst (N := 8) rfl ?_); (try (refine gate_guard (by rfl) ?_; dsimp only)); refine Kd.S_lit k29 _ 29 ?hg (N := 8) ?hd (xs := ([(⟨1, (⟨#[101, 110]⟩ : ByteArray), (⟨#[]⟩ : ByteArray), false, ([] : List ByteArray), (⟨#[]⟩ : ByteArray), (⟨#[]⟩ : ByteArray), ([] : List (S44))⟩ : S29)] : List (S29))) (inner := [.int .i64 1, .string (⟨#[101, 110]⟩ : ByteArray), .string (⟨#[]⟩ : ByteArray), .bool false, .slice none 0 0, .string (⟨#[]⟩ : ByteArray), .string (⟨#[]⟩ : ByteArray), .slice none 0 0]) (ok := fun _ => True) (okp := fun _ => True) ?hr ?hp (fun _ hk => hk) trivial (Below.refl _ _) (Nat.le_refl _) (by simp) ?_; (case hd => rfl); (case hg => rfl); (case hr => exact u0_); (case hp => exact u1_); intro v102 w25 ho26 hb hg_ hnew_; clear hg_ hnew_; (first | rw [← Ny101.out] at ho26 | (simp only [Int.reduceToNat] at ho26; rw [← Ny101.out] at ho26)); have HO103 := Aside0.mk (Kd.S_lower ho26 (below_size q0_)); replace HB := Aside0.mk (below_step q0_ hb); clear hb ho26; obtain ⟨Ao27, co27, eo27⟩ := Kd.S_slice HO103.out; subst eo27) | ((with_reducible refine gate_callee (f := 14) rfl ?_); refine goesL_ (some 9) rfl rfl Tryz.func14 (by kernel_rfl) rfl #[.slice Ao27 y101.length co27] rfl q2_ ?_; (with_reducible refine (script_Encode.calls _ _ y101 t104 t107 _ ?side1 ?side2 A1.out).mono ?_); (case side1 => repeat (first | exact (Kd.S_reads' HO103.out).2.2 | (with_reducible refine Kd.C_alloc ?_ _) | (with_reducible refine Kd.C_drewN ?_ _) | (with_reducible refine Kd.C_drew ?_))); (case side2 => exact (Kd.S_reads' HO103.out).2.1); rintro e w28 ⟨v105, rfl, ho0, hb⟩; refine ⟨_, rfl, ?_⟩; have HO106 := Aside0.mk (Kd.V_lower (Kd.V_mono (ok' := fun k_ => some k_ ≠ (.slice Ao27 y101.length co27 : Value).ownBlock) ho0 (fun k_ hk_ => (Kd.fresh' (Kd.S_lt q1_) k_ hk_))) (below_size q0_)); replace HO103 := Aside0.mk (Kd.S_below q1_ hb); replace HB := Aside0.mk (below_step q0_ hb); (try clear hb); (try clear hb2); (try clear hk); (try clear hi); (try clear ho0); obtain ⟨Ao30, co30, eo30⟩ := Kd.V_slice HO106.out; subst eo30; have hcv29 := fun (c_ : Nat) => Kd.C_string (c := c_) (P := Tryz.prog) Tryz.underlying32 Tryz.underlying5 Tryz.underlying9 (Kd.V_reads' HO106.out).2.2) | ((with_reducible refine gate_callee (f := 15) rfl ?_); refine goesL_ (some 21) rfl rfl Tryz.func15 (by kernel_rfl) rfl #[.slice Ao30 t104.length co30] rfl q2_ ?_; (with_reducible refine (script_Decode.calls _ _ t104 t108 t109 t110 _ ?side1 ?side2 A4.out).mono ?_); (case side1 => repeat (first | exact (Kd.V_reads' HO106.out).2.2 | (with_reducible refine Kd.C_alloc ?_ _) | (with_reducible refine Kd.C_drewN ?_ _) | (with_reducible refine Kd.C_drew ?_))); (case side2 => exact (Kd.V_reads' HO106.out).2.1); rintro e w31 ⟨v111, rfl, ho0, hb⟩; refine ⟨_, rfl, ?_⟩; replace HO106 := Aside0.mk (Kd.V_elder' q4_ (Kd.S_base ho0) hb); have HO112 := Aside0.mk (Kd.S_lower (Kd.S_new' ho0 (Kd.S_lt q1_)) (below_size q0_)); replace HO103 := Aside0.mk (Kd.S_elder' q1_ (Kd.S_base ho0) hb); replace HB := Aside0.mk (below_step q0_ hb); (try clear hb); (try clear hb2); (try clear hk); (try clear hi); (try clear ho0)))
     go_ret
     exact ⟨q3_, q0_⟩
   ·rw [if_neg c5] at H
    have c5b0 : (t110 == 0) = false := beq_eq_false_iff_ne.mpr c5
    have c5b1 : (t110 != 0) = true := bne_iff_ne.mpr c5
    obtain rfl := Option.some.inj H
    go_enter Tryz.func9, Tryz.ntmps9
    go_wp2_with (first | ((with_reducible refine gate_dst (N := 8) rfl ?_); (try (refine gate_guard (by rfl) ?_; dsimp only)); refine Kd.S_lit k29 _ 29 ?hg (N := 8) ?hd (xs := ([(⟨1, (⟨#[101, 110]⟩ : ByteArray), (⟨#[]⟩ : ByteArray), false, ([] : List ByteArray), (⟨#[]⟩ : ByteArray), (⟨#[]⟩ : ByteArray), ([] : List (S44))⟩ : S29)] : List (S29))) (inner := [.int .i64 1, .string (⟨#[101, 110]⟩ : ByteArray), .string (⟨#[]⟩ : ByteArray), .bool false, .slice none 0 0, .string (⟨#[]⟩ : ByteArray), .string (⟨#[]⟩ : ByteArray), .slice none 0 0]) (ok := fun _ => True) (okp := fun _ => True) ?hr ?hp (fun _ hk => hk) trivial (Below.refl _ _) (Nat.le_refl _) (by simp) ?_; (case hd => rfl); (case hg => rfl); (case hr => exact u0_); (case hp => exact u1_); intro v102 w32 ho33 hb hg_ hnew_; clear hg_ hnew_; (first | rw [← Ny101.out] at ho33 | (simp only [Int.reduceToNat] at ho33; rw [← Ny101.out] at ho33)); have HO103 := Aside0.mk (Kd.S_lower ho33 (below_size q0_)); replace HB := Aside0.mk (below_step q0_ hb); clear hb ho33; obtain ⟨Ao34, co34, eo34⟩ := Kd.S_slice HO103.out; subst eo34) | ((with_reducible refine gate_callee (f := 14) rfl ?_); refine goesL_ (some 9) rfl rfl Tryz.func14 (by kernel_rfl) rfl #[.slice Ao34 y101.length co34] rfl q2_ ?_; (with_reducible refine (script_Encode.calls _ _ y101 t104 t107 _ ?side1 ?side2 A1.out).mono ?_); (case side1 => repeat (first | exact (Kd.S_reads' HO103.out).2.2 | (with_reducible refine Kd.C_alloc ?_ _) | (with_reducible refine Kd.C_drewN ?_ _) | (with_reducible refine Kd.C_drew ?_))); (case side2 => exact (Kd.S_reads' HO103.out).2.1); rintro e w35 ⟨v105, rfl, ho0, hb⟩; refine ⟨_, rfl, ?_⟩; have HO106 := Aside0.mk (Kd.V_lower (Kd.V_mono (ok' := fun k_ => some k_ ≠ (.slice Ao34 y101.length co34 : Value).ownBlock) ho0 (fun k_ hk_ => (Kd.fresh' (Kd.S_lt q1_) k_ hk_))) (below_size q0_)); replace HO103 := Aside0.mk (Kd.S_below q1_ hb); replace HB := Aside0.mk (below_step q0_ hb); (try clear hb); (try clear hb2); (try clear hk); (try clear hi); (try clear ho0); obtain ⟨Ao37, co37, eo37⟩ := Kd.V_slice HO106.out; subst eo37; have hcv36 := fun (c_ : Nat) => Kd.C_string (c := c_) (P := Tryz.prog) Tryz.underlying32 Tryz.underlying5 Tryz.underlying9 (Kd.V_reads' HO106.out).2.2) | ((with_reducible refine gate_callee (f := 15) rfl ?_); refine goesL_ (some 21) rfl rfl Tryz.func15 (by kernel_rfl) rfl #[.slice Ao37 t104.length co37] rfl q2_ ?_; (with_reducible refine (script_Decode.calls _ _ t104 t108 t109 t110 _ ?side1 ?side2 A4.out).mono ?_); (case side1 => repeat (first | exact (Kd.V_reads' HO106.out).2.2 | (with_reducible refine Kd.C_alloc ?_ _) | (with_reducible refine Kd.C_drewN ?_ _) | (with_reducible refine Kd.C_drew ?_))); (case side2 => exact (Kd.V_reads' HO106.out).2.1); rintro e w38 ⟨v111, rfl, ho0, hb⟩; refine ⟨_, rfl, ?_⟩; replace HO106 := Aside0.mk (Kd.V_elder' q4_ (Kd.S_base ho0) hb); have HO112 := Aside0.mk (Kd.S_lower (Kd.S_new' ho0 (Kd.S_lt q1_)) (below_size q0_)); replace HO103 := Aside0.mk (Kd.S_elder' q1_ (Kd.S_base ho0) hb); replace HB := Aside0.mk (below_step q0_ hb); (try clear hb); (try clear hb2); (try clear hk); (try clear hi); (try clear ho0)))
    go_ret
    exact ⟨q3_, q0_⟩
  ·rw [if_neg c3] at H
   have c3b0 : ((strOfNums t104).toList == ([49, 58, 99, 44, 50, 58, 101, 110, 44, 49, 58, 48, 44] : List UInt8)) = false := beq_eq_false_iff_ne.mpr c3
   have c3b1 : ((strOfNums t104).toList != ([49, 58, 99, 44, 50, 58, 101, 110, 44, 49, 58, 48, 44] : List UInt8)) = true := bne_iff_ne.mpr c3
   obtain rfl := Option.some.inj H
   go_enter Tryz.func9, Tryz.ntmps9
   go_wp2_with (first | ((with_reducible refine gate_dst (N := 8) rfl ?_); (try (refine gate_guard (by rfl) ?_; dsimp only)); refine Kd.S_lit k29 _ 29 ?hg (N := 8) ?hd (xs := ([(⟨1, (⟨#[101, 110]⟩ : ByteArray), (⟨#[]⟩ : ByteArray), false, ([] : List ByteArray), (⟨#[]⟩ : ByteArray), (⟨#[]⟩ : ByteArray), ([] : List (S44))⟩ : S29)] : List (S29))) (inner := [.int .i64 1, .string (⟨#[101, 110]⟩ : ByteArray), .string (⟨#[]⟩ : ByteArray), .bool false, .slice none 0 0, .string (⟨#[]⟩ : ByteArray), .string (⟨#[]⟩ : ByteArray), .slice none 0 0]) (ok := fun _ => True) (okp := fun _ => True) ?hr ?hp (fun _ hk => hk) trivial (Below.refl _ _) (Nat.le_refl _) (by simp) ?_; (case hd => rfl); (case hg => rfl); (case hr => exact u0_); (case hp => exact u1_); intro v102 w39 ho40 hb hg_ hnew_; clear hg_ hnew_; (first | rw [← Ny101.out] at ho40 | (simp only [Int.reduceToNat] at ho40; rw [← Ny101.out] at ho40)); have HO103 := Aside0.mk (Kd.S_lower ho40 (below_size q0_)); replace HB := Aside0.mk (below_step q0_ hb); clear hb ho40; obtain ⟨Ao41, co41, eo41⟩ := Kd.S_slice HO103.out; subst eo41) | ((with_reducible refine gate_callee (f := 14) rfl ?_); refine goesL_ (some 9) rfl rfl Tryz.func14 (by kernel_rfl) rfl #[.slice Ao41 y101.length co41] rfl q2_ ?_; (with_reducible refine (script_Encode.calls _ _ y101 t104 t107 _ ?side1 ?side2 A1.out).mono ?_); (case side1 => repeat (first | exact (Kd.S_reads' HO103.out).2.2 | (with_reducible refine Kd.C_alloc ?_ _) | (with_reducible refine Kd.C_drewN ?_ _) | (with_reducible refine Kd.C_drew ?_))); (case side2 => exact (Kd.S_reads' HO103.out).2.1); rintro e w42 ⟨v105, rfl, ho0, hb⟩; refine ⟨_, rfl, ?_⟩; have HO106 := Aside0.mk (Kd.V_lower (Kd.V_mono (ok' := fun k_ => some k_ ≠ (.slice Ao41 y101.length co41 : Value).ownBlock) ho0 (fun k_ hk_ => (Kd.fresh' (Kd.S_lt q1_) k_ hk_))) (below_size q0_)); replace HO103 := Aside0.mk (Kd.S_below q1_ hb); replace HB := Aside0.mk (below_step q0_ hb); (try clear hb); (try clear hb2); (try clear hk); (try clear hi); (try clear ho0); (try (obtain ⟨Ac_, cc_, ec_⟩ := Kd.V_slice HO106.out; subst ec_)); have hcv43 := fun (c_ : Nat) => Kd.C_string (c := c_) (P := Tryz.prog) Tryz.underlying32 Tryz.underlying5 Tryz.underlying9 (Kd.V_reads' HO106.out).2.2))
   go_ret
   exact ⟨q3_, q0_⟩
 ·rw [if_neg c2] at H
  have c2b0 : (t107 == 0) = false := beq_eq_false_iff_ne.mpr c2
  have c2b1 : (t107 != 0) = true := bne_iff_ne.mpr c2
  obtain rfl := Option.some.inj H
  go_enter Tryz.func9, Tryz.ntmps9
  go_wp2_with (first | ((with_reducible refine gate_dst (N := 8) rfl ?_); (try (refine gate_guard (by rfl) ?_; dsimp only)); refine Kd.S_lit k29 _ 29 ?hg (N := 8) ?hd (xs := ([(⟨1, (⟨#[101, 110]⟩ : ByteArray), (⟨#[]⟩ : ByteArray), false, ([] : List ByteArray), (⟨#[]⟩ : ByteArray), (⟨#[]⟩ : ByteArray), ([] : List (S44))⟩ : S29)] : List (S29))) (inner := [.int .i64 1, .string (⟨#[101, 110]⟩ : ByteArray), .string (⟨#[]⟩ : ByteArray), .bool false, .slice none 0 0, .string (⟨#[]⟩ : ByteArray), .string (⟨#[]⟩ : ByteArray), .slice none 0 0]) (ok := fun _ => True) (okp := fun _ => True) ?hr ?hp (fun _ hk => hk) trivial (Below.refl _ _) (Nat.le_refl _) (by simp) ?_; (case hd => rfl); (case hg => rfl); (case hr => exact u0_); (case hp => exact u1_); intro v102 w44 ho45 hb hg_ hnew_; clear hg_ hnew_; (first | rw [← Ny101.out] at ho45 | (simp only [Int.reduceToNat] at ho45; rw [← Ny101.out] at ho45)); have HO103 := Aside0.mk (Kd.S_lower ho45 (below_size q0_)); replace HB := Aside0.mk (below_step q0_ hb); clear hb ho45; obtain ⟨Ao46, co46, eo46⟩ := Kd.S_slice HO103.out; subst eo46) | ((with_reducible refine gate_callee (f := 14) rfl ?_); refine goesL_ (some 9) rfl rfl Tryz.func14 (by kernel_rfl) rfl #[.slice Ao46 y101.length co46] rfl q2_ ?_; (with_reducible refine (script_Encode.calls _ _ y101 t104 t107 _ ?side1 ?side2 A1.out).mono ?_); (case side1 => repeat (first | exact (Kd.S_reads' HO103.out).2.2 | (with_reducible refine Kd.C_alloc ?_ _) | (with_reducible refine Kd.C_drewN ?_ _) | (with_reducible refine Kd.C_drew ?_))); (case side2 => exact (Kd.S_reads' HO103.out).2.1); rintro e w47 ⟨v105, rfl, ho0, hb⟩; refine ⟨_, rfl, ?_⟩; have HO106 := Aside0.mk (Kd.V_lower (Kd.V_mono (ok' := fun k_ => some k_ ≠ (.slice Ao46 y101.length co46 : Value).ownBlock) ho0 (fun k_ hk_ => (Kd.fresh' (Kd.S_lt q1_) k_ hk_))) (below_size q0_)); replace HO103 := Aside0.mk (Kd.S_below q1_ hb); replace HB := Aside0.mk (below_step q0_ hb); (try clear hb); (try clear hb2); (try clear hk); (try clear hi); (try clear ho0)))
  go_ret
  exact ⟨q3_, q0_⟩
end Go.Proofs.YtdhpcofnddkcaaaGreatDoor.S
namespace Go.Proofs.YtdhpcofnddkcaaaGreatDoor.S
open Go.RowKit Go.Proofs.YtdhpcofnddkcaaaGreatDoor.G Go.Proofs.YtdhpcofnddkcaaaGreatDoorW.PrintWords Go.Proofs.YtdhpcofnddkcaaaGreatDoorW.PrintLast Go.Proofs.YtdhpcofnddkcaaaGreatDoorW.PrintMore
set_option linter.unusedVariables false
set_option linter.unusedSimpArgs false
def nums8 (l : List UInt8) : List Int := l.map fun c => (c.toNat : Int)
theorem bl_nums (l : List UInt8) : bl (strOfNums (nums8 l)) = l := by
  show (strOfNums (nums8 l)).data.toList = l
  rw [strOfNums_data]
  unfold nums8
  rw [List.map_map]
  conv => rhs; rw [← List.map_id l]
  refine List.map_congr_left fun c _ => ?_
  show UInt8.ofNat ((c.toNat : Int)).toNat = c
  simp
theorem nums8_len (l : List UInt8) : (nums8 l).length = l.length := List.length_map _
def headS : S29 := ⟨1, ⟨#[101, 110]⟩, ⟨#[]⟩, false, [], ⟨#[]⟩, ⟨#[]⟩, []⟩
theorem encode_head : script_Encode.f [headS] = some (nums8 (Net.encs (Net.parts Net.stE)), 0) := by
  have e : Net.encS ([headS].map toSt) = Net.encs (Net.parts Net.stE) := by
    show Net.encs (Net.parts Net.stE) ++ [] = _
    rw [List.append_nil]
  unfold script_Encode.f
  rw [if_pos (by decide), e, if_pos ⟨by rw [Net.stE_bytes]; decide, fun s hs => by
    rw [List.mem_singleton] at hs
    subst hs
    exact ⟨by decide, by decide, fun a ha => by cases ha⟩⟩, if_pos (show ([headS].map toSt).all (Net.right okA) = true from rfl)]
  rfl
theorem decode_of {list : List Net.St} (hr : ∀ s ∈ list, Net.right okA s = true) (hs : ∀ s ∈ list, Net.small s) (hm : list.length ≤ 4096) (hl : (Net.encS list).length ≤ 100000) (hf : list.length ≤ (Net.encS list).length + 1) :
    script_Decode.f (nums8 (Net.encS list)) = some (list.map ofSt, ((Net.encS list).length : Int), 0) := by
  unfold script_Decode.f
  rw [nums8_len, if_pos (by omega), if_neg (by omega)]
  show some ((Net.decR okA (bl (strOfNums (nums8 (Net.encS list)))) _ 4096 0).1.map ofSt, ((Net.decR okA (bl (strOfNums (nums8 (Net.encS list)))) _ 4096 0).2.1 : Int), (Net.decR okA (bl (strOfNums (nums8 (Net.encS list)))) _ 4096 0).2.2) = _
  rw [bl_nums]
  have := Net.decR_all okA_kind (f := (Net.encS list).length + 1 - list.length) hr hs hm
  rw [show list.length + ((Net.encS list).length + 1 - list.length) = (Net.encS list).length + 1 by omega] at this
  rw [this]
theorem head_f : polyglotlaw18_head.f = some true := by
  have hb : Net.encS [Net.stE] = Net.encs (Net.parts Net.stE) := by
    show Net.encs (Net.parts Net.stE) ++ [] = _
    rw [List.append_nil]
  have hd := decode_of (list := [Net.stE]) (fun s h => by rw [List.mem_singleton] at h; subst h; exact Net.stE_right okA) (fun s h => by rw [List.mem_singleton] at h; subst h; exact Net.stE_small) (by decide) (by rw [hb, Net.stE_bytes]; decide) (by rw [hb, Net.stE_bytes]; decide)
  rw [hb] at hd
  unfold polyglotlaw18_head.f
  show (script_Encode.f [headS]).bind _ = _
  rw [encode_head, Option.bind_some]
  show (if (0 : Int) = 0 then _ else _) = _
  rw [if_pos rfl, tl, bl_nums, if_pos Net.stE_bytes, hd, Option.bind_some]
  show (if (0 : Int) = 0 then _ else _) = _
  rw [if_pos rfl, nums8_len]
  show (if ((Net.encs (Net.parts Net.stE)).length : Int) = _ then _ else _) = _
  rw [if_pos rfl]
  show (if (1 : Int) = 1 then (if (0 : Int) < 1 then some (headS.f1.toList == ([101, 110] : List UInt8)) else none) else some false) = some true
  rw [if_pos rfl, if_pos (by decide), tl]
  rfl
end Go.Proofs.YtdhpcofnddkcaaaGreatDoor.S
namespace Go.Proofs.YtdhpcofnddkcaaaGreatDoor.S
open Go.RowKit Go.Proofs.YtdhpcofnddkcaaaGreatDoor.G Go.Proofs.YtdhpcofnddkcaaaGreatDoorW.PrintWords Go.Proofs.YtdhpcofnddkcaaaGreatDoorW.PrintLast Go.Proofs.YtdhpcofnddkcaaaGreatDoorW.PrintMore
set_option linter.unusedVariables false
set_option linter.unusedSimpArgs false
theorem and7_ (n : Int) : ∃ r : Nat, r ≤ 7 ∧ bits .and .i64 n 7 = (r : Int) := by
  have h : (BitVec.ofInt 64 n).toNat &&& 7 ≤ 7 := Nat.and_le_right
  refine ⟨(BitVec.ofInt 64 n).toNat &&& 7, h, ?_⟩
  show IntKind.i64.wrap ((BitVec.ofInt 64 n &&& BitVec.ofInt 64 7).toNat : Int) = _
  rw [BitVec.toNat_and, IntKind.wrap_i64, show (BitVec.ofInt 64 7).toNat = 7 from rfl]
  omega
def askS : S29 := ⟨2, ⟨#[]⟩, ⟨#[]⟩, false, [], ⟨#[]⟩, ⟨#[]⟩, []⟩
theorem toSt_ask : toSt askS = Net.st0 := rfl
theorem ofSt_ask : ofSt Net.st0 = askS := rfl
theorem map_ask (m : Nat) : (List.replicate m askS).map toSt = List.replicate m Net.st0 := by rw [List.map_replicate, toSt_ask]
theorem map_st0 (m : Nat) : (List.replicate m Net.st0).map ofSt = List.replicate m askS := by rw [List.map_replicate, ofSt_ask]
def manyL (m : Nat) : List UInt8 := Net.encS (List.replicate m Net.st0)
theorem manyL_len (m : Nat) : (manyL m).length = m * 14 := Net.encS_rep_len m
theorem encode_most (m : Nat) (hm : m ≤ 4096) : script_Encode.f (List.replicate m askS) = some (nums8 (manyL m), 0) := by
  unfold script_Encode.f
  rw [if_pos (by rw [List.length_replicate]; exact hm), map_ask, if_pos ⟨by rw [Net.encS_rep_len]; omega, fun s hs => by
    obtain rfl := (List.mem_replicate.1 hs).2
    exact ⟨by decide, by decide, fun a ha => by cases ha⟩⟩, if_pos (List.all_eq_true.2 fun s hs => by
    obtain rfl := (List.mem_replicate.1 hs).2
    exact Net.st0_right _)]
  rfl
theorem encode_over (m : Nat) (hm : 4096 < m) : script_Encode.f (List.replicate m askS) = some ([], 4) := by
  unfold script_Encode.f
  rw [if_neg (by rw [List.length_replicate]; omega)]
theorem decode_most (m : Nat) (hm : m ≤ 4096) : script_Decode.f (nums8 (manyL m)) = some (List.replicate m askS, ((m * 14 : Nat) : Int), 0) := by
  have h := decode_of (list := List.replicate m Net.st0) (fun s hs => by
    obtain rfl := (List.mem_replicate.1 hs).2
    exact Net.st0_right _) (fun s hs => by
    obtain rfl := (List.mem_replicate.1 hs).2
    exact Net.st0_small) (by rw [List.length_replicate]; exact hm) (by rw [Net.encS_rep_len]; omega) (by rw [Net.encS_rep_len, List.length_replicate]; omega)
  rw [map_st0, Net.encS_rep_len] at h
  exact h
theorem decode_over (m : Nat) (hm : 4096 < m) (hm2 : m ≤ 5000) : script_Decode.f (nums8 (manyL m)) = some (List.replicate 4096 askS, 57344, 4) := by
  have h1 := manyL_len m
  have h2 : Net.lb (strOfNums (nums8 (manyL m))) = manyL m := bl_nums _
  have h3 := Net.decR_many okA_kind (list := List.replicate m Net.st0) (f := 13 * m + 1) (room := 4096) (fun s hs => by
    obtain rfl := (List.mem_replicate.1 hs).2
    exact Net.st0_right _) (fun s hs => by
    obtain rfl := (List.mem_replicate.1 hs).2
    exact Net.st0_small) (by rw [List.length_replicate]; exact hm)
  rw [List.length_replicate, show m + (13 * m + 1) = m * 14 + 1 by omega, List.take_replicate, Nat.min_eq_left (by omega), Net.encS_rep_len] at h3
  unfold script_Decode.f
  rw [nums8_len, h1, if_pos (by omega), if_neg (by omega), h2]
  have h4 : Net.decR okA (manyL m) (m * 14 + 1) 4096 0 = _ := h3
  rw [h4]
  show some ((List.replicate 4096 Net.st0).map ofSt, _, _) = _
  rw [map_st0]
  rfl
def repS (i : Nat) : ByteArray := ⟨(manyL i).toArray⟩
theorem repS_size (i : Nat) : (repS i).size = i * 14 := by
  show (manyL i).toArray.size = _
  rw [List.size_toArray, manyL_len]
theorem repS_list (i : Nat) : (repS i).data.toList = manyL i := rfl
theorem repS_next (i : Nat) : repS i ++ (⟨#[49, 58, 113, 44, 48, 58, 44, 48, 58, 44, 49, 58, 48, 44]⟩ : ByteArray) = repS (i + 1) := by
  apply ByteArray.ext
  apply Array.ext'
  rw [ByteArray.data_append, Array.toList_append, repS_list, repS_list]
  exact (Net.rep_snoc i).symm
theorem repS_str (i : Nat) : strOfNums (nums8 (manyL i)) = repS i := by
  apply ByteArray.ext
  apply Array.ext'
  exact bl_nums _
def mcell (i p : Nat) : Value := match p % 8 with
  | 0 => .int .i64 (if p / 8 < i then 2 else 0)
  | 3 => .bool false
  | 4 => .slice none 0 0
  | 7 => .slice none 0 0
  | _ => .string ⟨#[]⟩
def MRow (w : World) (q m i : Nat) : Prop := ∃ cs : Array Value, w.heap[q]? = some (.cells cs 29 (0, 0)) ∧ cs.size = m * 8 ∧ ∀ p, p < m * 8 → cs[p]? = some (mcell i p)
theorem MRow.cell {w : World} {q m i p : Nat} (h : MRow w q m i) (hp : p < m * 8) : w.cell? ⟨q, p, none⟩ = some (mcell i p) := by
  obtain ⟨cs, h1, h2, h3⟩ := h
  rw [blk_cell h1]
  exact h3 p hp
theorem MRow.frozen {w : World} {q m i : Nat} (h : MRow w q m i) (p : Nat) : w.frozen? ⟨q, p, none⟩ = false := by
  obtain ⟨cs, h1, h2, h3⟩ := h
  exact blk_frozen h1 p
theorem MRow.below {w w1 : World} {q m i : Nat} (h : MRow w q m i) (hb : Below w.heap.size w w1) : MRow w1 q m i := by
  obtain ⟨cs, h1, h2⟩ := h
  exact ⟨cs, (hb.block q (blk_lt h1)).trans h1, h2⟩
theorem MRow.next {w : World} {q m i : Nat} (h : MRow w q m i) (hi : i < m) : MRow (w.setCell ⟨q, i * 8, none⟩ (.int .i64 2)) q m (i + 1) := by
  obtain ⟨cs, h1, h2, h3⟩ := h
  refine ⟨_, blk_set h1 (i * 8) _, by rw [Array.size_setIfInBounds]; exact h2, fun p hp => ?_⟩
  rw [Array.getElem?_setIfInBounds]
  by_cases he : i * 8 = p
  · subst he
    rw [if_pos rfl, if_pos (by omega)]
    unfold mcell
    rw [Nat.mul_mod_left, Nat.mul_div_cancel _ (by decide)]
    simp
  · rw [if_neg he, h3 p hp]
    unfold mcell
    by_cases h0 : p % 8 = 0
    · have h5 : (p / 8 < i) ↔ (p / 8 < i + 1) := by omega
      rw [h0]
      simp only [h5]
    · split <;> first | rfl | (exfalso; omega) | skip
theorem MRow.rows {w : World} {q m : Nat} (h : MRow w q m m) (hm : m ≤ 9223372036854775807) : Kd.C k29 w (some ⟨q, 0, none⟩) (List.replicate m askS).length (List.replicate m askS) := by
  refine ⟨rfl, by rw [List.length_replicate]; exact hm, fun _ => ⟨_, rfl, fun j p hj => ?_⟩⟩
  have hlt : j < m := by
    have := (List.getElem?_eq_some_iff.1 hj).1
    rwa [List.length_replicate] at this
  obtain rfl : p = askS := by
    rw [List.getElem?_replicate, if_pos hlt] at hj
    exact (Option.some.inj hj).symm
  refine ⟨_, rfl, k29_mk w askS (A4 := none) (c4 := 0) (Nat.zero_le _) (Kd.C_nil _ _) (A7 := none) (c7 := 0) (Nat.zero_le _) (Kd.C_nil _ _), fun i u hu => ?_⟩
  have hi : i < 8 := (List.getElem?_eq_some_iff.1 hu).1
  rw [show k29.sz = 8 from rfl, add_plain, h.cell (by omega)]
  have e1 : (j * 8 + i) % 8 = i := by omega
  have e2 : (j * 8 + i) / 8 = j := by omega
  rw [← hu]
  unfold mcell
  rw [e1, e2, if_pos hlt]
  match i, hi with
  | 0, _ => rfl
  | 1, _ => rfl
  | 2, _ => rfl
  | 3, _ => rfl
  | 4, _ => rfl
  | 5, _ => rfl
  | 6, _ => rfl
  | 7, _ => rfl
theorem MRow.new (W : World) (m : Nat) (cs : Array Value) (h1 : cs.size = m * 8) (h2 : ∀ p, p < m * 8 → cs[p]? = some (mcell 0 p)) : MRow (W.alloc (.cells cs 29 (0, 0))) W.heap.size m 0 := ⟨cs, blk_new W _, h1, h2⟩
def zc29 : Array Value := #[.int .i64 0, .string ⟨#[]⟩, .string ⟨#[]⟩, .bool false, .slice none 0 0, .string ⟨#[]⟩, .string ⟨#[]⟩, .slice none 0 0]
theorem made_cell (m p : Nat) (hp : p < m * 8) : (madeCells zc29 (m * 8))[p]? = some (mcell 0 p) := by
  have h8 : p % 8 < 8 := Nat.mod_lt _ (by decide)
  have e : (madeCells zc29 (m * 8))[p]? = some (zc29[p % 8]!) := by
    unfold madeCells
    rw [Array.getElem?_map, Array.getElem?_range, if_pos hp]
    rfl
  rw [e]
  unfold mcell
  rw [if_neg (Nat.not_lt_zero _)]
  generalize p % 8 = r at h8
  match r, h8 with
  | 0, _ => rfl
  | 1, _ => rfl
  | 2, _ => rfl
  | 3, _ => rfl
  | 4, _ => rfl
  | 5, _ => rfl
  | 6, _ => rfl
  | 7, _ => rfl
theorem make_steps (W : World) (m : Nat) (hm : m ≤ 4100) : (Instr.makeSlice 22 (.int .i64 m) (.int .i64 m)).run Tryz.prog W = .ok (.slice (some ⟨W.heap.size, 0, none⟩) m m) (W.alloc (.cells (madeCells zc29 (m * 8)) 29)) := by
  obtain ⟨i0, hi, hzz⟩ := Option.map_eq_some_iff.1 info29
  simp only [Prod.mk.injEq] at hzz
  obtain ⟨hz0, hz1, hz2⟩ := hzz
  have hr := run_make (P := Tryz.prog) W 22 29 i0 _ Tryz.underlying22 hi hz0 .i64 .i64 (m : Int) (m : Int) (by omega) (by omega) (by rw [hz2]; omega) (by omega)
  rw [hz1, Int.toNat_natCast] at hr
  exact hr
set_option maxHeartbeats 4000000 in
set_option maxRecDepth 100000 in
theorem many_any (n : Int) (w : World) (m : Nat) (hm0 : 4093 ≤ m) (hm1 : m ≤ 4100) (hr : 4093 + bits .and .i64 n 7 = (m : Int)) (x : List Int) (x1 : Int) (ex : script_Encode.f (List.replicate m askS) = some (x, x1)) (g : List S29) (g1 g2 : Int) (eg : script_Decode.f (nums8 (manyL m)) = some (g, g1, g2))
    (hend : (4096 < m ∧ x = [] ∧ x1 = 4 ∧ g2 = 4 ∧ g1 = 57344 ∧ g.length = 4096) ∨ (m ≤ 4096 ∧ x = nums8 (manyL m) ∧ x1 = 0 ∧ g2 = 0 ∧ g1 = ((m * 14 : Nat) : Int) ∧ g.length = m))
    (hT : Tab_ w) (hP : TabP_ w) (hE : TabE_ w) :
    Calls Tryz.prog 7 #[.int .i64 n] w fun e w' => e = .returned (.bool true) ∧ Below w.heap.size w w' := by
  have hH := polyglotlaw18_head.calls true w head_f hT hP hE
  have hEn : ∀ (q : Nat) (W : World), Below w.heap.size w W → MRow W q m m →
      Calls Tryz.prog 14 #[.slice (some ⟨q, 0, none⟩) m m] W fun e w' => ∃ A' c', e = .returned (.tuple #[.slice A' x.length c', .int .i64 x1]) ∧ Kd.C (Kd.int .u8) w' A' x.length x ∧ Below W.heap.size W w' := fun q W hB hM => by
    have h := script_Encode.calls (some ⟨q, 0, none⟩) m (List.replicate m askS) x x1 W (hM.rows (by omega)) (by rw [List.length_replicate]; exact Nat.le_refl _) ex (Tab_.step hT hB) (TabP_.step hP hB) (TabE_.step hE hB)
    rw [List.length_replicate] at h
    exact h.mono fun e w' ⟨v, he, hv, hb⟩ => by
      obtain ⟨A', c', rfl⟩ := Kd.V_slice hv
      exact ⟨A', c', he, (Kd.V_reads' hv).2.2, hb⟩
  have hDe : ∀ (W : World), Below w.heap.size w W →
      Calls Tryz.prog 15 #[.slice (some ⟨W.heap.size, 0, none⟩) (repS m).size (grownCap W (repS m).size 0 5)] (Lib.bytesWorld W 5 (repS m)) fun e w' => ∃ A' c', e = .returned (.tuple #[.slice A' g.length c', .int .i64 g1, .int .i64 g2]) ∧ Below W.heap.size W w' := fun W hB => by
    have hbw := Lib.bytesWorld_below W 5 (repS m)
    have hV := V_bytes (W := Lib.bytesWorld W 5 (repS m)) (W1 := W) (base := 0) (g := W.heap.size) (c := grownCap W (repS m).size 0 5) (L := manyL m) (Nat.zero_le _) (by rw [Lib.bytesWorld_size]; omega) (by have := grownCap_ge W (repS m).size 0 5; have h5 := repS_size m; rw [manyL_len]; omega) (by rw [manyL_len]; omega) (fun j hj => Lib.bytesWorld_cell W 5 (repS m) j (by rw [repS_size]; rwa [manyL_len] at hj)) 0
    have hC := (Kd.V_reads' hV).2.2
    have hB2 := below_step hB hbw
    have h := script_Decode.calls (some ⟨W.heap.size, 0, none⟩) (grownCap W (repS m).size 0 5) (nums8 (manyL m)) g g1 g2 (Lib.bytesWorld W 5 (repS m)) hC (by have := grownCap_ge W (repS m).size 0 5; have h5 := repS_size m; rw [nums8_len, manyL_len]; omega) eg (Tab_.step hT hB2) (TabP_.step hP hB2) (TabE_.step hE hB2)
    rw [nums8_len, manyL_len, ← repS_size] at h
    exact h.mono fun e w' ⟨v, he, hv, hb⟩ => by
      obtain ⟨A', c', rfl⟩ := Kd.S_slice hv
      exact ⟨A', c', he, below_then hbw (by rw [Lib.bytesWorld_size]; omega) hb⟩
  have hcv := fun w => Lib.run_convert_string_bytes (P := Tryz.prog) w 9 32 5 (repS m) Tryz.underlying9 Tryz.underlying32 Tryz.underlying5
  have HEN := Lib.hid hEn
  have HDE := Lib.hid hDe
  have HEND := Lib.hid hend
  have HCV := Lib.hid hcv
  clear hT hP hE hEn hDe ex eg hend hcv
  have hmm : IntKind.i64.wrap (4093 + bits .and .i64 n 7) = (m : Int) := by rw [hr, IntKind.wrap_i64]; omega
  go_enter Tryz.func7, Tryz.ntmps7
  go_upto_region 4 with ((go_at_call 9; refine hH.mono ?_; rintro e W1 ⟨rfl, B1⟩))
  clear hH hmm hr
  have HB1 := Lib.hid B1
  clear B1
  have hq : w.heap.size ≤ W1.heap.size := HB1.out.size
  obtain ⟨W2, hmk, hR1, hB2⟩ : ∃ W2, (Instr.makeSlice 22 (.int .i64 m) (.int .i64 m)).run Tryz.prog W1 = .ok (.slice (some ⟨W1.heap.size, 0, none⟩) m m) W2 ∧ MRow W2 W1.heap.size m 0 ∧ Below w.heap.size w W2 :=
    ⟨_, make_steps W1 m hm1, MRow.new W1 m _ (size_madeCells _ _) (made_cell m), HB1.out.alloc HB1.out.size _⟩
  go_upto_region 5 with (fail)
  clear hmk HB1
  generalize W1.heap.size = q at *
  have HR1 := Lib.hid hR1
  have HB2 := Lib.hid hB2
  clear hR1 hB2
  go_wp2
  go_loopg [4, 20] m (fun g0 v4 v20 w' => ∃ i : Nat, v20 = .int .i64 i ∧ v4 = .string (repS i) ∧ g0 + i = m ∧ MRow w' q m i ∧ Below w.heap.size w w')
  case atStart => exact ⟨0, rfl, rfl, by omega, HR1.out, HB2.out⟩
  case round =>
    obtain ⟨i, rfl, rfl, hg, hR, hB⟩ := hrel
    by_cases hi : i < m
    · have q0 : decide ((i : Int) < (m : Int)) = true := decide_eq_true (by omega)
      have q1 : (0 : Int) ≤ (i : Int) := by omega
      have q2 : (i : Int) < (m : Int) := by omega
      have hc : wr.cell? ⟨q, i * 8, none⟩ = some (mcell i (i * 8)) := hR.cell (by omega)
      have hf := hR.frozen (i * 8)
      have hz := repS_size i
      have hz2 : (repS i).size + 14 ≤ 9223372036854775807 := by omega
      have HR := Lib.hid hR
      have HB := Lib.hid hB
      clear hR hB hz
      go_wp2
      obtain ⟨k, hk⟩ : ∃ k, gk = k + 1 := ⟨gk - 1, by omega⟩
      subst hk
      go_roundg k
      case measure => omega
      case rel => exact ⟨i + 1, by go_num, by rw [repS_next], by omega, HR.out.next hi, HB.out.setCell (p := ⟨q, i * 8, none⟩) hq _⟩
    · have hi2 : i = m := by omega
      subst hi2
      have q0 : decide ((i : Int) < (i : Int)) = false := decide_eq_false (by omega)
      have cE := HEN.out q wr hB hR
      have hcv := HCV.out
      have HB := Lib.hid hB
      clear hR hB hg HR1 HB2 hq
      go_upto_region 14 with (first
        | (go_at_call 14; refine cE.mono ?_; rintro e W3 ⟨A3, c3, rfl, C3, b3⟩; have HX3 := Lib.hid C3; have B3 := below_step HB.out b3; clear C3 b3)
        | (go_at_call 15; (with_reducible refine (HDE.out W3 B3).mono ?_); rintro e W4 ⟨A4, c4, rfl, b4⟩; have HX4 := Lib.hid (Kd.C_below HX3.out b4); have HB4 := Lib.hid (below_step B3 b4); clear b4))
      have hsz := repS_size i
      rcases HEND.out with ⟨h1, rfl, rfl, rfl, rfl, h2⟩ | ⟨h1, rfl, rfl, rfl, rfl, h2⟩
      · have q1 : decide ((i : Int) > 4096) = true := decide_eq_true (by omega)
        have q2 : ((g.length : Int) == 4096) = true := by rw [h2]; rfl
        have q3 : decide ((4096 : Int) < (i : Int)) = true := decide_eq_true (by omega)
        go_wp2
        go_ret
        exact ⟨rfl, HB4.out⟩
      · have q1 : decide ((i : Int) > 4096) = false := decide_eq_false (by omega)
        have q3 : decide ((4096 : Int) < (i : Int)) = false := decide_eq_false (by omega)
        have q2 : ((g.length : Int) == (i : Int)) = true := by rw [h2]; exact beq_self_eq_true _
        have hcx := fun (c_ : Nat) => Kd.C_string (c := c_) (P := Tryz.prog) Tryz.underlying32 Tryz.underlying5 Tryz.underlying9 HX4.out
        rw [repS_str] at hcx
        go_wp2
        go_ret
        exact ⟨rfl, HB4.out⟩
theorem many_walk (n : Int) (w : World) (hT : Tab_ w) (hP : TabP_ w) (hE : TabE_ w) :
    Calls Tryz.prog 7 #[.int .i64 n] w fun e w' => e = .returned (.bool true) ∧ Below w.heap.size w w' := by
  obtain ⟨r, hr, he⟩ := and7_ n
  by_cases hm : 4096 < 4093 + r
  · exact many_any n w (4093 + r) (by omega) (by omega) (by rw [he]; omega) _ _ (encode_over _ hm) _ _ _ (decode_over _ hm (by omega)) (.inl ⟨hm, rfl, rfl, rfl, rfl, by rw [List.length_replicate]⟩) hT hP hE
  · exact many_any n w (4093 + r) (by omega) (by omega) (by rw [he]; omega) _ _ (encode_most _ (by omega)) _ _ _ (decode_most _ (by omega)) (.inr ⟨by omega, rfl, rfl, rfl, rfl, by rw [List.length_replicate]⟩) hT hP hE
end Go.Proofs.YtdhpcofnddkcaaaGreatDoor.S
namespace Go.Proofs.YtdhpcofnddkcaaaGreatDoor.scriptMany
open Go.ChangeShapes Go.WideShapes Go.ChangeAt Go.RowKit Go.Proofs.YtdhpcofnddkcaaaGreatDoor.E
open Go.ChangeMaps (open_string shut_string)
set_option linter.unusedVariables false
set_option linter.unusedSimpArgs false
theorem laid_met (os : Os) : laidMet Tryz.prog Rows.scriptManyRow.laid ((laidWorld os).forCall (fun _ _ => 0) ⟨#[], #[.int .i64 0], []⟩).memory :=
  laidMet_of_run3 8 (by kernel_rfl) (by kernel_rfl) (by kernel_rfl)
set_option maxRecDepth 100000 in
theorem reads (os : Os) {H : Type} (enc : TypeId × Value → H) : ∃ places, DataW.whole enc Tryz.prog ((laidWorld os).forCall (fun _ _ => 0) ⟨#[], #[.int .i64 0], []⟩).memory Tryz.f7.params.toList Rows.scriptManySpec.vars false #[Value.int .i64 0].toList 8 = some ([.lit (.int .i64 0)], [], places) :=
  ⟨[], by kernel_rfl⟩
set_option maxRecDepth 100000 in
theorem contract (H : Type) (enc : TypeId × Value → H) (W : World) (base : Nat) (args : Array Value) (ds gs : List (DataW H)) (before : List MemPlace)
    (hval : ∀ (j : Nat) t v, Tryz.f7.params[j]? = some t → args[j]? = some v → Value.okWide Tryz.prog W .any base t v)
    (hW : DataW.Whole enc Tryz.prog Tryz.f7.params.toList Rows.scriptManySpec.vars false W args.toList ds gs before) (hL : laidMetH Tryz.prog Rows.scriptManyRow.laid W) (hS : W.ShapedOpen Tryz.prog) :
    Calls Tryz.prog 7 args W fun e W' => ∃ v, e = .returned v ∧ Rows.scriptManySpec.post enc Tryz.prog Tryz.f7 false true false false W args v W' := by
  have hW' := hW
  obtain ⟨p, q, hA0, hV, rfl, hfz, hnd⟩ := hW
  have hA : DataW.TrodAll enc Tryz.prog W 0 (fun _ => true) true Tryz.f7.params.toList args.toList ds p := hA0
  rw [Tryz.params7] at hA hval
  have hAk := hA
  have hlt : ∀ x ∈ p, x.block < W.heap.size := fun x hx => by simpa using hW'.lt x (List.mem_append.2 (Or.inl hx))
  obtain ⟨v0, vs0, d0, ds0, p0, q0, hargs, rfl, rfl, h0, r0⟩ := trodAll_cons hA
  obtain ⟨rfl, rfl, rfl⟩ := trodAll_nil r0
  obtain rfl : args = #[v0] := by cases args; simp_all
  obtain ⟨rfl, rfl⟩ := trodVars_none hV
  obtain ⟨n0, rfl, rfl, rfl, hm0⟩ := open_int Tryz.underlying3 (hval 0 3 v0 rfl rfl) h0
  clear hA0
  simp only [List.append_nil] at hW' hAk hlt
  have hT := tab_of hS
  have hP := pow_laid hL
  have hE := err_laid hL
  refine (S.many_walk n0 W hT hP hE).mono fun e W' ⟨he, hb⟩ => ?_
  subst he
  exact ⟨_, rfl, _, _, _, [], _, [], hW', trodAll_mk1 (shut_bool Tryz.underlying4 _), args_below laidOut hb _ _ _ _ (by decide +kernel) hAk hlt, rfl, hb.frame _, fun h => by cases h⟩
set_option maxRecDepth 100000 in
theorem lifted (os : Os) (started : os.Started) (H : Type) (enc : TypeId × Value → H) (F : Stop.Interp) :
    ReturnsInHanded {} Tryz.checked os 7 .any ((OpenSpec.ofChange Rows.scriptManySpec).preRow enc Tryz.prog Tryz.f7 Rows.scriptManyRow.domain false Rows.scriptManyRow.laid) (((OpenSpec.ofChange Rows.scriptManySpec).at F).post enc Tryz.prog Tryz.f7 false true false false) := by
  obtain ⟨places, hx⟩ := reads os enc
  refine returnsInHanded_of_row (C := Tryz.checked) (s := OpenSpec.ofChange Rows.scriptManySpec) own started (by kernel_rfl) Tryz.func7
    (witness_row_atRef (enc := enc) (C := Tryz.checked) false (laidWorld os) #[.int .i64 0] rfl (by kernel_rfl) (by kernel_rfl) (by kernel_rfl)
      (OpenSpec.preRow_of_cond 8 hx (by kernel_rfl) (fun k hk => by cases hk) (by kernel_rfl) (laid_met os))) ?_
  intro W base args ds gs before hval hW _ _ _ hL hS _
  exact contract H enc W base args ds gs before hval hW hL hS
theorem said : Rows.ScriptManySaid :=
  OpenClaim.holds_of_cond 7 Tryz.f7 rfl rfl rfl rfl rfl rfl rfl ⟨rfl, rfl, rfl, rfl, rfl⟩ rfl rfl rfl rfl rfl (by kernel_rfl) Tryz.func7 (by kernel_rfl)
    (of_decide_eq_true (by kernel_rfl)) (by unfold Func.isWrapper; first | (rw [if_pos (by decide +kernel)]; kernel_rfl) | (rw [if_neg (by decide +kernel)]; exact ⟨rfl, rfl⟩))
    (fun os started H enc _ F => by rw [OpenClaim.pre_eq_preRow]; exact lifted os started H enc F)
theorem plain (f : FuncId) (fn : Func) (hf : Tryz.pinned.checked.prog.funcNamed "polyglot/polyglotlaw18.ScriptMany" = some f) (hfn : Tryz.pinned.checked.prog.funcs[f]? = some fn) :
    true = Tryz.pinned.checked.prog.looks [] ∧ ∀ (j : Nat) t, fn.params[j]? = some t → Tryz.pinned.checked.prog.wantsStandIn t = false := by
  obtain rfl : f = 7 := Option.some.inj ((show Tryz.prog.funcNamed "polyglot/polyglotlaw18.ScriptMany" = some 7 by kernel_rfl).symm.trans hf) |>.symm
  obtain rfl : fn = Tryz.f7 := (Option.some.inj (Tryz.func7.symm.trans hfn)).symm
  refine ⟨by kernel_rfl, fun j t ht => ?_⟩
  rw [Tryz.params7] at ht
  have hmem := Array.mem_of_getElem? ht
  have hall : ∀ t ∈ (#[3] : Array TypeId), Tryz.prog.wantsStandIn t = false := by
    intro t ht
    simp at ht
    subst ht
    kernel_rfl
  exact hall t hmem
end Go.Proofs.YtdhpcofnddkcaaaGreatDoor.scriptMany
namespace Go.Proofs.YtdhpcofnddkcaaaGreatDoor
theorem scriptMany_holds : Rows.ScriptManyCardSaid :=
  Claim7.holds_tied_plain_at .later [] _ _ _ _ scriptMany.said (fun _ h => by cases h) (by kernel_rfl) (fun _ h => by cases h) scriptMany_row_tie rfl ⟨rfl, rfl⟩ (by kernel_rfl) rfl scriptMany.plain (by kernel_rfl)
end Go.Proofs.YtdhpcofnddkcaaaGreatDoor
