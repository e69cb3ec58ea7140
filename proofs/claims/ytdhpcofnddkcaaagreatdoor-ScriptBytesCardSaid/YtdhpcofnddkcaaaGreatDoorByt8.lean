/- polyglotlaw18.ScriptBytes: for every slice of steps the call returns true and leaves it unchanged. (Names shortened by a program.) (Text 9 of 10: what the law's proof rests on, joined; walks printed by the kit's print over given contracts, walks and plain laws by hand.) -/
import Derived.IntWalk
import Derived.Lib.Hide
import Derived.Laws.StructEq
import Derived.Test.YtdhpcofnddkcaaaGreatDoorByt0
import Derived.Test.YtdhpcofnddkcaaaGreatDoorByt1
import Derived.Test.YtdhpcofnddkcaaaGreatDoorByt2
import Derived.Test.YtdhpcofnddkcaaaGreatDoorByt3
import Derived.Test.YtdhpcofnddkcaaaGreatDoorByt4
import Derived.Test.YtdhpcofnddkcaaaGreatDoorByt5
import Derived.Test.YtdhpcofnddkcaaaGreatDoorByt6
import Derived.Test.YtdhpcofnddkcaaaGreatDoorByt7
namespace Go.Proofs.YtdhpcofnddkcaaaGreatDoor.S
open Go.RowKit Go.Proofs.YtdhpcofnddkcaaaGreatDoor.G Go.Proofs.YtdhpcofnddkcaaaGreatDoorW.PrintWords Go.Proofs.YtdhpcofnddkcaaaGreatDoorW.PrintLast Go.Proofs.YtdhpcofnddkcaaaGreatDoorW.PrintMore
set_option linter.unusedVariables false
set_option linter.unusedSimpArgs false
attribute [local go_sem] max2_int min2_int max_two min_two max_three min_three max_four min_four
def Jq2 (r0 : List Xx) (r1 r2 : Int) (w : World) (e : Ending) (w' : World) : Prop :=
  ∃ v,e = .returned (.tuple #[v,.int .i64 r1,.int .i64 r2]) ∧ Kd.S k29 29 w' w.heap.size (fun _ => True) v r0 ∧ Below w.heap.size w w'
def Jq3 (s : ByteArray) (L : List Xx) (n : Nat) (e : Int) (w : World) (g fuel a : Nat) (v : Value) (w' : World) : Prop :=
  ∃ xs : List Xx,xs.length ≤ 4096 ∧ a ≤ s.size ∧ s.size < fuel + a ∧ L = xs ++ (Net.Fj Fh (Net.lb s) fuel (4096 - xs.length) a).1.map La ∧ n = (Net.Fj Fh (Net.lb s) fuel (4096 - xs.length) a).2.1 ∧ e = (Net.Fj Fh (Net.lb s) fuel (4096 - xs.length) a).2.2 ∧
    Zp w w' g s (a : Int) false ∧ Kd.S k29 29 w' w.heap.size (fun k => k ≠ g) v xs ∧ Below w.heap.size w w'
set_option maxHeartbeats 8000000 in
set_option maxRecDepth 100000 in
theorem Z4c (A : Option Addr) (c : Nat) (l : List Int) (w : World) (hr : Kd.C (Kd.int .u8) w A l.length l) (hc : l.length ≤ c) (hl : l.length ≤ 262144) (k : Nat) (s : ByteArray) (hs : strOfNums l = s) (hsz : s.size = l.length)
    (hS : ∀ a : Nat,a < s.size → match Net.j6 (Net.lb s) a with
      | some (st,b) => Zl.f k s (a : Int) false = some ((La st).f0,(La st).f1,(La st).f2,(La st).f3,(La st).f4,(La st).f5,(La st).f6,(La st).f7,s,(b : Int),false) ∧ (Net.right Fh st = true → a < b) ∧ b ≤ s.size ∧
          Zk.f k (La st).f0 (La st).f1 (La st).f2 (La st).f3 (La st).f4 (La st).f5 (La st).f6 (La st).f7 = some (Net.right Fh st)
      | none => ∃ (q : Int) (t b : ByteArray) (o : Bool) (ws : List ByteArray) (n m : ByteArray) (ags : List Y4) (a1 : Int),Zl.f k s (a : Int) false = some (q,t,b,o,ws,n,m,ags,s,a1,true))
    (L : List Xx) (n : Nat) (e : Int) (h1 : L = (Net.Fj Fh (Net.lb s) (l.length + 1) 4096 0).1.map La) (h2 : n = (Net.Fj Fh (Net.lb s) (l.length + 1) 4096 0).2.1) (h3 : e = (Net.Fj Fh (Net.lb s) (l.length + 1) 4096 0).2.2)
    (HT : Dt w) (HP : Yg w) (HE : Qs w) :
    Calls Tryz.prog 15 #[.slice A l.length c] w (Jq2 L n e w) := by
  have n1 : decide ((262144 : Int) < (l.length : Int)) = false := decide_eq_false (by omega)
  have n2 : (l.length : Int) ≤ 262144 := by omega
  have hcv : (convert 32 9 (.slice A l.length c)).run Tryz.prog w = .ok (.string s) w := by
    rw [← hs]
    exact Kd.Le Tryz.underlying32 Tryz.underlying5 Tryz.underlying9 hr
  have HS := Lib.hid hS
  have HC := Lib.hid hr
  have H1 := Lib.hid h1
  have H2 := Lib.hid h2
  have H3 := Lib.hid h3
  have HSZ := Lib.hid hsz
  have m1 : (s.size : Int) ≤ 262144 := by omega
  clear hS hr hs h1 h2 h3 hsz
  go_enter Tryz.func15,Tryz.ntmps15
  go_wp2
  go_loopg [6] (l.length + 1) (fun fuel v6 w' => ∃ a : Nat,Jq3 s L n e w w.heap.size fuel a v6 w')
  case atStart =>
    have hI := Zp.new w w s 0 false (Below.refl _ _)
    refine ⟨0,[],by simp,by omega,by have := HSZ.out;omega,H1.out,H2.out,H3.out,hI,Kd.Jll _ _ _ _ _,Z4 (Below.refl _ _) _⟩
  case round =>
    obtain ⟨a,xs,hx,ha,hf,g1,g2,g3,hI,hv,hb⟩ := hrel
    have k0 := Xg hI.1
    have k1 := Xh hI.1
    have k2 := Xi hI.1
    have HI := Lib.hid hI
    have HV := Lib.hid hv
    have HB := Lib.hid hb
    obtain ⟨Ax,cx,rfl⟩ := Kd.Lg hv
    clear hI hv hb
    by_cases hlt : a < s.size
    · have q0 : decide (a < s.size) = true := decide_eq_true hlt
      have HG1 := Lib.hid g1
      have HG2 := Lib.hid g2
      have HG3 := Lib.hid g3
      have HF := Lib.hid hf
      have HA := Lib.hid hlt
      have HX := Lib.hid hx
      clear g1 g2 g3 hf hlt ha hx
      go_wp2
      go_quiet (fail)
      go_upto_region 7 with (fail)
      have cS := HS.out a HA.out
      have HTw := Dt.step HT HB.out
      have HPw := Yg.step HP HB.out
      have HEw := Qs.step HE HB.out
      cases hst : Net.j6 (Net.lb s) a with
      | none =>
        rw [hst] at cS
        obtain ⟨q,t,b,o,ws,nm,mm,ags,a1,hf⟩ := cS
        have cC := Zl.calls k w.heap.size s (a : Int) false q t b o ws nm mm ags s a1 true w (wr.drewN nq) (Zp.drewN HI.out nq) (Zr HB.out nq) hf HT HP HE
        have HST := Lib.hid hst
        clear hst hf
        go_upto_region 8 with (first
          | (go_at_call 25;refine cC.mono ?_;rintro e1 W1 ⟨v4,v7,rfl,h4,h7,hI1,hb1,hk1⟩;obtain ⟨A4,c4,rfl⟩ := Kd.Dw h4;obtain ⟨A7,c7,rfl⟩ := Kd.Dw h7;have HI1 := Lib.hid hI1;have HB1 := Lib.hid hb1;have HK1 := Lib.hid hk1;clear h4 h7 hI1 hb1 hk1)
          | ((with_reducible refine Jg (N := 8) rfl ?_);(try (refine Jr (by rfl) ?_;dsimp only));refine Je ?hg (N := 8) ?hd (cs := #[.int .i64 0,.string (⟨#[]⟩ : ByteArray),.string (⟨#[]⟩ : ByteArray),.bool false,.slice none 0 0,.string (⟨#[]⟩ : ByteArray),.string (⟨#[]⟩ : ByteArray),.slice none 0 0]) (t := 29) ?hr ?_;(case hd => rfl);(case hg => rfl);(case hr => first | (go_simp;done) | (go_simp;rfl));intro gb hg W2 hbox hb;have hfz0 := Zj hbox 0;have hfz1 := Zj hbox 1;have hfz2 := Zj hbox 2;have hfz3 := Zj hbox 3;have hfz4 := Zj hbox 4;have hfz5 := Zj hbox 5;have hfz6 := Zj hbox 6;have hfz7 := Zj hbox 7;have hc0 := Zd hbox 0;have hc1 := Zd hbox 1;have hc2 := Zd hbox 2;have hc3 := Zd hbox 3;have hc4 := Zd hbox 4;have hc5 := Zd hbox 5;have hc6 := Zd hbox 6;have hc7 := Zd hbox 7;have HBX := Lib.hid hbox;have HBB := Lib.hid hb;have HGB := Lib.hid hg;clear hbox hb hg))
        have hgb : gb = W1.heap.size := HGB.out
        have BK := Zr5 HBX.out (.int .i64 q) (.string t) (.string b) (.bool o) (.slice A4 ws.length c4) (.string nm) (.string mm) (.slice A7 ags.length c7)
        have HS8 := Zfs HBB.out (by omega : W1.heap.size ≤ gb) (.int .i64 q) (.string t) (.string b) (.bool o) (.slice A4 ws.length c4) (.string nm) (.string mm) (.slice A7 ags.length c7)
        generalize ((((((((W2.setCell ⟨gb,0,none⟩ (.int .i64 q)).setCell ⟨gb,1,none⟩ (.string t)).setCell ⟨gb,2,none⟩ (.string b)).setCell ⟨gb,3,none⟩ (.bool o)).setCell ⟨gb,4,none⟩ (.slice A4 ws.length c4)).setCell ⟨gb,5,none⟩ (.string nm)).setCell ⟨gb,6,none⟩ (.string mm)).setCell ⟨gb,7,none⟩ (.slice A7 ags.length c7)) = W3 at BK HS8 ⊢
        have hI3 := HI1.out.below HS8
        have hB3 := Zm HB1.out HS8
        have hV3 := Kd.Kz (Kd.Jdg (Kd.fo (Kd.Zfk (Kd.Zui HV.out) (fun k_ hk_ => (⟨hk_.1,Nat.not_le.2 hk_.2.2.1⟩ : k_ ≠ w.heap.size ∧ ¬ wr.heap.size ≤ k_))) nq) HK1.out (fun _ h => h.1)) HS8
        clear HS8 BK hgb hfz0 hfz1 hfz2 hfz3 hfz4 hfz5 hfz6 hfz7 hc0 hc1 hc2 hc3 hc4 hc5 hc6 hc7 HBX HBB HGB k0 k1 k2 cC
        have y0 := Xg hI3.1
        have y1 := Xh hI3.1
        have y2 := Xi hI3.1
        have HI3 := Lib.hid hI3
        have HB3 := Lib.hid hB3
        have HV3 := Lib.hid hV3
        clear hI3 hB3 hV3
        have hD : Net.Fj Fh (Net.lb s) gk (4096 - xs.length) a = ([],a,2) := by
          obtain ⟨m,hm⟩ : ∃ m,gk = m + 1 := ⟨gk - 1,by have := HF.out;have := HA.out;omega⟩
          have hl : a < (Net.lb s).length := by
            have := Lib.size_eq s
            have := HA.out
            show a < s.data.toList.length
            omega
          rw [hm,Net.Fj,if_pos hl,HST.out]
        have g1 := HG1.out
        have g2 := HG2.out
        have g3 := HG3.out
        rw [hD] at g1 g2 g3
        have e1 : L = xs := by rw [g1];simp
        have e2 : n = a := g2
        have e3 : e = 2 := g3
        subst e1 e2 e3
        clear hD g1 g2 g3 HG1 HG2 HG3 H1 H2 H3
        go_wp2
        go_ret3
        exact ⟨_,rfl,Kd.Zfk HV3.out (fun _ _ => trivial),HB3.out⟩
      | some r =>
        obtain ⟨st,b⟩ := r
        rw [hst] at cS
        obtain ⟨hf,hab,hbs,hRt⟩ := cS
        generalize hxx : La st = x at hf hRt
        have cC := Zl.calls k w.heap.size s (a : Int) false x.f0 x.f1 x.f2 x.f3 x.f4 x.f5 x.f6 x.f7 s b false w (wr.drewN nq) (Zp.drewN HI.out nq) (Zr HB.out nq) hf HT HP HE
        have HST := Lib.hid hst
        have HXX := Lib.hid hxx
        have HRT := Lib.hid hRt
        have HAB := Lib.hid hab
        have HBS := Lib.hid hbs
        clear hst hf hxx hRt hab hbs
        go_upto_region 8 with (first
          | (go_at_call 25;refine cC.mono ?_;rintro e1 W1 ⟨v4,v7,rfl,h4,h7,hI1,hb1,hk1⟩;obtain ⟨A4,c4,rfl⟩ := Kd.Dw h4;obtain ⟨A7,c7,rfl⟩ := Kd.Dw h7;have HI1 := Lib.hid hI1;have HB1 := Lib.hid hb1;have HK1 := Lib.hid hk1;have H4 := Lib.hid h4;have H7 := Lib.hid h7;clear h4 h7 hI1 hb1 hk1)
          | ((with_reducible refine Jg (N := 8) rfl ?_);(try (refine Jr (by rfl) ?_;dsimp only));refine Je ?hg (N := 8) ?hd (cs := #[.int .i64 0,.string (⟨#[]⟩ : ByteArray),.string (⟨#[]⟩ : ByteArray),.bool false,.slice none 0 0,.string (⟨#[]⟩ : ByteArray),.string (⟨#[]⟩ : ByteArray),.slice none 0 0]) (t := 29) ?hr ?_;(case hd => rfl);(case hg => rfl);(case hr => first | (go_simp;done) | (go_simp;rfl));intro gb hg W2 hbox hb;have hfz0 := Zj hbox 0;have hfz1 := Zj hbox 1;have hfz2 := Zj hbox 2;have hfz3 := Zj hbox 3;have hfz4 := Zj hbox 4;have hfz5 := Zj hbox 5;have hfz6 := Zj hbox 6;have hfz7 := Zj hbox 7;have hc0 := Zd hbox 0;have hc1 := Zd hbox 1;have hc2 := Zd hbox 2;have hc3 := Zd hbox 3;have hc4 := Zd hbox 4;have hc5 := Zd hbox 5;have hc6 := Zd hbox 6;have hc7 := Zd hbox 7;have HBX := Lib.hid hbox;have HBB := Lib.hid hb;have HGB := Lib.hid hg;clear hbox hb hg))
        have hgb : gb = W1.heap.size := HGB.out
        have BK := Zr5 HBX.out (.int .i64 x.f0) (.string x.f1) (.string x.f2) (.bool x.f3) (.slice A4 x.f4.length c4) (.string x.f5) (.string x.f6) (.slice A7 x.f7.length c7)
        have HS8 := Zfs HBB.out (by omega : W1.heap.size ≤ gb) (.int .i64 x.f0) (.string x.f1) (.string x.f2) (.bool x.f3) (.slice A4 x.f4.length c4) (.string x.f5) (.string x.f6) (.slice A7 x.f7.length c7)
        generalize ((((((((W2.setCell ⟨gb,0,none⟩ (.int .i64 x.f0)).setCell ⟨gb,1,none⟩ (.string x.f1)).setCell ⟨gb,2,none⟩ (.string x.f2)).setCell ⟨gb,3,none⟩ (.bool x.f3)).setCell ⟨gb,4,none⟩ (.slice A4 x.f4.length c4)).setCell ⟨gb,5,none⟩ (.string x.f5)).setCell ⟨gb,6,none⟩ (.string x.f6)).setCell ⟨gb,7,none⟩ (.slice A7 x.f7.length c7)) = W3 at BK HS8 ⊢
        have hI3 := HI1.out.below HS8
        have hB3 := Zm HB1.out HS8
        have hV3 := Kd.Kz (Kd.Jdg (Kd.fo (Kd.Zfk (Kd.Zui HV.out) (fun k_ hk_ => (⟨hk_.1,Nat.not_le.2 hk_.2.2.1⟩ : k_ ≠ w.heap.size ∧ ¬ wr.heap.size ≤ k_))) nq) HK1.out (fun _ h => h.1)) HS8
        have h43 := Kd.Qq H4.out HS8
        have h73 := Kd.Qq H7.out HS8
        have hN : wr.heap.size ≤ W3.heap.size := by have := HK1.out.1;have := HS8.size;simp at *;omega
        clear HS8 hgb hfz0 hfz1 hfz2 hfz3 hfz4 hfz5 hfz6 hfz7 hc0 hc1 hc2 hc3 hc4 hc5 hc6 hc7 HBX HBB HGB k0 k1 k2 cC
        have y0 := Xg hI3.1
        have y1 := Xh hI3.1
        have y2 := Xi hI3.1
        have HI3 := Lib.hid hI3
        have HB3 := Lib.hid hB3
        have HV3 := Lib.hid hV3
        clear hI3 hB3 hV3
        have hxl := HX.out
        have hlt : a < (Net.lb s).length := by
          have := Lib.size_eq s
          have := HA.out
          show a < s.data.toList.length
          omega
        obtain ⟨m,hm⟩ : ∃ m,gk = m + 1 := ⟨gk - 1,by have := HF.out;have := HA.out;omega⟩
        subst hm
        have z0 := Zd BK 0
        have z1 := Zd BK 1
        have z2 := Zd BK 2
        have z3 := Zd BK 3
        have z4 := Zd BK 4
        have z5 := Zd BK 5
        have z6 := Zd BK 6
        have z7 := Zd BK 7
        have cR := Zk.calls k x.f0 x.f1 x.f2 x.f3 A4 c4 x.f4 x.f5 x.f6 A7 c7 x.f7 (Net.right Fh st) W3 (Kd.Ld h43).2.2 (Kd.Ld h43).2.1 (Kd.Ld h73).2.2 (Kd.Ld h73).2.1 HRT.out (Dt.step HT HB3.out) (Yg.step HP HB3.out) (Qs.step HE HB3.out)
        have BK3 := Lib.hid BK
        have H43 := Lib.hid h43
        have H73 := Lib.hid h73
        have HNN := Lib.hid hN
        have HLT := Lib.hid hlt
        clear BK h43 h73 hN hlt
        by_cases hRx : Net.right Fh st = true
        · rw [hRx] at cR
          have HRX := Lib.hid hRx
          clear hRx
          by_cases hfull : xs.length = 4096
          · have hD : Net.Fj Fh (Net.lb s) (m + 1) (4096 - xs.length) a = ([],a,4) := by
              rw [Net.Fj,if_pos HLT.out,HST.out]
              show (if Net.right Fh st = true then _ else _) = _
              rw [if_pos HRX.out,if_pos (by omega)]
            have g1 := HG1.out
            have g2 := HG2.out
            have g3 := HG3.out
            rw [hD] at g1 g2 g3
            have e1 : L = xs := by rw [g1];simp
            have e2 : n = a := g2
            have e3 : e = 4 := g3
            subst e1 e2 e3
            have q1 : ((L.length : Int) == 4096) = true := by rw [hfull];rfl
            clear hD g1 g2 g3 HG1 HG2 HG3 H1 H2 H3 hfull hxl HX
            go_wp2_with ((go_at_call 11;refine cR.mono ?_;rintro e1 W5 ⟨rfl,b5⟩;have HB5 := Lib.hid (Zm HB3.out b5);have HV5 := Lib.hid (Kd.Kz HV3.out b5);clear b5))
            go_ret3
            exact ⟨_,rfl,Kd.Zfk HV5.out (fun _ _ => trivial),HB5.out⟩
          · have q1 : ((xs.length : Int) == 4096) = false := by
              rw [beq_eq_false_iff_ne]
              omega
            have q2 : (xs.length : Int) ≤ 4095 := by omega
            have hD : Net.Fj Fh (Net.lb s) (m + 1) (4096 - xs.length) a = (st :: (Net.Fj Fh (Net.lb s) m (4096 - (xs.length + 1)) b).1,(Net.Fj Fh (Net.lb s) m (4096 - (xs.length + 1)) b).2.1,(Net.Fj Fh (Net.lb s) m (4096 - (xs.length + 1)) b).2.2) := by
              rw [Net.Fj,if_pos HLT.out,HST.out]
              show (if Net.right Fh st = true then _ else _) = _
              rw [if_pos HRX.out,if_neg (by omega),show 4096 - xs.length - 1 = 4096 - (xs.length + 1) by omega]
            have g1 := HG1.out
            have g2 := HG2.out
            have g3 := HG3.out
            rw [hD] at g1 g2 g3
            rw [List.map_cons,HXX.out] at g1
            have HG4 := Lib.hid g1
            have HG5 := Lib.hid g2
            have HG6 := Lib.hid g3
            have hx5 : xs.length ≤ 4095 := by omega
            have HX5 := Lib.hid hx5
            clear hD g1 g2 g3 HG1 HG2 HG3 H1 H2 H3 hfull hxl HX hx5
            go_wp2_with (first
              | (go_at_call 11;refine cR.mono ?_;rintro e1 W5 ⟨rfl,b5⟩;have BK5 := Zw BK3.out b5;have t0 := Zd BK5 0;have t1 := Zd BK5 1;have t2 := Zd BK5 2;have t3 := Zd BK5 3;have t4 := Zd BK5 4;have t5 := Zd BK5 5;have t6 := Zd BK5 6;have t7 := Zd BK5 7;have HB5 := Lib.hid (Zm HB3.out b5);have HV5 := Lib.hid (Kd.Kz HV3.out b5);have HI5 := Lib.hid (HI3.out.below b5);have H45 := Lib.hid (Kd.Qq H43.out b5);have H75 := Lib.hid (Kd.Qq H73.out b5);clear b5 BK5)
              | (at_builtin;refine Kd.Jdj k29 (w0 := w) w.heap.size rfl (.tmp 48) (.tmp 50) 22 29 _ 128 rfl Tryz.underlying22 Joc rfl (by decide) (by decide) (.slice Ax xs.length cx) xs x [.int .i64 x.f0,.string x.f1,.string x.f2,.bool x.f3,.slice A4 x.f4.length c4,.string x.f5,.string x.f6,.slice A7 x.f7.length c7] (fun k_ => k_ ≠ w.heap.size) (fun k_ => wr.heap.size ≤ k_) rfl rfl ?c1 ?c2 ?c3 HV5.out HB5.out HB5.out.size ?c4 ?_))
            case c1 => exact Z45 _ _ _ x (Kd.Pg (Kd.Xc (Kd.Lc H45.out) (fun _ hk => hk.2.1)) HB.out.size) (Kd.Pg (Kd.Xc (Kd.Lc H75.out) (fun _ hk => hk.2.1)) HB.out.size)
            case c2 => exact fun k_ hk_ => ⟨by have := HI.out.lt;omega,fun he => by have := Kd.Zp1 HV.out k_ he.symm;omega⟩
            case c3 => exact fun k_ hk_ => by have := HI5.out.lt;omega
            case c4 => have := HX5.out;omega
            intro v1 W6 hv1 hb1 hg1 hat
            have hI6 := HI5.out.grown hg1 (Zp.Jkw HI.out HV.out (by decide))
            have HI6 := Lib.hid hI6
            have HV6 := Lib.hid hv1
            have HB6 := Lib.hid hb1
            clear hI6 hv1 hb1 hg1 hat
            go_wp2
            go_roundg m
            case measure => omega
            case rel =>
              refine ⟨b,xs ++ [x],?_,HBS.out,?_,?_,?_,?_,HI6.out,HV6.out,HB6.out⟩
              · rw [List.length_append]
                have := HX5.out
                simp
                omega
              · have := HF.out
                have := HAB.out HRX.out
                omega
              · rw [HG4.out,List.length_append,List.append_assoc]
                rfl
              · rw [HG5.out,List.length_append]
                rfl
              · rw [HG6.out,List.length_append]
                rfl
        · have hRf : Net.right Fh st = false := by simpa using hRx
          rw [hRf] at cR
          have hD : Net.Fj Fh (Net.lb s) (m + 1) (4096 - xs.length) a = ([],a,2) := by
            rw [Net.Fj,if_pos HLT.out,HST.out]
            show (if Net.right Fh st = true then _ else _) = _
            rw [if_neg hRx]
          have g1 := HG1.out
          have g2 := HG2.out
          have g3 := HG3.out
          rw [hD] at g1 g2 g3
          have e1 : L = xs := by rw [g1];simp
          have e2 : n = a := g2
          have e3 : e = 2 := g3
          subst e1 e2 e3
          clear hD g1 g2 g3 HG1 HG2 HG3 H1 H2 H3 hRx hRf hxl HX
          go_wp2_with ((go_at_call 11;refine cR.mono ?_;rintro e1 W5 ⟨rfl,b5⟩;have HB5 := Lib.hid (Zm HB3.out b5);have HV5 := Lib.hid (Kd.Kz HV3.out b5);clear b5))
          go_ret3
          exact ⟨_,rfl,Kd.Zfk HV5.out (fun _ _ => trivial),HB5.out⟩
    · have q0 : decide (a < s.size) = false := decide_eq_false hlt
      have hD : Net.Fj Fh (Net.lb s) gk (4096 - xs.length) a = ([],a,0) := by
        obtain ⟨m,rfl⟩ : ∃ m,gk = m + 1 := ⟨gk - 1,by omega⟩
        have : ¬ a < (Net.lb s).length := by
          have := Lib.size_eq s
          show ¬ a < s.data.toList.length
          omega
        rw [Net.Fj,if_neg this]
      rw [hD] at g1 g2 g3
      have e1 : L = xs := by rw [g1];simp
      have e2 : n = a := g2
      have e3 : e = 0 := g3
      subst e1 e2 e3
      clear hD g1 g2 g3 hf hlt ha hx H1 H2 H3
      go_wp2
      go_quiet (fail)
      go_wp2
      go_quiet (fail)
      go_wp2
      go_ret3
      exact ⟨_,rfl,Kd.Zfk (Kd.fo (Kd.fo HV.out _) _) (fun _ _ => trivial),Zr (Zr HB.out _) _⟩
end Go.Proofs.YtdhpcofnddkcaaaGreatDoor.S
namespace Go.Proofs.YtdhpcofnddkcaaaGreatDoor.S
open Go.RowKit Go.Proofs.YtdhpcofnddkcaaaGreatDoor.G Go.Proofs.YtdhpcofnddkcaaaGreatDoorW.PrintWords Go.Proofs.YtdhpcofnddkcaaaGreatDoorW.PrintLast Go.Proofs.YtdhpcofnddkcaaaGreatDoorW.PrintMore
set_option linter.unusedVariables false
set_option linter.unusedSimpArgs false
attribute [local go_sem] max2_int min2_int max_two min_two max_three min_three max_four min_four
theorem za (s : ByteArray) (hs : s.size ≤ 1000000) (a : Nat) (ha : a ≤ s.size) : Zq.f s (a : Int) true = some (Net.em,s,(a : Int),true) := by
  unfold Zq.f
  rw [if_pos ⟨hs,by omega,by omega⟩,if_pos rfl]
  rfl
theorem Gs (s : ByteArray) (hs : s.size ≤ 1000000) (a : Nat) (ha : a ≤ s.size) (h : Net.Ph (bl s) a = none) : Zq.f s (a : Int) false = some (Net.em,s,(a : Int),true) := by
  unfold Zq.f
  rw [if_pos ⟨hs,by omega,by omega⟩,if_neg (by decide),Int.toNat_natCast]
  show (match Net.Ph (bl s) a with | some (p,b) => _ | none => _) = _
  rw [h]
  rfl
theorem kr (s : ByteArray) (hs : s.size ≤ 1000000) (a : Nat) (ha : a ≤ s.size) {p : ByteArray} {b : Nat} (h : Net.Ph (bl s) a = some (p,b)) : Zq.f s (a : Int) false = some (p,s,(b : Int),false) ∧ b ≤ s.size := by
  have hz : s.size = (bl s).length := sz s
  refine ⟨?_,?_⟩
  · unfold Zq.f
    rw [if_pos ⟨hs,by omega,by omega⟩,if_neg (by decide),Int.toNat_natCast]
    show (match Net.Ph (bl s) a with | some (p,b) => _ | none => _) = _
    rw [h]
  · obtain ⟨_,h2,h3⟩ := Net.X6 h
    have := Net.Jhz h3 (by omega)
    omega
theorem Jgs : Net.cnt (bl Net.em) = none := by
  cases h : Net.cnt (bl Net.em) with
  | none => rfl
  | some n => exact absurd (Net.zz h).2.symm (Net.Zke n)
theorem Zfz {p : ByteArray} (hp : p.size ≤ 281474976710656) (h : Net.cnt (bl p) = none) : ∃ v,Xe.f p = some (v,false) := by
  obtain ⟨v,b,h1,h2⟩ := Zkf p hp
  have h2' : (match Net.cnt (bl p) with | some n => v = (n : Int) ∧ b = true | none => b = false) := h2
  rw [h] at h2'
  have : b = false := h2'
  subst this
  exact ⟨v,h1⟩
theorem Z4d {p : ByteArray} {n : Nat} (hp : p.size ≤ 281474976710656) (h : Net.cnt (bl p) = some n) : Xe.f p = some ((n : Int),true) := by
  obtain ⟨v,b,h1,h2⟩ := Zkf p hp
  have h2' : (match Net.cnt (bl p) with | some n => v = (n : Int) ∧ b = true | none => b = false) := h2
  rw [h] at h2'
  obtain ⟨rfl,rfl⟩ : v = (n : Int) ∧ b = true := h2'
  exact h1
theorem Zse (s : ByteArray) (hs : s.size ≤ 1000000) (a : Nat) (ha : a ≤ s.size) : Jv.f s (a : Int) true = some (0,s,(a : Int),true) := by
  obtain ⟨v,hv⟩ := Zfz (p := Net.em) (by decide) Jgs
  unfold Jv.f
  rw [za s hs a ha,Option.bind_some,hv,Option.bind_some]
  rfl
theorem Z1w (s : ByteArray) (hs : s.size ≤ 1000000) (a : Nat) (ha : a ≤ s.size) (h : Net.Ph (bl s) a = none) : Jv.f s (a : Int) false = some (0,s,(a : Int),true) := by
  obtain ⟨v,hv⟩ := Zfz (p := Net.em) (by decide) Jgs
  unfold Jv.f
  rw [Gs s hs a ha h,Option.bind_some,hv,Option.bind_some]
  rfl
theorem Jgt (s : ByteArray) (hs : s.size ≤ 1000000) (a : Nat) (ha : a ≤ s.size) {p : ByteArray} {b : Nat} (h : Net.Ph (bl s) a = some (p,b)) (hc : Net.cnt (bl p) = none) : Jv.f s (a : Int) false = some (0,s,(b : Int),true) ∧ b ≤ s.size := by
  obtain ⟨h1,h2⟩ := kr s hs a ha h
  obtain ⟨v,hv⟩ := Zfz (p := p) (by
    have h3 : (bl p).length ≤ 262144 := (Net.X6 h).1
    have := sz p
    omega) hc
  refine ⟨?_,h2⟩
  unfold Jv.f
  rw [h1,Option.bind_some,hv,Option.bind_some]
  rfl
theorem Jgu (s : ByteArray) (hs : s.size ≤ 1000000) (a : Nat) (ha : a ≤ s.size) {p : ByteArray} {b n : Nat} (h : Net.Ph (bl s) a = some (p,b)) (hc : Net.cnt (bl p) = some n) : Jv.f s (a : Int) false = some ((n : Int),s,(b : Int),false) ∧ b ≤ s.size := by
  obtain ⟨h1,h2⟩ := kr s hs a ha h
  have hv := Z4d (p := p) (by
    have h3 : (bl p).length ≤ 262144 := (Net.X6 h).1
    have := sz p
    omega) hc
  refine ⟨?_,h2⟩
  unfold Jv.f
  rw [h1,Option.bind_some,hv,Option.bind_some]
  rfl
abbrev RT := Int × ByteArray × ByteArray × Bool × List ByteArray × ByteArray × ByteArray × (List (Y4)) × ByteArray × Int × Bool
def Fails (s : ByteArray) (r : Option RT) : Prop := ∃ (q : Int) (t b : ByteArray) (o : Bool) (ws : List ByteArray) (n m : ByteArray) (ags : List Y4) (a : Nat),r = some (q,t,b,o,ws,n,m,ags,s,(a : Int),true)
def Reads (s : ByteArray) (st : Xx) (b : Nat) (r : Option RT) : Prop := r = some (st.f0,st.f1,st.f2,st.f3,st.f4,st.f5,st.f6,st.f7,s,(b : Int),false) ∧ b ≤ s.size
theorem Jco (s : ByteArray) (hs : s.size ≤ 1000000) (q : Int) (t b0 : ByteArray) (o : Bool) (nm at_ : ByteArray) : ∀ (n a : Nat) (acc : List ByteArray),a ≤ s.size → acc.length + n ≤ 1000000 → ∀ k,n + 2 ≤ k →
    match Net.rdN (bl s) n a with
    | some (ws,b) => Zl.l0 k (n : Int) s (a : Int) false q t b0 o acc nm at_ = some (q,t,b0,o,acc ++ ws,nm,at_,[],s,(b : Int),false) ∧ b ≤ s.size
    | none => Fails s (Zl.l0 k (n : Int) s (a : Int) false q t b0 o acc nm at_) := by
  intro n
  induction n with
  | zero =>
    intro a acc ha hacc k hk
    obtain ⟨m,rfl⟩ : ∃ m,k = m + 1 := ⟨k - 1,by omega⟩
    show Zl.l0 (m + 1) ((0 : Nat) : Int) s (a : Int) false q t b0 o acc nm at_ = some (q,t,b0,o,acc ++ [],nm,at_,[],s,(a : Int),false) ∧ a ≤ s.size
    rw [Zl.l0,if_neg (by omega),List.append_nil]
    exact ⟨rfl,ha⟩
  | succ n ih =>
    intro a acc ha hacc k hk
    obtain ⟨m,rfl⟩ : ∃ m,k = m + 1 := ⟨k - 1,by omega⟩
    rw [Net.rdN]
    cases h : Net.Ph (bl s) a with
    | none =>
      show Fails s _
      obtain ⟨j,rfl⟩ : ∃ j,m = j + 1 := ⟨m - 1,by omega⟩
      rw [Zl.l0,if_pos (by omega),if_neg (by decide),Gs s hs a ha h,Option.bind_some,if_pos (by omega),Zl.l0]
      by_cases hp : wrap64 (((n + 1 : Nat) : Int) - 1) > 0
      · rw [if_pos hp,if_pos rfl]
        exact ⟨_,_,_,_,_,_,_,_,_,rfl⟩
      · rw [if_neg hp]
        exact ⟨_,_,_,_,_,_,_,_,_,rfl⟩
    | some r =>
      obtain ⟨p,b⟩ := r
      obtain ⟨h1,h2⟩ := kr s hs a ha h
      have hstep : Zl.l0 (m + 1) ((n + 1 : Nat) : Int) s (a : Int) false q t b0 o acc nm at_ = Zl.l0 m (n : Int) s (b : Int) false q t b0 o (acc ++ [p]) nm at_ := by
        rw [Zl.l0,if_pos (by omega),if_neg (by decide),h1,Option.bind_some,if_pos (by omega),l5 _ (by omega) (by omega),show ((n + 1 : Nat) : Int) - 1 = (n : Int) by omega]
      have := ih b (acc ++ [p]) h2 (by simp;omega) m (by omega)
      rw [hstep]
      show (match (match Net.rdN (bl s) n b with | none => none | some (ts,a2) => some (p :: ts,a2)) with
        | some (ws,b) => _
        | none => _)
      cases h3 : Net.rdN (bl s) n b with
      | none =>
        rw [h3] at this
        exact this
      | some r2 =>
        obtain ⟨ws,c⟩ := r2
        rw [h3] at this
        obtain ⟨e1,e2⟩ : _ ∧ _ := this
        refine ⟨?_,e2⟩
        rw [e1,List.append_assoc]
        rfl
end Go.Proofs.YtdhpcofnddkcaaaGreatDoor.S
namespace Go.Proofs.YtdhpcofnddkcaaaGreatDoor.S
open Go.RowKit Go.Proofs.YtdhpcofnddkcaaaGreatDoor.G Go.Proofs.YtdhpcofnddkcaaaGreatDoorW.PrintWords Go.Proofs.YtdhpcofnddkcaaaGreatDoorW.PrintLast Go.Proofs.YtdhpcofnddkcaaaGreatDoorW.PrintMore
set_option linter.unusedVariables false
set_option linter.unusedSimpArgs false
attribute [local go_sem] max2_int min2_int max_two min_two max_three min_three max_four min_four
theorem Sd (s : ByteArray) (q : Int) (t b0 : ByteArray) (o : Bool) (nm at_ : ByteArray) (acc : List Y4) (x : Int) (a : Nat) (k : Nat) (hk : 2 ≤ k) : Fails s (Zl.l1 k x s (a : Int) true q t b0 o nm at_ acc) := by
  obtain ⟨m,rfl⟩ : ∃ m,k = m + 1 + 1 := ⟨k - 2,by omega⟩
  rw [Zl.l1]
  by_cases h : x > 0
  · rw [if_pos h,Zl.j2,if_neg (by decide)]
    exact ⟨_,_,_,_,_,_,_,_,_,rfl⟩
  · rw [if_neg h,Zl.j2,if_neg (by decide)]
    exact ⟨_,_,_,_,_,_,_,_,_,rfl⟩
theorem Jgv (k : ByteArray) : strings_Index.f (⟨#[116,110,109]⟩ : ByteArray) k = some (Net.kindOf k) := by
  unfold strings_Index.f
  rw [if_pos (by decide)]
  rfl
theorem Jgw (s : ByteArray) (hs : s.size ≤ 1000000) (q : Int) (t b0 : ByteArray) (o : Bool) (nm at_ : ByteArray) : ∀ (n a : Nat) (acc : List Y4),a ≤ s.size → acc.length + n ≤ 1000000 → ∀ k,2 * n + 4 ≤ k →
    match Net.rdA (bl s) n a with
    | some (ags,b) => Zl.l1 k (n : Int) s (a : Int) false q t b0 o nm at_ acc = some (q,t,b0,o,[],nm,at_,acc ++ ags.map Zz6,s,(b : Int),false) ∧ b ≤ s.size
    | none => Fails s (Zl.l1 k (n : Int) s (a : Int) false q t b0 o nm at_ acc) := by
  intro n
  induction n with
  | zero =>
    intro a acc ha hacc k hk
    obtain ⟨m,rfl⟩ : ∃ m,k = m + 1 + 1 := ⟨k - 2,by omega⟩
    show Zl.l1 (m + 1 + 1) ((0 : Nat) : Int) s (a : Int) false q t b0 o nm at_ acc = some (q,t,b0,o,[],nm,at_,acc ++ [],s,(a : Int),false) ∧ a ≤ s.size
    rw [Zl.l1,if_neg (by omega),Zl.j2,if_neg (by decide),List.append_nil]
    exact ⟨rfl,ha⟩
  | succ n ih =>
    intro a acc ha hacc k hk
    obtain ⟨m,rfl⟩ : ∃ m,k = m + 1 + 1 := ⟨k - 2,by omega⟩
    have hin : Zl.l1 (m + 1 + 1) ((n + 1 : Nat) : Int) s (a : Int) false q t b0 o nm at_ acc = Zl.j2 (m + 1) ((n + 1 : Nat) : Int) true s (a : Int) false q t b0 o nm at_ acc := by
      rw [Zl.l1,if_pos (by omega)]
      rfl
    rw [hin,Zl.j2,if_pos rfl,Net.rdA]
    have hx : wrap64 (((n + 1 : Nat) : Int) - 1) = (n : Int) := by rw [l5 _ (by omega) (by omega)];omega
    cases h : Net.Ph (bl s) a with
    | none =>
      show Fails s _
      rw [Gs s hs a ha h,Option.bind_some,za s hs a ha,Option.bind_some,Jgv,Option.bind_some,za s hs a ha,Option.bind_some,if_pos rfl,if_pos (by omega)]
      exact Sd s q t b0 o nm at_ _ _ a m (by omega)
    | some r =>
      obtain ⟨p,b⟩ := r
      obtain ⟨h1,h2⟩ := kr s hs a ha h
      rw [h1,Option.bind_some]
      cases hk2 : Net.Ph (bl s) b with
      | none =>
        simp only [hk2]
        rw [Gs s hs b h2 hk2,Option.bind_some,Jgv,Option.bind_some,za s hs b h2,Option.bind_some,if_pos rfl,if_pos (by omega)]
        exact Sd s q t b0 o nm at_ _ _ b m (by omega)
      | some r =>
        obtain ⟨kk,c⟩ := r
        obtain ⟨h3,h4⟩ := kr s hs b h2 hk2
        simp only [hk2]
        rw [h3,Option.bind_some,Jgv,Option.bind_some]
        cases hk3 : Net.Ph (bl s) c with
        | none =>
          simp only []
          rw [Gs s hs c h4 hk3,Option.bind_some,if_pos rfl,if_pos (by omega)]
          exact Sd s q t b0 o nm at_ _ _ c m (by omega)
        | some r =>
          obtain ⟨tx,d⟩ := r
          obtain ⟨h5,h6⟩ := kr s hs c h4 hk3
          simp only []
          have hzk : kk.size = (Net.lb kk).length := sz kk
          by_cases hl : (Net.lb kk).length = 1
          · rw [if_pos hl,h5,Option.bind_some,if_neg Bool.false_ne_true,if_pos (by omega),hx]
            have hb : ((kk.size : Int) != 1) = false := by rw [hzk,hl];rfl
            show (match (match Net.rdA (bl s) n d with | none => none | some (ags,a4) => some ((p,Net.kindOf kk,tx) :: ags,a4)) with
              | some (ags,b) => Zl.l1 m (n : Int) s (d : Int) ((kk.size : Int) != 1) q t b0 o nm at_ (acc ++ [(⟨p,Net.kindOf kk,tx⟩ : Y4)]) = _ ∧ _
              | none => Fails s (Zl.l1 m (n : Int) s (d : Int) ((kk.size : Int) != 1) q t b0 o nm at_ (acc ++ [(⟨p,Net.kindOf kk,tx⟩ : Y4)])))
            rw [hb]
            have := ih d (acc ++ [(⟨p,Net.kindOf kk,tx⟩ : Y4)]) h6 (by simp;omega) m (by omega)
            cases h7 : Net.rdA (bl s) n d with
            | none =>
              rw [h7] at this
              exact this
            | some r2 =>
              obtain ⟨ags,e⟩ := r2
              rw [h7] at this
              obtain ⟨e1,e2⟩ : _ ∧ _ := this
              refine ⟨?_,e2⟩
              rw [e1,List.append_assoc]
              rfl
          · rw [if_neg hl,h5,Option.bind_some,if_neg Bool.false_ne_true,if_pos (by omega),hx]
            have hb : ((kk.size : Int) != 1) = true := by
              rw [bne_iff_ne]
              omega
            show Fails s (Zl.l1 m (n : Int) s (d : Int) ((kk.size : Int) != 1) q t b0 o nm at_ (acc ++ [(⟨p,Net.kindOf kk,tx⟩ : Y4)]))
            rw [hb]
            exact Sd s q t b0 o nm at_ _ _ d m (by omega)
theorem toL (t : ByteArray) (c : UInt8) : (t.toList = [c]) = (t = ⟨#[c]⟩) := by
  rw [tl,eq_iff_iff]
  exact ⟨fun h => jd h,fun h => by rw [h]⟩
theorem Jq4 (s : ByteArray) (hs : s.size ≤ 1000000) (a : Nat) (ha : a ≤ s.size) (k : Nat) (hk : 600000 ≤ k) :
    match Net.j6 (bl s) a with
    | some (st,b) => Reads s (La st) b (Zl.f k s (a : Int) false)
    | none => Fails s (Zl.f k s (a : Int) false) := by
  unfold Zl.f Net.j6
  cases h0 : Net.Ph (bl s) a with
  | none =>
    simp only []
    rw [Gs s hs a ha h0,Option.bind_some,if_neg (show ¬ Net.em.toList = [97] by rw [tl];decide),if_neg (show ¬ Net.em.toList = [99] by rw [tl];decide),if_neg (show ¬ Net.em.toList = [113] by rw [tl];decide)]
    exact ⟨_,_,_,_,_,_,_,_,_,rfl⟩
  | some r =>
    obtain ⟨t,a0⟩ := r
    obtain ⟨x0,y0⟩ := kr s hs a ha h0
    simp only []
    rw [x0,Option.bind_some]
    simp only [toL]
    by_cases hA : t = Net.cA
    · rw [if_pos hA,if_pos (show t = ⟨#[97]⟩ from hA)]
      cases h1 : Net.Ph (bl s) a0 with
      | none =>
        simp only []
        rw [Gs s hs a0 y0 h1,Option.bind_some,za s hs a0 y0,Option.bind_some,if_pos rfl,za s hs a0 y0,Option.bind_some]
        exact ⟨_,_,_,_,_,_,_,_,_,rfl⟩
      | some r =>
        obtain ⟨tag,a1⟩ := r
        obtain ⟨x1,y1⟩ := kr s hs a0 y0 h1
        simp only []
        rw [x1,Option.bind_some]
        cases h2 : Net.Ph (bl s) a1 with
        | none =>
          simp only []
          rw [Gs s hs a1 y1 h2,Option.bind_some,if_pos rfl,za s hs a1 y1,Option.bind_some]
          exact ⟨_,_,_,_,_,_,_,_,_,rfl⟩
        | some r =>
          obtain ⟨ov,a2⟩ := r
          obtain ⟨x2,y2⟩ := kr s hs a1 y1 h2
          simp only []
          have hov1 : (ov.toList == ([49] : List UInt8)) = decide (ov = Net.c1) := by
            rw [tl]
            by_cases h : ov = Net.c1
            · rw [decide_eq_true h,h];rfl
            · rw [decide_eq_false h]
              exact beq_eq_false_iff_ne.2 fun e => h (jd e)
          by_cases hc0 : ov = Net.c0
          · rw [if_pos (Or.inl hc0),x2,Option.bind_some,if_neg Bool.false_ne_true,if_pos (show ov = ⟨#[48]⟩ from hc0)]
            cases h3 : Net.Ph (bl s) a2 with
            | none =>
              simp only []
              rw [Gs s hs a2 y2 h3,Option.bind_some]
              exact ⟨_,_,_,_,_,_,_,_,_,rfl⟩
            | some r =>
              obtain ⟨by_,a3⟩ := r
              obtain ⟨x3,y3⟩ := kr s hs a2 y2 h3
              simp only []
              rw [x3,Option.bind_some,hov1]
              exact ⟨rfl,y3⟩
          · by_cases hc1 : ov = Net.c1
            · have hb : (ov.toList != ([49] : List UInt8)) = false := by
                show (!(ov.toList == ([49] : List UInt8))) = false
                rw [hov1,decide_eq_true hc1]
                rfl
              rw [if_pos (Or.inr hc1),x2,Option.bind_some,if_neg Bool.false_ne_true,if_neg (show ¬ ov = ⟨#[48]⟩ from hc0),hb]
              cases h3 : Net.Ph (bl s) a2 with
              | none =>
                simp only []
                rw [Gs s hs a2 y2 h3,Option.bind_some]
                exact ⟨_,_,_,_,_,_,_,_,_,rfl⟩
              | some r =>
                obtain ⟨by_,a3⟩ := r
                obtain ⟨x3,y3⟩ := kr s hs a2 y2 h3
                simp only []
                rw [x3,Option.bind_some,hov1]
                exact ⟨rfl,y3⟩
            · have hb : (ov.toList != ([49] : List UInt8)) = true := by
                show (!(ov.toList == ([49] : List UInt8))) = true
                rw [hov1,decide_eq_false hc1]
                rfl
              rw [if_neg (show ¬ (ov = Net.c0 ∨ ov = Net.c1) from fun h => h.elim hc0 hc1),x2,Option.bind_some,if_neg Bool.false_ne_true,if_neg (show ¬ ov = ⟨#[48]⟩ from hc0),hb,za s hs a2 y2,Option.bind_some]
              exact ⟨_,_,_,_,_,_,_,_,_,rfl⟩
    · rw [if_neg hA,if_neg (show ¬ t = ⟨#[97]⟩ from hA)]
      by_cases hC : t = Net.cC
      · rw [if_pos hC,if_pos (show t = ⟨#[99]⟩ from hC)]
        cases h1 : Net.Ph (bl s) a0 with
        | none =>
          simp only []
          rw [Gs s hs a0 y0 h1,Option.bind_some,Zse s hs a0 y0,Option.bind_some]
          obtain ⟨m,rfl⟩ : ∃ m,k = m + 1 := ⟨k - 1,by omega⟩
          rw [Zl.l0,if_neg (by show ¬ (0 : Int) > 0;decide)]
          exact ⟨_,_,_,_,_,_,_,_,_,rfl⟩
        | some r =>
          obtain ⟨tag,a1⟩ := r
          obtain ⟨x1,y1⟩ := kr s hs a0 y0 h1
          simp only []
          rw [x1,Option.bind_some]
          cases h2 : Net.Ph (bl s) a1 with
          | none =>
            simp only []
            rw [Z1w s hs a1 y1 h2,Option.bind_some]
            obtain ⟨m,rfl⟩ : ∃ m,k = m + 1 := ⟨k - 1,by omega⟩
            rw [Zl.l0,if_neg (by show ¬ (0 : Int) > 0;decide)]
            exact ⟨_,_,_,_,_,_,_,_,_,rfl⟩
          | some r =>
            obtain ⟨cn,a2⟩ := r
            simp only []
            cases hc : Net.cnt (Net.lb cn) with
            | none =>
              obtain ⟨x2,y2⟩ := Jgt s hs a1 y1 h2 hc
              simp only []
              rw [x2,Option.bind_some]
              obtain ⟨m,rfl⟩ : ∃ m,k = m + 1 := ⟨k - 1,by omega⟩
              rw [Zl.l0,if_neg (by show ¬ (0 : Int) > 0;decide)]
              exact ⟨_,_,_,_,_,_,_,_,_,rfl⟩
            | some n =>
              obtain ⟨x2,y2⟩ := Jgu s hs a1 y1 h2 hc
              have hn := (Net.zz hc).1
              simp only []
              rw [x2,Option.bind_some]
              have := Jco s hs 1 tag (⟨#[]⟩ : ByteArray) false (⟨#[]⟩ : ByteArray) (⟨#[]⟩ : ByteArray) n a2 [] y2 (by simp;omega) k (by omega)
              cases h3 : Net.rdN (bl s) n a2 with
              | none =>
                rw [h3] at this
                exact this
              | some r =>
                obtain ⟨ws,b⟩ := r
                rw [h3] at this
                exact this
      · rw [if_neg hC,if_neg (show ¬ t = ⟨#[99]⟩ from hC)]
        by_cases hQ : t = Net.cQ
        · rw [if_pos hQ,if_pos (show t = ⟨#[113]⟩ from hQ)]
          cases h1 : Net.Ph (bl s) a0 with
          | none =>
            simp only []
            rw [Gs s hs a0 y0 h1,Option.bind_some,za s hs a0 y0,Option.bind_some,Zse s hs a0 y0,Option.bind_some]
            exact Sd s _ _ _ _ _ _ _ _ a0 k (by omega)
          | some r =>
            obtain ⟨nm,a1⟩ := r
            obtain ⟨x1,y1⟩ := kr s hs a0 y0 h1
            simp only []
            rw [x1,Option.bind_some]
            cases h2 : Net.Ph (bl s) a1 with
            | none =>
              simp only []
              rw [Gs s hs a1 y1 h2,Option.bind_some,Zse s hs a1 y1,Option.bind_some]
              exact Sd s _ _ _ _ _ _ _ _ a1 k (by omega)
            | some r =>
              obtain ⟨at_,a2⟩ := r
              obtain ⟨x2,y2⟩ := kr s hs a1 y1 h2
              simp only []
              rw [x2,Option.bind_some]
              cases h3 : Net.Ph (bl s) a2 with
              | none =>
                simp only []
                rw [Z1w s hs a2 y2 h3,Option.bind_some]
                exact Sd s _ _ _ _ _ _ _ _ a2 k (by omega)
              | some r =>
                obtain ⟨cn,a3⟩ := r
                simp only []
                cases hc : Net.cnt (Net.lb cn) with
                | none =>
                  obtain ⟨x3,y3⟩ := Jgt s hs a2 y2 h3 hc
                  simp only []
                  rw [x3,Option.bind_some]
                  exact Sd s _ _ _ _ _ _ _ _ a3 k (by omega)
                | some n =>
                  obtain ⟨x3,y3⟩ := Jgu s hs a2 y2 h3 hc
                  have hn := (Net.zz hc).1
                  simp only []
                  rw [x3,Option.bind_some]
                  have := Jgw s hs 2 (⟨#[]⟩ : ByteArray) (⟨#[]⟩ : ByteArray) false nm at_ n a3 [] y3 (by simp;omega) k (by omega)
                  cases h4 : Net.rdA (bl s) n a3 with
                  | none =>
                    rw [h4] at this
                    exact this
                  | some r =>
                    obtain ⟨ags,b⟩ := r
                    rw [h4] at this
                    exact this
        · rw [if_neg hQ,if_neg (show ¬ t = ⟨#[113]⟩ from hQ)]
          exact ⟨_,_,_,_,_,_,_,_,_,rfl⟩
end Go.Proofs.YtdhpcofnddkcaaaGreatDoor.S
namespace Go.Proofs.YtdhpcofnddkcaaaGreatDoor.Net
theorem Jq5 {l p : List UInt8} {m : Nat} (h : rd l = some (p,m)) : p.length ≤ l.length := by
  obtain ⟨_,_,r,e⟩ := Zzt h
  rw [e,List.length_append,F4]
  omega
theorem Jla {l : List UInt8} {a b : Nat} {p : ByteArray} (h : Ph l a = some (p,b)) : p.size ≤ l.length := by
  unfold Ph at h
  cases hr : rd (l.drop a) with
  | none => rw [hr] at h;cases h
  | some q =>
    rw [hr] at h
    obtain ⟨h1,-⟩ := Prod.mk.inj (Option.some.inj h)
    have := Jq5 (p := q.1) (m := q.2) hr
    rw [List.length_drop] at this
    have e : p.size = (lb p).length := Lib.size_eq p
    rw [e,← h1,Zbi]
    omega
theorem Jaq {l : List UInt8} : ∀ {n a b : Nat} {ags : List Ar},rdA l n a = some (ags,b) → ags.length = n ∧ ∀ x ∈ ags,x.2.2.size ≤ l.length
  | 0,a,b,ags,h => by
    obtain ⟨h1,-⟩ := Prod.mk.inj (Option.some.inj h)
    subst h1
    exact ⟨rfl,fun x hx => by cases hx⟩
  | n + 1,a,b,ags,h => by
    unfold rdA at h
    cases h1 : Ph l a with
    | none => rw [h1] at h;cases h
    | some r1 =>
      obtain ⟨nm,a1⟩ := r1
      rw [h1] at h
      simp only at h
      cases h2 : Ph l a1 with
      | none => rw [h2] at h;cases h
      | some r2 =>
        obtain ⟨k,a2⟩ := r2
        rw [h2] at h
        simp only at h
        cases h3 : Ph l a2 with
        | none => rw [h3] at h;cases h
        | some r3 =>
          obtain ⟨tx,a3⟩ := r3
          rw [h3] at h
          simp only at h
          by_cases hk : (lb k).length = 1
          · rw [if_pos hk] at h
            cases h4 : rdA l n a3 with
            | none => rw [h4] at h;cases h
            | some r4 =>
              obtain ⟨t,a4⟩ := r4
              rw [h4] at h
              obtain ⟨e1,-⟩ := Prod.mk.inj (Option.some.inj h)
              subst e1
              obtain ⟨l1,l2⟩ := Jaq h4
              refine ⟨by simp [l1],fun x hx => ?_⟩
              rcases List.mem_cons.1 hx with rfl | hx
              · exact Jla h3
              · exact l2 x hx
          · rw [if_neg hk] at h
            cases h
def Z4e (s : St) : List Ar := s.2.2.2.2.2.2.2
theorem Jcp {l : List UInt8} {a b : Nat} {s : St} (h : j6 l a = some (s,b)) : (Z4e s).length ≤ 262144 ∧ ∀ x ∈ Z4e s,x.2.2.size ≤ l.length := by
  unfold j6 at h
  cases h1 : Ph l a with
  | none => rw [h1] at h;cases h
  | some r1 =>
    obtain ⟨t,a0⟩ := r1
    rw [h1] at h
    simp only at h
    by_cases c1 : t = cA
    · rw [if_pos c1] at h
      cases h2 : Ph l a0 with
      | none => rw [h2] at h;cases h
      | some r2 =>
        obtain ⟨tag,a1⟩ := r2
        rw [h2] at h
        simp only at h
        cases h3 : Ph l a1 with
        | none => rw [h3] at h;cases h
        | some r3 =>
          obtain ⟨ov,a2⟩ := r3
          rw [h3] at h
          simp only at h
          by_cases c2 : ov = c0 ∨ ov = Net.c1
          · rw [if_pos c2] at h
            cases h4 : Ph l a2 with
            | none => rw [h4] at h;cases h
            | some r4 =>
              rw [h4] at h
              obtain ⟨e1,-⟩ := Prod.mk.inj (Option.some.inj h)
              subst e1
              exact ⟨Nat.zero_le _,fun x hx => by cases hx⟩
          · rw [if_neg c2] at h
            cases h
    · rw [if_neg c1] at h
      by_cases c2 : t = cC
      · rw [if_pos c2] at h
        cases h2 : Ph l a0 with
        | none => rw [h2] at h;cases h
        | some r2 =>
          obtain ⟨tag,a1⟩ := r2
          rw [h2] at h
          simp only at h
          cases h3 : Ph l a1 with
          | none => rw [h3] at h;cases h
          | some r3 =>
            obtain ⟨cn,a2⟩ := r3
            rw [h3] at h
            simp only at h
            cases h4 : cnt (lb cn) with
            | none => rw [h4] at h;cases h
            | some n =>
              rw [h4] at h
              simp only at h
              cases h5 : rdN l n a2 with
              | none => rw [h5] at h;cases h
              | some r5 =>
                rw [h5] at h
                obtain ⟨e1,-⟩ := Prod.mk.inj (Option.some.inj h)
                subst e1
                exact ⟨Nat.zero_le _,fun x hx => by cases hx⟩
      · rw [if_neg c2] at h
        by_cases c3 : t = cQ
        · rw [if_pos c3] at h
          cases h2 : Ph l a0 with
          | none => rw [h2] at h;cases h
          | some r2 =>
            obtain ⟨nm,a1⟩ := r2
            rw [h2] at h
            simp only at h
            cases h3 : Ph l a1 with
            | none => rw [h3] at h;cases h
            | some r3 =>
              obtain ⟨at_,a2⟩ := r3
              rw [h3] at h
              simp only at h
              cases h4 : Ph l a2 with
              | none => rw [h4] at h;cases h
              | some r4 =>
                obtain ⟨cn,a3⟩ := r4
                rw [h4] at h
                simp only at h
                cases h5 : cnt (lb cn) with
                | none => rw [h5] at h;cases h
                | some n =>
                  rw [h5] at h
                  simp only at h
                  cases h6 : rdA l n a3 with
                  | none => rw [h6] at h;cases h
                  | some r6 =>
                    obtain ⟨ags,a4⟩ := r6
                    rw [h6] at h
                    obtain ⟨e1,-⟩ := Prod.mk.inj (Option.some.inj h)
                    subst e1
                    obtain ⟨l1,l2⟩ := Jaq h6
                    have := (zz h5).1
                    exact ⟨by show ags.length ≤ _;omega,l2⟩
        · rw [if_neg c3] at h
          cases h
end Go.Proofs.YtdhpcofnddkcaaaGreatDoor.Net
namespace Go.Proofs.YtdhpcofnddkcaaaGreatDoor.S
open Go.RowKit Go.Proofs.YtdhpcofnddkcaaaGreatDoor.G Go.Proofs.YtdhpcofnddkcaaaGreatDoorW.PrintWords Go.Proofs.YtdhpcofnddkcaaaGreatDoorW.PrintLast Go.Proofs.YtdhpcofnddkcaaaGreatDoorW.PrintMore
set_option linter.unusedVariables false
set_option linter.unusedSimpArgs false
attribute [local go_sem] max2_int min2_int max_two min_two max_three min_three max_four min_four
theorem Jar (l : List Xx) : jl (fun s => Net.parts (Uq s)) (fun p => Net.bs (Net.V4 p)) l = Net.encS (l.map Uq) := by
  unfold jl Net.encS Ze8 Net.encs
  rw [List.flatMap_map]
  rfl
theorem Jgx {ps : List ByteArray} {p : ByteArray} (h : p ∈ ps) : (Net.V4 p).length ≤ (Net.encs ps).length := by
  induction ps with
  | nil => cases h
  | cons a t ih =>
    rw [Net.J2,List.length_append]
    rcases List.mem_cons.1 h with rfl | h
    · omega
    · have := ih h
      omega
theorem Zma (ps : List ByteArray) : ps.length ≤ (Net.encs ps).length := by
  induction ps with
  | nil => exact Nat.zero_le _
  | cons p t ih =>
    rw [Net.J2,List.length_append,List.length_cons]
    have : 1 ≤ (Net.V4 p).length := by unfold Net.V4;rw [Net.F4];omega
    omega
theorem Zt5 {L : List Net.St} {s : Net.St} (h : s ∈ L) : (Net.encs (Net.parts s)).length ≤ (Net.encS L).length := by
  induction L with
  | nil => cases h
  | cons a t ih =>
    rw [Net.zo,List.length_append]
    rcases List.mem_cons.1 h with rfl | h
    · omega
    · have := ih h
      omega
theorem Zt6 (s : Net.St) : 0 < (Net.parts s).length := by
  obtain ⟨k,tag,by_,ov,ws,nm,at_,ags⟩ := s
  show 0 < (if k = 0 then [Net.cA,tag,if ov = true then Net.c1 else Net.c0,by_] else if k = 1 then [Net.cC,tag,Net.Yy ws.length] ++ ws else [Net.cQ,nm,at_,Net.Yy ags.length] ++ Net.Dj ags).length
  split
  · exact Nat.succ_pos _
  · split
    · simp
    · simp
theorem J8.calls (A : Option Addr) (c : Nat) (l : List Xx) (r0 : List Int) (r1 : Int) (w : World) (hr : Kd.C k29 w A l.length l) (hc : l.length ≤ c) (h : J8.f l = some (r0,r1))
    (Gw : Dt w := by exact Dt.step Gw (by repeat (first | (with_reducible first | exact HB.out | apply Z4 | apply Zr | apply Zz | refine Z8 ?_ (Za.out (by assumption))) | exact HB.out)))
    (Ue : Yg w := by exact Yg.step Ue (by repeat (first | (with_reducible first | exact HB.out | apply Z4 | apply Zr | apply Zz | refine Z8 ?_ (Za.out (by assumption))) | exact HB.out)))
    (Hf : Qs w := by exact Qs.step Hf (by repeat (first | (with_reducible first | exact HB.out | apply Z4 | apply Zr | apply Zz | refine Z8 ?_ (Za.out (by assumption))) | exact HB.out))) :
    Calls Tryz.prog 14 #[.slice A l.length c] w fun e w' => ∃ v,e = .returned (.tuple #[v,.int .i64 r1]) ∧ Kd.V (Kd.int .u8) 5 w' w.heap.size (fun k_ => w.heap.size ≤ k_) v r0 ∧ Below w.heap.size w w' := by
  unfold J8.f at h
  by_cases hn : l.length ≤ 4096
  · rw [if_pos hn] at h
    by_cases hz : (Net.encS (l.map Uq)).length ≤ 1000000 ∧ (∀ s ∈ l,s.f4.length ≤ 1000000 ∧ s.f7.length ≤ 1000000 ∧ ∀ a ∈ s.f7,a.f2.size ≤ 100000)
    · rw [if_pos hz] at h
      obtain ⟨z1,z2⟩ := hz
      have hall : (l.map Uq).all (Net.right Fh) = l.all Kq := by rw [List.all_map];rfl
      rw [hall] at h
      refine Z38 A c l w hr hc hn 1000003 Kq (fun s => Net.parts (Uq s)) (fun p => Net.bs (Net.V4 p)) (fun s hs => Zws s 1000003 (by have := (z2 s hs).2.1;omega) (z2 s hs).2.1 (z2 s hs).2.2) (fun s hs hrs => ⟨Jjt s hrs (z2 s hs).2.1 (z2 s hs).1 1000003 (by have := (z2 s hs).2.1;omega),Zt6 _,?_⟩) (fun s hs hrs p hp => Jpj p ?_) (by rw [Jar];exact z1) Gw Ue Hf r0 r1 (fun h1 => ?_) (fun h1 => ?_)
      · have h1 := Zma (Net.parts (Uq s))
        have h2 := Zt5 (List.mem_map_of_mem (f := Uq) hs)
        omega
      · have h1 := Jgx hp
        have h2 := Zt5 (List.mem_map_of_mem (f := Uq) hs)
        have h3 := K3 p
        omega
      · rw [if_pos h1] at h
        obtain ⟨e1,e2⟩ := Prod.mk.inj (Option.some.inj h)
        rw [Jar]
        exact ⟨e1.symm,e2.symm⟩
      · rw [if_neg (by rw [h1];decide)] at h
        obtain ⟨e1,e2⟩ := Prod.mk.inj (Option.some.inj h)
        exact ⟨e1.symm,e2.symm⟩
    · rw [if_neg hz] at h
      cases h
  · rw [if_neg hn] at h
    obtain ⟨e1,e2⟩ := Prod.mk.inj (Option.some.inj h)
    subst e1 e2
    exact Z1m A c l w (by omega) hr.2.1
theorem Vm.calls (A : Option Addr) (c : Nat) (l : List Int) (r0 : List Xx) (r1 r2 : Int) (w : World) (hr : Kd.C (Kd.int .u8) w A l.length l) (hc : l.length ≤ c) (h : Vm.f l = some (r0,r1,r2))
    (Gw : Dt w := by exact Dt.step Gw (by repeat (first | (with_reducible first | exact HB.out | apply Z4 | apply Zr | apply Zz | refine Z8 ?_ (Za.out (by assumption))) | exact HB.out)))
    (Ue : Yg w := by exact Yg.step Ue (by repeat (first | (with_reducible first | exact HB.out | apply Z4 | apply Zr | apply Zz | refine Z8 ?_ (Za.out (by assumption))) | exact HB.out)))
    (Hf : Qs w := by exact Qs.step Hf (by repeat (first | (with_reducible first | exact HB.out | apply Z4 | apply Zr | apply Zz | refine Z8 ?_ (Za.out (by assumption))) | exact HB.out))) :
    Calls Tryz.prog 15 #[.slice A l.length c] w fun e w' => ∃ v,e = .returned (.tuple #[v,.int .i64 r1,.int .i64 r2]) ∧ Kd.S k29 29 w' w.heap.size (fun _ => True) v r0 ∧ Below w.heap.size w w' := by
  unfold Vm.f at h
  by_cases hl : l.length ≤ 100000
  · rw [if_pos hl,if_neg (by omega)] at h
    obtain ⟨e1,h⟩ := Prod.mk.inj (Option.some.inj h)
    obtain ⟨e2,e3⟩ := Prod.mk.inj h
    subst e1 e2 e3
    have hsz : (strOfNums l).size = l.length := by
      rw [sz]
      show (strOfNums l).data.toList.length = _
      rw [strOfNums_data]
      simp
    refine Z4c A c l w hr hc (by omega) 700000 (strOfNums l) rfl hsz (fun a ha => ?_) _ _ _ rfl rfl rfl Gw Ue Hf
    have hst := Jq4 (strOfNums l) (by omega) a (by omega) 700000 (by omega)
    have e : bl (strOfNums l) = Net.lb (strOfNums l) := rfl
    rw [e] at hst
    cases hx : Net.j6 (Net.lb (strOfNums l)) a with
    | none =>
      rw [hx] at hst
      obtain ⟨q,t,b,o,ws,n,m,ags,a1,hf⟩ := hst
      exact ⟨q,t,b,o,ws,n,m,ags,(a1 : Int),hf⟩
    | some r =>
      obtain ⟨st,b⟩ := r
      rw [hx] at hst
      obtain ⟨hf,hb⟩ := hst
      refine ⟨hf,fun hrt => ?_,hb,?_⟩
      · obtain ⟨-,hb2,-⟩ := Net.Zzz Zqa hx hrt
        have h1 := Zma (Net.parts st)
        have h2 := Zt6 st
        omega
      · obtain ⟨n1,n2⟩ := Net.Jcp hx
        have hln : (Net.lb (strOfNums l)).length ≤ 100000 := by
          have := Lib.size_eq (strOfNums l)
          show (strOfNums l).data.toList.length ≤ _
          omega
        have hf7 : (La st).f7.length = (Net.Z4e st).length := by
          obtain ⟨k,tag,by_,ov,ws,nm,at_,ags⟩ := st
          show (ags.map Zz6).length = ags.length
          rw [List.length_map]
        have hrt := Zws (La st) 700000 (by omega) (by omega) (fun x hx2 => by
          obtain ⟨k,tag,by_,ov,ws,nm,at_,ags⟩ := st
          have hx3 : x ∈ ags.map Zz6 := hx2
          obtain ⟨y,hy,rfl⟩ := List.mem_map.1 hx3
          have := n2 y hy
          show y.2.2.size ≤ _
          omega)
        have e2 : Kq (La st) = Net.right Fh st := by
          show Net.right Fh (Uq (La st)) = _
          rw [Jju]
        rw [e2] at hrt
        exact hrt
  · rw [if_neg hl] at h
    cases h
end Go.Proofs.YtdhpcofnddkcaaaGreatDoor.S
namespace Go.Proofs.YtdhpcofnddkcaaaGreatDoor.S
open Go.RowKit Go.Proofs.YtdhpcofnddkcaaaGreatDoor.G Go.Proofs.YtdhpcofnddkcaaaGreatDoorW.PrintWords Go.Proofs.YtdhpcofnddkcaaaGreatDoorW.PrintLast Go.Proofs.YtdhpcofnddkcaaaGreatDoorW.PrintMore
set_option linter.unusedVariables false
set_option linter.unusedSimpArgs false
attribute [local go_sem] max2_int min2_int max_two min_two max_three min_three max_four min_four
namespace Sx4
theorem Vh {p_ : Prop} (h_ : p_ := by repeat (first | (with_reducible first | exact HB.out | apply Z4 | apply Zr | apply Zz) | exact HB.out)) : p_ := h_
theorem J5 {p_ : Prop} (h_ : p_ := by (with_reducible repeat (first | apply Kd.Zuj | apply Kd.fo | apply Kd.Zp0));exact Qv.out) : p_ := h_
theorem Vz {p_ : Prop} (h_ : p_ := by (try simp only [List.map_toArray,List.map_cons,List.map_nil]);first | done | rfl | (simp only [List.length_drop,List.length_take];rfl)) : p_ := h_
theorem Yb {p_ : Prop} (h_ : p_ := by first | rfl | (simp [Vd,Ve] <;> rfl) | (simp [*,Vd,Ve] <;> rfl)) : p_ := h_
theorem Qw {p_ : Prop} (h_ : p_ := by (with_reducible repeat (first | apply Kd.Z4x | apply Kd.Z4y | apply Kd.Jdq));exact Ku.out) : p_ := h_
theorem Q0 {p_ : Prop} (h_ : p_ := by first | (go_simp;done) | (go_simp;rfl)) : p_ := h_
theorem u1_ {p_ : Prop} (h_ : p_ := by exact (Vy.c8 (show Kd.M k29 _ _ _ (⟨1,(⟨#[101,110]⟩ : ByteArray),(⟨#[]⟩ : ByteArray),false,([] : List ByteArray),(⟨#[]⟩ : ByteArray),(⟨#[]⟩ : ByteArray),([] : List (Y4))⟩ : Xx) [.int .i64 1,.string (⟨#[101,110]⟩ : ByteArray),.string (⟨#[]⟩ : ByteArray),.bool false,.slice none 0 0,.string (⟨#[]⟩ : ByteArray),.string (⟨#[]⟩ : ByteArray),.slice none 0 0] from (Z45 _ _ _ (⟨1,(⟨#[101,110]⟩ : ByteArray),(⟨#[]⟩ : ByteArray),false,([] : List ByteArray),(⟨#[]⟩ : ByteArray),(⟨#[]⟩ : ByteArray),([] : List (Y4))⟩ : Xx) (Kd.Ztg _ _ _ _ _) (Kd.Ztg _ _ _ _ _))) (Vy.none _ _))) : p_ := h_
end Sx4
open Sx4
def Ym.f  : Option (Bool) := (J8.f (([(⟨1,(⟨#[101,110]⟩ : ByteArray),(⟨#[]⟩ : ByteArray),false,([] : List ByteArray),(⟨#[]⟩ : ByteArray),(⟨#[]⟩ : ByteArray),([] : List (Y4))⟩ : Xx)] : List (Xx)))).bind fun ku => (if ku.2 = 0 then (if (strOfNums ku.1).toList = ([49,58,99,44,50,58,101,110,44,49,58,48,44] : List UInt8) then ((Vm.f ku.1).bind fun F8 => (if F8.2.2 = 0 then (if F8.2.1 = (ku.1.length : Int) then (if (F8.1.length : Int) = 1 then (if 0 < (F8.1.length : Int) then (some (((Ze F8.1 0).f1).toList == ([101,110] : List UInt8))) else (none)) else (some false)) else (some false)) else (some false))) else (some false)) else (some false))
set_option maxHeartbeats 8000000 in
set_option maxRecDepth 100000 in
theorem Ym.calls  (r : Bool) (w : World) (h : Ym.f  = some r) (Gw : Dt w := by exact Dt.step Gw (by repeat (first | (with_reducible first | exact HB.out | apply Z4 | apply Zr | apply Zz | refine Z8 ?_ (Za.out (by assumption))) | exact HB.out))) (Ue : Yg w := by exact Yg.step Ue (by repeat (first | (with_reducible first | exact HB.out | apply Z4 | apply Zr | apply Zz | refine Z8 ?_ (Za.out (by assumption))) | exact HB.out))) (Hf : Qs w := by exact Qs.step Hf (by repeat (first | (with_reducible first | exact HB.out | apply Z4 | apply Zr | apply Zz | refine Z8 ?_ (Za.out (by assumption))) | exact HB.out))) :
  Calls Tryz.prog 9 #[] w fun e w' => e = .returned (.bool r) ∧ Below w.heap.size w w' := by
 have Z0x := Tryz.underlying29
 have HB := Za.mk (Below.refl w.heap.size w)
 have H : ((J8.f (([(⟨1,(⟨#[101,110]⟩ : ByteArray),(⟨#[]⟩ : ByteArray),false,([] : List ByteArray),(⟨#[]⟩ : ByteArray),(⟨#[]⟩ : ByteArray),([] : List (Y4))⟩ : Xx)] : List (Xx)))).bind fun ku => (if ku.2 = 0 then (if (strOfNums ku.1).toList = ([49,58,99,44,50,58,101,110,44,49,58,48,44] : List UInt8) then ((Vm.f ku.1).bind fun F8 => (if F8.2.2 = 0 then (if F8.2.1 = (ku.1.length : Int) then (if (F8.1.length : Int) = 1 then (if 0 < (F8.1.length : Int) then (some (((Ze F8.1 0).f1).toList == ([101,110] : List UInt8))) else (none)) else (some false)) else (some false)) else (some false))) else (some false)) else (some false))) = some r := h
 clear h
 obtain ⟨y101,hy101⟩ : ∃ y_ : List (Xx),y_ = (([(⟨1,(⟨#[101,110]⟩ : ByteArray),(⟨#[]⟩ : ByteArray),false,([] : List ByteArray),(⟨#[]⟩ : ByteArray),(⟨#[]⟩ : ByteArray),([] : List (Y4))⟩ : Xx)] : List (Xx))) := ⟨_,rfl⟩
 replace H : ((J8.f y101).bind fun ku => (if ku.2 = 0 then (if (strOfNums ku.1).toList = ([49,58,99,44,50,58,101,110,44,49,58,48,44] : List UInt8) then ((Vm.f ku.1).bind fun F8 => (if F8.2.2 = 0 then (if F8.2.1 = (ku.1.length : Int) then (if (F8.1.length : Int) = 1 then (if 0 < (F8.1.length : Int) then (some (((Ze F8.1 0).f1).toList == ([101,110] : List UInt8))) else (none)) else (some false)) else (some false)) else (some false))) else (some false)) else (some false))) = some r := by first | (rw [hy101];with_reducible exact H) | (have jg := (Option.bind_some _ _).symm.trans H;rw [hy101];with_reducible exact jg) | (have jg := (Option.bind_some _ _).symm.trans H;with_reducible exact jg) | with_reducible exact H | (rw [hy101];exact H) | exact H
 have Za7 := Za.mk hy101
 clear hy101
 replace H := Option.bind_eq_some_iff.mp H
 obtain ⟨⟨Nw,t107⟩,A10,H⟩ := H
 replace H : (if t107 = 0 then (if (strOfNums Nw).toList = ([49,58,99,44,50,58,101,110,44,49,58,48,44] : List UInt8) then ((Vm.f Nw).bind fun F8 => (if F8.2.2 = 0 then (if F8.2.1 = (Nw.length : Int) then (if (F8.1.length : Int) = 1 then (if 0 < (F8.1.length : Int) then (some (((Ze F8.1 0).f1).toList == ([101,110] : List UInt8))) else (none)) else (some false)) else (some false)) else (some false))) else (some false)) else (some false)) = some r := H
 have A1 := Za.mk A10
 clear A10
 by_cases c2 : t107 = 0
 ·rw [if_pos c2] at H
  have wm : (t107 == 0) = true := beq_iff_eq.mpr c2
  have Zfp : (t107 != 0) = false := bne_eq_false_iff_eq.mpr c2
  clear c2
  by_cases c3 : (strOfNums Nw).toList = ([49,58,99,44,50,58,101,110,44,49,58,48,44] : List UInt8)
  ·rw [if_pos c3] at H
   have ww : ((strOfNums Nw).toList == ([49,58,99,44,50,58,101,110,44,49,58,48,44] : List UInt8)) = true := beq_iff_eq.mpr c3
   have Zg1 : ((strOfNums Nw).toList != ([49,58,99,44,50,58,101,110,44,49,58,48,44] : List UInt8)) = false := bne_eq_false_iff_eq.mpr c3
   clear c3
   replace H := Option.bind_eq_some_iff.mp H
   obtain ⟨⟨Zal,t109,Ztd⟩,A40,H⟩ := H
   replace H : (if Ztd = 0 then (if t109 = (Nw.length : Int) then (if (Zal.length : Int) = 1 then (if 0 < (Zal.length : Int) then (some (((Ze Zal 0).f1).toList == ([101,110] : List UInt8))) else (none)) else (some false)) else (some false)) else (some false)) = some r := H
   have A4 := Za.mk A40
   clear A40
   by_cases c5 : Ztd = 0
   ·rw [if_pos c5] at H
    have wo : (Ztd == 0) = true := beq_iff_eq.mpr c5
    have Zsu : (Ztd != 0) = false := bne_eq_false_iff_eq.mpr c5
    clear c5
    by_cases c6 : t109 = (Nw.length : Int)
    ·rw [if_pos c6] at H
     have Zk2 : (t109 == (Nw.length : Int)) = true := beq_iff_eq.mpr c6
     have Jcq : (t109 != (Nw.length : Int)) = false := bne_eq_false_iff_eq.mpr c6
     clear c6
     by_cases c7 : (Zal.length : Int) = 1
     ·rw [if_pos c7] at H
      have Zmg : ((Zal.length : Int) == 1) = true := beq_iff_eq.mpr c7
      have Z2t : ((Zal.length : Int) != 1) = false := bne_eq_false_iff_eq.mpr c7
      clear c7
      by_cases c8 : 0 < (Zal.length : Int)
      ·rw [if_pos c8] at H
       have Zfr : decide (0 < (Zal.length : Int)) = true := decide_eq_true c8
       have Zvq : decide (0 < Zal.length) = true := decide_eq_true (by omega)
       clear c8
       obtain rfl := Option.some.inj H
       go_enter Tryz.func9,Tryz.ntmps9
       go_wp2_with (first | ((with_reducible refine Jg (N := 8) rfl ?_);(try (refine Jr (by rfl) ?_;dsimp only));refine Kd.Zti k29 _ 29 ?hg (N := 8) ?hd (xs := ([(⟨1,(⟨#[101,110]⟩ : ByteArray),(⟨#[]⟩ : ByteArray),false,([] : List ByteArray),(⟨#[]⟩ : ByteArray),(⟨#[]⟩ : ByteArray),([] : List (Y4))⟩ : Xx)] : List (Xx))) (inner := [.int .i64 1,.string (⟨#[101,110]⟩ : ByteArray),.string (⟨#[]⟩ : ByteArray),.bool false,.slice none 0 0,.string (⟨#[]⟩ : ByteArray),.string (⟨#[]⟩ : ByteArray),.slice none 0 0]) (ok := fun _ => True) (okp := fun _ => True) ?hr ?hp (fun _ hk => hk) trivial (Below.refl _ _) (Nat.le_refl _) (by simp) ?_;(case hd => rfl);(case hg => rfl);(case hr => exact Q0);(case hp => exact u1_);intro Jgy w9 Jgz hb hg_ hnew_;clear hg_ hnew_;(first | rw [← Za7.out] at Jgz | (simp only [Int.reduceToNat] at Jgz;rw [← Za7.out] at Jgz));have Qv := Za.mk (Kd.Lf Jgz (Jh Vh));replace HB := Za.mk (Zm Vh hb);clear hb Jgz;obtain ⟨J27,J28,Vd4⟩ := Kd.Lg Qv.out;subst Vd4) | ((with_reducible refine Z7 (f := 14) rfl ?_);refine Ju (some 9) rfl rfl Tryz.func14 (by kernel_rfl) rfl #[.slice J27 y101.length J28] rfl Vz ?_;(with_reducible refine (J8.calls _ _ y101 Nw t107 _ ?side1 ?side2 A1.out).mono ?_);(case side1 => repeat (first | exact (Kd.Qb Qv.out).2.2 | (with_reducible refine Kd.Vf ?_ _) | (with_reducible refine Kd.Vg ?_ _) | (with_reducible refine Kd.Vs ?_)));(case side2 => exact (Kd.Qb Qv.out).2.1);rintro e w12 ⟨v105,rfl,ho0,hb⟩;refine ⟨_,rfl,?_⟩;have Ku := Za.mk (Kd.Sv (Kd.fw (ok' := fun k_ => some k_ ≠ (.slice J27 y101.length J28 : Value).ownBlock) ho0 (fun k_ hk_ => (Kd.fresh' (Kd.Zp1 J5) k_ hk_))) (Jh Vh));replace Qv := Za.mk (Kd.Kz J5 hb);replace HB := Za.mk (Zm Vh hb);(try clear hb);(try clear hb2);(try clear hk);(try clear hi);(try clear ho0);obtain ⟨Vd5,Vd6,Vd7⟩ := Kd.fu Ku.out;subst Vd7;have Vih := fun (c_ : Nat) => Kd.Le (c := c_) (P := Tryz.prog) Tryz.underlying32 Tryz.underlying5 Tryz.underlying9 (Kd.Qc Ku.out).2.2) | ((with_reducible refine Z7 (f := 15) rfl ?_);refine Ju (some 21) rfl rfl Tryz.func15 (by kernel_rfl) rfl #[.slice Vd5 Nw.length Vd6] rfl Vz ?_;(with_reducible refine (Vm.calls _ _ Nw Zal t109 Ztd _ ?side1 ?side2 A4.out).mono ?_);(case side1 => repeat (first | exact (Kd.Qc Ku.out).2.2 | (with_reducible refine Kd.Vf ?_ _) | (with_reducible refine Kd.Vg ?_ _) | (with_reducible refine Kd.Vs ?_)));(case side2 => exact (Kd.Qc Ku.out).2.1);rintro e w15 ⟨Jq6,rfl,ho0,hb⟩;refine ⟨_,rfl,?_⟩;replace Ku := Za.mk (Kd.Zbh Qw (Kd.fq ho0) hb);have Zmb := Za.mk (Kd.Lf (Kd.Zuk ho0 (Kd.Zp1 J5)) (Jh Vh));replace Qv := Za.mk (Kd.Zf7 J5 (Kd.fq ho0) hb);replace HB := Za.mk (Zm Vh hb);(try clear hb);(try clear hb2);(try clear hk);(try clear hi);(try clear ho0);obtain ⟨Vl2,Vl3,Vd8⟩ := Kd.Lg Zmb.out;subst Vd8;have Jlb : 0 ≤ (0 : Int) := (by omega);have Jlc : 0 < (Zal.length : Int) := of_decide_eq_true (by first | (with_reducible assumption) | assumption);obtain ⟨Vii,Vd9,Vea,Veb,Ved,Vee,Zx8,Zx9,Zya,Zyb,Zpn,Zyc,Zyd,Zpo,Jas,Jat,Jau,Jav⟩ := jb (Kd.Qb Zmb.out).2.2 0 Jlb Jlc;cases Vee;obtain ⟨Vij,Jq7,Jq8,Z4f⟩ := Kd.Jdh Zmb.out z29 0 Jlb (by first | exact Jlc | exact of_decide_eq_true (by first | (with_reducible assumption) | assumption) | (have e_ := (Kd.Qb Zmb.out).1;omega));obtain ⟨J83,J84,rfl,Zye,Zyf⟩ := Zkh Jq8;have Zjr := Z4f 4 _ rfl;rw [Qd _ _ 4 (by omega)] at Zjr;replace Zjr := Option.some.inj (Zjr.symm.trans Zpn);rw [Zjr] at Zye;have J85 := Za.mk (show Kd.R Kd.string 9 _ _ _ _ ((Ze Zal 0).f4) from Zye);clear Zjr Zye;have Zjs := Z4f 7 _ rfl;rw [Qd _ _ 7 (by omega)] at Zjs;replace Zjs := Option.some.inj (Zjs.symm.trans Zpo);rw [Zjs] at Zyf;have J86 := Za.mk (show Kd.R k44 44 _ _ _ _ ((Ze Zal 0).f7) from Zyf);clear Zjs Zyf Z4f Jq7;have Vik : (0 < Zal.length) = True := eq_true (by omega);(try rw [show ((0 : Int)).toNat = 0 from rfl] at Zx8);(try rw [show 0 * 8 = 0 from rfl] at Zx8);(try rw [Addr.add_zero'] at Zx8);(try rw [show ((0 : Int)).toNat = 0 from rfl] at Zx9);(try rw [show 0 * 8 = 0 from rfl] at Zx9);(try rw [Addr.add_zero'] at Zx9);(try rw [show ((0 : Int)).toNat = 0 from rfl] at Zya);(try rw [show 0 * 8 = 0 from rfl] at Zya);(try rw [Addr.add_zero'] at Zya);(try rw [show ((0 : Int)).toNat = 0 from rfl] at Zyb);(try rw [show 0 * 8 = 0 from rfl] at Zyb);(try rw [Addr.add_zero'] at Zyb);(try rw [show ((0 : Int)).toNat = 0 from rfl] at Zpn);(try rw [show 0 * 8 = 0 from rfl] at Zpn);(try rw [Addr.add_zero'] at Zpn);(try rw [show ((0 : Int)).toNat = 0 from rfl] at Zyc);(try rw [show 0 * 8 = 0 from rfl] at Zyc);(try rw [Addr.add_zero'] at Zyc);(try rw [show ((0 : Int)).toNat = 0 from rfl] at Zyd);(try rw [show 0 * 8 = 0 from rfl] at Zyd);(try rw [Addr.add_zero'] at Zyd);(try rw [show ((0 : Int)).toNat = 0 from rfl] at Zpo);(try rw [show 0 * 8 = 0 from rfl] at Zpo);(try rw [Addr.add_zero'] at Zpo);have J87 := Za.mk Jat;have J88 := Za.mk Jas;clear Jat Jas;have J89 := Za.mk Jav;have J9a := Za.mk Jau;clear Jav Jau;replace Jlb := eq_true Jlb;replace Jlc := eq_true Jlc))
       go_ret
       exact ⟨Yb,Vh⟩
      ·rw [if_neg c8] at H
       exact absurd H (by simp)
     ·rw [if_neg c7] at H
      have Zmg : ((Zal.length : Int) == 1) = false := beq_eq_false_iff_ne.mpr c7
      have Z2t : ((Zal.length : Int) != 1) = true := bne_iff_ne.mpr c7
      obtain rfl := Option.some.inj H
      go_enter Tryz.func9,Tryz.ntmps9
      go_wp2_with (first | ((with_reducible refine Jg (N := 8) rfl ?_);(try (refine Jr (by rfl) ?_;dsimp only));refine Kd.Zti k29 _ 29 ?hg (N := 8) ?hd (xs := ([(⟨1,(⟨#[101,110]⟩ : ByteArray),(⟨#[]⟩ : ByteArray),false,([] : List ByteArray),(⟨#[]⟩ : ByteArray),(⟨#[]⟩ : ByteArray),([] : List (Y4))⟩ : Xx)] : List (Xx))) (inner := [.int .i64 1,.string (⟨#[101,110]⟩ : ByteArray),.string (⟨#[]⟩ : ByteArray),.bool false,.slice none 0 0,.string (⟨#[]⟩ : ByteArray),.string (⟨#[]⟩ : ByteArray),.slice none 0 0]) (ok := fun _ => True) (okp := fun _ => True) ?hr ?hp (fun _ hk => hk) trivial (Below.refl _ _) (Nat.le_refl _) (by simp) ?_;(case hd => rfl);(case hg => rfl);(case hr => exact Q0);(case hp => exact u1_);intro Jgy w17 Jg0 hb hg_ hnew_;clear hg_ hnew_;(first | rw [← Za7.out] at Jg0 | (simp only [Int.reduceToNat] at Jg0;rw [← Za7.out] at Jg0));have Qv := Za.mk (Kd.Lf Jg0 (Jh Vh));replace HB := Za.mk (Zm Vh hb);clear hb Jg0;obtain ⟨J29,J3a,Vef⟩ := Kd.Lg Qv.out;subst Vef) | ((with_reducible refine Z7 (f := 14) rfl ?_);refine Ju (some 9) rfl rfl Tryz.func14 (by kernel_rfl) rfl #[.slice J29 y101.length J3a] rfl Vz ?_;(with_reducible refine (J8.calls _ _ y101 Nw t107 _ ?side1 ?side2 A1.out).mono ?_);(case side1 => repeat (first | exact (Kd.Qb Qv.out).2.2 | (with_reducible refine Kd.Vf ?_ _) | (with_reducible refine Kd.Vg ?_ _) | (with_reducible refine Kd.Vs ?_)));(case side2 => exact (Kd.Qb Qv.out).2.1);rintro e w20 ⟨v105,rfl,ho0,hb⟩;refine ⟨_,rfl,?_⟩;have Ku := Za.mk (Kd.Sv (Kd.fw (ok' := fun k_ => some k_ ≠ (.slice J29 y101.length J3a : Value).ownBlock) ho0 (fun k_ hk_ => (Kd.fresh' (Kd.Zp1 J5) k_ hk_))) (Jh Vh));replace Qv := Za.mk (Kd.Kz J5 hb);replace HB := Za.mk (Zm Vh hb);(try clear hb);(try clear hb2);(try clear hk);(try clear hi);(try clear ho0);obtain ⟨Veg,Veh,Vei⟩ := Kd.fu Ku.out;subst Vei;have Vil := fun (c_ : Nat) => Kd.Le (c := c_) (P := Tryz.prog) Tryz.underlying32 Tryz.underlying5 Tryz.underlying9 (Kd.Qc Ku.out).2.2) | ((with_reducible refine Z7 (f := 15) rfl ?_);refine Ju (some 21) rfl rfl Tryz.func15 (by kernel_rfl) rfl #[.slice Veg Nw.length Veh] rfl Vz ?_;(with_reducible refine (Vm.calls _ _ Nw Zal t109 Ztd _ ?side1 ?side2 A4.out).mono ?_);(case side1 => repeat (first | exact (Kd.Qc Ku.out).2.2 | (with_reducible refine Kd.Vf ?_ _) | (with_reducible refine Kd.Vg ?_ _) | (with_reducible refine Kd.Vs ?_)));(case side2 => exact (Kd.Qc Ku.out).2.1);rintro e w23 ⟨Jq6,rfl,ho0,hb⟩;refine ⟨_,rfl,?_⟩;replace Ku := Za.mk (Kd.Zbh Qw (Kd.fq ho0) hb);have Zmb := Za.mk (Kd.Lf (Kd.Zuk ho0 (Kd.Zp1 J5)) (Jh Vh));replace Qv := Za.mk (Kd.Zf7 J5 (Kd.fq ho0) hb);replace HB := Za.mk (Zm Vh hb);(try clear hb);(try clear hb2);(try clear hk);(try clear hi);(try clear ho0);obtain ⟨Vl4,Vl5,Vej⟩ := Kd.Lg Zmb.out;subst Vej))
      go_ret
      exact ⟨Yb,Vh⟩
    ·rw [if_neg c6] at H
     have Zk2 : (t109 == (Nw.length : Int)) = false := beq_eq_false_iff_ne.mpr c6
     have Jcq : (t109 != (Nw.length : Int)) = true := bne_iff_ne.mpr c6
     obtain rfl := Option.some.inj H
     go_enter Tryz.func9,Tryz.ntmps9
     go_wp2_with (first | ((with_reducible refine Jg (N := 8) rfl ?_);(try (refine Jr (by rfl) ?_;dsimp only));refine Kd.Zti k29 _ 29 ?hg (N := 8) ?hd (xs := ([(⟨1,(⟨#[101,110]⟩ : ByteArray),(⟨#[]⟩ : ByteArray),false,([] : List ByteArray),(⟨#[]⟩ : ByteArray),(⟨#[]⟩ : ByteArray),([] : List (Y4))⟩ : Xx)] : List (Xx))) (inner := [.int .i64 1,.string (⟨#[101,110]⟩ : ByteArray),.string (⟨#[]⟩ : ByteArray),.bool false,.slice none 0 0,.string (⟨#[]⟩ : ByteArray),.string (⟨#[]⟩ : ByteArray),.slice none 0 0]) (ok := fun _ => True) (okp := fun _ => True) ?hr ?hp (fun _ hk => hk) trivial (Below.refl _ _) (Nat.le_refl _) (by simp) ?_;(case hd => rfl);(case hg => rfl);(case hr => exact Q0);(case hp => exact u1_);intro Jgy w25 Jg1 hb hg_ hnew_;clear hg_ hnew_;(first | rw [← Za7.out] at Jg1 | (simp only [Int.reduceToNat] at Jg1;rw [← Za7.out] at Jg1));have Qv := Za.mk (Kd.Lf Jg1 (Jh Vh));replace HB := Za.mk (Zm Vh hb);clear hb Jg1;obtain ⟨J3b,J3c,Vek⟩ := Kd.Lg Qv.out;subst Vek) | ((with_reducible refine Z7 (f := 14) rfl ?_);refine Ju (some 9) rfl rfl Tryz.func14 (by kernel_rfl) rfl #[.slice J3b y101.length J3c] rfl Vz ?_;(with_reducible refine (J8.calls _ _ y101 Nw t107 _ ?side1 ?side2 A1.out).mono ?_);(case side1 => repeat (first | exact (Kd.Qb Qv.out).2.2 | (with_reducible refine Kd.Vf ?_ _) | (with_reducible refine Kd.Vg ?_ _) | (with_reducible refine Kd.Vs ?_)));(case side2 => exact (Kd.Qb Qv.out).2.1);rintro e w28 ⟨v105,rfl,ho0,hb⟩;refine ⟨_,rfl,?_⟩;have Ku := Za.mk (Kd.Sv (Kd.fw (ok' := fun k_ => some k_ ≠ (.slice J3b y101.length J3c : Value).ownBlock) ho0 (fun k_ hk_ => (Kd.fresh' (Kd.Zp1 J5) k_ hk_))) (Jh Vh));replace Qv := Za.mk (Kd.Kz J5 hb);replace HB := Za.mk (Zm Vh hb);(try clear hb);(try clear hb2);(try clear hk);(try clear hi);(try clear ho0);obtain ⟨Vel,Vem,Ven⟩ := Kd.fu Ku.out;subst Ven;have Vim := fun (c_ : Nat) => Kd.Le (c := c_) (P := Tryz.prog) Tryz.underlying32 Tryz.underlying5 Tryz.underlying9 (Kd.Qc Ku.out).2.2) | ((with_reducible refine Z7 (f := 15) rfl ?_);refine Ju (some 21) rfl rfl Tryz.func15 (by kernel_rfl) rfl #[.slice Vel Nw.length Vem] rfl Vz ?_;(with_reducible refine (Vm.calls _ _ Nw Zal t109 Ztd _ ?side1 ?side2 A4.out).mono ?_);(case side1 => repeat (first | exact (Kd.Qc Ku.out).2.2 | (with_reducible refine Kd.Vf ?_ _) | (with_reducible refine Kd.Vg ?_ _) | (with_reducible refine Kd.Vs ?_)));(case side2 => exact (Kd.Qc Ku.out).2.1);rintro e w31 ⟨Jq6,rfl,ho0,hb⟩;refine ⟨_,rfl,?_⟩;replace Ku := Za.mk (Kd.Zbh Qw (Kd.fq ho0) hb);have Zmb := Za.mk (Kd.Lf (Kd.Zuk ho0 (Kd.Zp1 J5)) (Jh Vh));replace Qv := Za.mk (Kd.Zf7 J5 (Kd.fq ho0) hb);replace HB := Za.mk (Zm Vh hb);(try clear hb);(try clear hb2);(try clear hk);(try clear hi);(try clear ho0)))
     go_ret
     exact ⟨Yb,Vh⟩
   ·rw [if_neg c5] at H
    have wo : (Ztd == 0) = false := beq_eq_false_iff_ne.mpr c5
    have Zsu : (Ztd != 0) = true := bne_iff_ne.mpr c5
    obtain rfl := Option.some.inj H
    go_enter Tryz.func9,Tryz.ntmps9
    go_wp2_with (first | ((with_reducible refine Jg (N := 8) rfl ?_);(try (refine Jr (by rfl) ?_;dsimp only));refine Kd.Zti k29 _ 29 ?hg (N := 8) ?hd (xs := ([(⟨1,(⟨#[101,110]⟩ : ByteArray),(⟨#[]⟩ : ByteArray),false,([] : List ByteArray),(⟨#[]⟩ : ByteArray),(⟨#[]⟩ : ByteArray),([] : List (Y4))⟩ : Xx)] : List (Xx))) (inner := [.int .i64 1,.string (⟨#[101,110]⟩ : ByteArray),.string (⟨#[]⟩ : ByteArray),.bool false,.slice none 0 0,.string (⟨#[]⟩ : ByteArray),.string (⟨#[]⟩ : ByteArray),.slice none 0 0]) (ok := fun _ => True) (okp := fun _ => True) ?hr ?hp (fun _ hk => hk) trivial (Below.refl _ _) (Nat.le_refl _) (by simp) ?_;(case hd => rfl);(case hg => rfl);(case hr => exact Q0);(case hp => exact u1_);intro Jgy w32 Jg2 hb hg_ hnew_;clear hg_ hnew_;(first | rw [← Za7.out] at Jg2 | (simp only [Int.reduceToNat] at Jg2;rw [← Za7.out] at Jg2));have Qv := Za.mk (Kd.Lf Jg2 (Jh Vh));replace HB := Za.mk (Zm Vh hb);clear hb Jg2;obtain ⟨J3d,J3e,Veo⟩ := Kd.Lg Qv.out;subst Veo) | ((with_reducible refine Z7 (f := 14) rfl ?_);refine Ju (some 9) rfl rfl Tryz.func14 (by kernel_rfl) rfl #[.slice J3d y101.length J3e] rfl Vz ?_;(with_reducible refine (J8.calls _ _ y101 Nw t107 _ ?side1 ?side2 A1.out).mono ?_);(case side1 => repeat (first | exact (Kd.Qb Qv.out).2.2 | (with_reducible refine Kd.Vf ?_ _) | (with_reducible refine Kd.Vg ?_ _) | (with_reducible refine Kd.Vs ?_)));(case side2 => exact (Kd.Qb Qv.out).2.1);rintro e w35 ⟨v105,rfl,ho0,hb⟩;refine ⟨_,rfl,?_⟩;have Ku := Za.mk (Kd.Sv (Kd.fw (ok' := fun k_ => some k_ ≠ (.slice J3d y101.length J3e : Value).ownBlock) ho0 (fun k_ hk_ => (Kd.fresh' (Kd.Zp1 J5) k_ hk_))) (Jh Vh));replace Qv := Za.mk (Kd.Kz J5 hb);replace HB := Za.mk (Zm Vh hb);(try clear hb);(try clear hb2);(try clear hk);(try clear hi);(try clear ho0);obtain ⟨Vep,Veq,Ver⟩ := Kd.fu Ku.out;subst Ver;have Vin := fun (c_ : Nat) => Kd.Le (c := c_) (P := Tryz.prog) Tryz.underlying32 Tryz.underlying5 Tryz.underlying9 (Kd.Qc Ku.out).2.2) | ((with_reducible refine Z7 (f := 15) rfl ?_);refine Ju (some 21) rfl rfl Tryz.func15 (by kernel_rfl) rfl #[.slice Vep Nw.length Veq] rfl Vz ?_;(with_reducible refine (Vm.calls _ _ Nw Zal t109 Ztd _ ?side1 ?side2 A4.out).mono ?_);(case side1 => repeat (first | exact (Kd.Qc Ku.out).2.2 | (with_reducible refine Kd.Vf ?_ _) | (with_reducible refine Kd.Vg ?_ _) | (with_reducible refine Kd.Vs ?_)));(case side2 => exact (Kd.Qc Ku.out).2.1);rintro e w38 ⟨Jq6,rfl,ho0,hb⟩;refine ⟨_,rfl,?_⟩;replace Ku := Za.mk (Kd.Zbh Qw (Kd.fq ho0) hb);have Zmb := Za.mk (Kd.Lf (Kd.Zuk ho0 (Kd.Zp1 J5)) (Jh Vh));replace Qv := Za.mk (Kd.Zf7 J5 (Kd.fq ho0) hb);replace HB := Za.mk (Zm Vh hb);(try clear hb);(try clear hb2);(try clear hk);(try clear hi);(try clear ho0)))
    go_ret
    exact ⟨Yb,Vh⟩
  ·rw [if_neg c3] at H
   have ww : ((strOfNums Nw).toList == ([49,58,99,44,50,58,101,110,44,49,58,48,44] : List UInt8)) = false := beq_eq_false_iff_ne.mpr c3
   have Zg1 : ((strOfNums Nw).toList != ([49,58,99,44,50,58,101,110,44,49,58,48,44] : List UInt8)) = true := bne_iff_ne.mpr c3
   obtain rfl := Option.some.inj H
   go_enter Tryz.func9,Tryz.ntmps9
   go_wp2_with (first | ((with_reducible refine Jg (N := 8) rfl ?_);(try (refine Jr (by rfl) ?_;dsimp only));refine Kd.Zti k29 _ 29 ?hg (N := 8) ?hd (xs := ([(⟨1,(⟨#[101,110]⟩ : ByteArray),(⟨#[]⟩ : ByteArray),false,([] : List ByteArray),(⟨#[]⟩ : ByteArray),(⟨#[]⟩ : ByteArray),([] : List (Y4))⟩ : Xx)] : List (Xx))) (inner := [.int .i64 1,.string (⟨#[101,110]⟩ : ByteArray),.string (⟨#[]⟩ : ByteArray),.bool false,.slice none 0 0,.string (⟨#[]⟩ : ByteArray),.string (⟨#[]⟩ : ByteArray),.slice none 0 0]) (ok := fun _ => True) (okp := fun _ => True) ?hr ?hp (fun _ hk => hk) trivial (Below.refl _ _) (Nat.le_refl _) (by simp) ?_;(case hd => rfl);(case hg => rfl);(case hr => exact Q0);(case hp => exact u1_);intro Jgy w39 Jg3 hb hg_ hnew_;clear hg_ hnew_;(first | rw [← Za7.out] at Jg3 | (simp only [Int.reduceToNat] at Jg3;rw [← Za7.out] at Jg3));have Qv := Za.mk (Kd.Lf Jg3 (Jh Vh));replace HB := Za.mk (Zm Vh hb);clear hb Jg3;obtain ⟨J3f,J3g,Ves⟩ := Kd.Lg Qv.out;subst Ves) | ((with_reducible refine Z7 (f := 14) rfl ?_);refine Ju (some 9) rfl rfl Tryz.func14 (by kernel_rfl) rfl #[.slice J3f y101.length J3g] rfl Vz ?_;(with_reducible refine (J8.calls _ _ y101 Nw t107 _ ?side1 ?side2 A1.out).mono ?_);(case side1 => repeat (first | exact (Kd.Qb Qv.out).2.2 | (with_reducible refine Kd.Vf ?_ _) | (with_reducible refine Kd.Vg ?_ _) | (with_reducible refine Kd.Vs ?_)));(case side2 => exact (Kd.Qb Qv.out).2.1);rintro e w42 ⟨v105,rfl,ho0,hb⟩;refine ⟨_,rfl,?_⟩;have Ku := Za.mk (Kd.Sv (Kd.fw (ok' := fun k_ => some k_ ≠ (.slice J3f y101.length J3g : Value).ownBlock) ho0 (fun k_ hk_ => (Kd.fresh' (Kd.Zp1 J5) k_ hk_))) (Jh Vh));replace Qv := Za.mk (Kd.Kz J5 hb);replace HB := Za.mk (Zm Vh hb);(try clear hb);(try clear hb2);(try clear hk);(try clear hi);(try clear ho0);(try (obtain ⟨Ac_,cc_,ec_⟩ := Kd.fu Ku.out;subst ec_));have Vio := fun (c_ : Nat) => Kd.Le (c := c_) (P := Tryz.prog) Tryz.underlying32 Tryz.underlying5 Tryz.underlying9 (Kd.Qc Ku.out).2.2))
   go_ret
   exact ⟨Yb,Vh⟩
 ·rw [if_neg c2] at H
  have wm : (t107 == 0) = false := beq_eq_false_iff_ne.mpr c2
  have Zfp : (t107 != 0) = true := bne_iff_ne.mpr c2
  obtain rfl := Option.some.inj H
  go_enter Tryz.func9,Tryz.ntmps9
  go_wp2_with (first | ((with_reducible refine Jg (N := 8) rfl ?_);(try (refine Jr (by rfl) ?_;dsimp only));refine Kd.Zti k29 _ 29 ?hg (N := 8) ?hd (xs := ([(⟨1,(⟨#[101,110]⟩ : ByteArray),(⟨#[]⟩ : ByteArray),false,([] : List ByteArray),(⟨#[]⟩ : ByteArray),(⟨#[]⟩ : ByteArray),([] : List (Y4))⟩ : Xx)] : List (Xx))) (inner := [.int .i64 1,.string (⟨#[101,110]⟩ : ByteArray),.string (⟨#[]⟩ : ByteArray),.bool false,.slice none 0 0,.string (⟨#[]⟩ : ByteArray),.string (⟨#[]⟩ : ByteArray),.slice none 0 0]) (ok := fun _ => True) (okp := fun _ => True) ?hr ?hp (fun _ hk => hk) trivial (Below.refl _ _) (Nat.le_refl _) (by simp) ?_;(case hd => rfl);(case hg => rfl);(case hr => exact Q0);(case hp => exact u1_);intro Jgy w44 Jg4 hb hg_ hnew_;clear hg_ hnew_;(first | rw [← Za7.out] at Jg4 | (simp only [Int.reduceToNat] at Jg4;rw [← Za7.out] at Jg4));have Qv := Za.mk (Kd.Lf Jg4 (Jh Vh));replace HB := Za.mk (Zm Vh hb);clear hb Jg4;obtain ⟨J3h,J3i,Vet⟩ := Kd.Lg Qv.out;subst Vet) | ((with_reducible refine Z7 (f := 14) rfl ?_);refine Ju (some 9) rfl rfl Tryz.func14 (by kernel_rfl) rfl #[.slice J3h y101.length J3i] rfl Vz ?_;(with_reducible refine (J8.calls _ _ y101 Nw t107 _ ?side1 ?side2 A1.out).mono ?_);(case side1 => repeat (first | exact (Kd.Qb Qv.out).2.2 | (with_reducible refine Kd.Vf ?_ _) | (with_reducible refine Kd.Vg ?_ _) | (with_reducible refine Kd.Vs ?_)));(case side2 => exact (Kd.Qb Qv.out).2.1);rintro e w47 ⟨v105,rfl,ho0,hb⟩;refine ⟨_,rfl,?_⟩;have Ku := Za.mk (Kd.Sv (Kd.fw (ok' := fun k_ => some k_ ≠ (.slice J3h y101.length J3i : Value).ownBlock) ho0 (fun k_ hk_ => (Kd.fresh' (Kd.Zp1 J5) k_ hk_))) (Jh Vh));replace Qv := Za.mk (Kd.Kz J5 hb);replace HB := Za.mk (Zm Vh hb);(try clear hb);(try clear hb2);(try clear hk);(try clear hi);(try clear ho0)))
  go_ret
  exact ⟨Yb,Vh⟩
end Go.Proofs.YtdhpcofnddkcaaaGreatDoor.S
namespace Go.Proofs.YtdhpcofnddkcaaaGreatDoor.S
open Go.RowKit Go.Proofs.YtdhpcofnddkcaaaGreatDoor.G Go.Proofs.YtdhpcofnddkcaaaGreatDoorW.PrintWords Go.Proofs.YtdhpcofnddkcaaaGreatDoorW.PrintLast Go.Proofs.YtdhpcofnddkcaaaGreatDoorW.PrintMore
set_option linter.unusedVariables false
set_option linter.unusedSimpArgs false
attribute [local go_sem] max2_int min2_int max_two min_two max_three min_three max_four min_four
def Za8 (l : List UInt8) : List Int := l.map fun c => (c.toNat : Int)
theorem Zyg (l : List UInt8) : bl (strOfNums (Za8 l)) = l := by
  show (strOfNums (Za8 l)).data.toList = l
  rw [strOfNums_data]
  unfold Za8
  rw [List.map_map]
  conv => rhs;rw [← List.map_id l]
  refine List.map_congr_left fun c _ => ?_
  show UInt8.ofNat ((c.toNat : Int)).toNat = c
  simp
theorem Zlg (l : List UInt8) : (Za8 l).length = l.length := List.length_map _
def Z1x : Xx := ⟨1,⟨#[101,110]⟩,⟨#[]⟩,false,[],⟨#[]⟩,⟨#[]⟩,[]⟩
theorem Z1y : J8.f [Z1x] = some (Za8 (Net.encs (Net.parts Net.stE)),0) := by
  have e : Net.encS ([Z1x].map Uq) = Net.encs (Net.parts Net.stE) := by
    show Net.encs (Net.parts Net.stE) ++ [] = _
    rw [List.append_nil]
  unfold J8.f
  rw [if_pos (by decide),e,if_pos ⟨by rw [Net.Zbz];decide,fun s hs => by
    rw [List.mem_singleton] at hs
    subst hs
    exact ⟨by decide,by decide,fun a ha => by cases ha⟩⟩,if_pos (show ([Z1x].map Uq).all (Net.right Fh) = true from rfl)]
  rfl
theorem Zt7 {list : List Net.St} (hr : ∀ s ∈ list,Net.right Fh s = true) (hs : ∀ s ∈ list,Net.small s) (hm : list.length ≤ 4096) (hl : (Net.encS list).length ≤ 100000) (hf : list.length ≤ (Net.encS list).length + 1) :
    Vm.f (Za8 (Net.encS list)) = some (list.map La,((Net.encS list).length : Int),0) := by
  unfold Vm.f
  rw [Zlg,if_pos (by omega),if_neg (by omega)]
  show some ((Net.Fj Fh (bl (strOfNums (Za8 (Net.encS list)))) _ 4096 0).1.map La,((Net.Fj Fh (bl (strOfNums (Za8 (Net.encS list)))) _ 4096 0).2.1 : Int),(Net.Fj Fh (bl (strOfNums (Za8 (Net.encS list)))) _ 4096 0).2.2) = _
  rw [Zyg]
  have := Net.Jd1 Zqa (f := (Net.encS list).length + 1 - list.length) hr hs hm
  rw [show list.length + ((Net.encS list).length + 1 - list.length) = (Net.encS list).length + 1 by omega] at this
  rw [this]
theorem Jg5 : Ym.f = some true := by
  have hb : Net.encS [Net.stE] = Net.encs (Net.parts Net.stE) := by
    show Net.encs (Net.parts Net.stE) ++ [] = _
    rw [List.append_nil]
  have hd := Zt7 (list := [Net.stE]) (fun s h => by rw [List.mem_singleton] at h;subst h;exact Net.Jbj Fh) (fun s h => by rw [List.mem_singleton] at h;subst h;exact Net.Jbk) (by decide) (by rw [hb,Net.Zbz];decide) (by rw [hb,Net.Zbz];decide)
  rw [hb] at hd
  unfold Ym.f
  show (J8.f [Z1x]).bind _ = _
  rw [Z1y,Option.bind_some]
  show (if (0 : Int) = 0 then _ else _) = _
  rw [if_pos rfl,tl,Zyg,if_pos Net.Zbz,hd,Option.bind_some]
  show (if (0 : Int) = 0 then _ else _) = _
  rw [if_pos rfl,Zlg]
  show (if ((Net.encs (Net.parts Net.stE)).length : Int) = _ then _ else _) = _
  rw [if_pos rfl]
  show (if (1 : Int) = 1 then (if (0 : Int) < 1 then some (Z1x.f1.toList == ([101,110] : List UInt8)) else none) else some false) = some true
  rw [if_pos rfl,if_pos (by decide),tl]
  rfl
end Go.Proofs.YtdhpcofnddkcaaaGreatDoor.S
namespace Go.Proofs.YtdhpcofnddkcaaaGreatDoor.S
open Go.RowKit Go.Proofs.YtdhpcofnddkcaaaGreatDoor.G Go.Proofs.YtdhpcofnddkcaaaGreatDoorW.PrintWords Go.Proofs.YtdhpcofnddkcaaaGreatDoorW.PrintLast Go.Proofs.YtdhpcofnddkcaaaGreatDoorW.PrintMore
set_option linter.unusedVariables false
set_option linter.unusedSimpArgs false
attribute [local go_sem] max2_int min2_int max_two min_two max_three min_three max_four min_four
end Go.Proofs.YtdhpcofnddkcaaaGreatDoor.S
namespace Go.Proofs.YtdhpcofnddkcaaaGreatDoorW.PrintWords
open Go.RowKit
section
variable {P : Program} {d : Nat} {xs ys : Array Value} {f : Field} {fs : List Field} {a b : Value} {r s : Bool} {w : World}
theorem eqf_last (hn : (f.name == "_") = false) (ha : (part f.type xs f.offset).run P w = .ok a w) (hb : (part f.type ys f.offset).run P w = .ok b w) (he : (Op.equalIn d f.type a b).run P w = .ok r w) : (Op.eqFields d xs ys [f]).run P w = .ok r w := by
  have hn' : f.name ≠ "_" := by simpa using hn
  simp only [Op.eqFields, if_pos hn', Sem.run_bind, ha, hb, he, Result.andThen_ok]
  cases r <;> simp
theorem eqf_cons (hn : (f.name == "_") = false) (ha : (part f.type xs f.offset).run P w = .ok a w) (hb : (part f.type ys f.offset).run P w = .ok b w) (he : (Op.equalIn d f.type a b).run P w = .ok r w) (hr : (Op.eqFields d xs ys fs).run P w = .ok s w) : (Op.eqFields d xs ys (f :: fs)).run P w = .ok (r && s) w := by
  have hn' : f.name ≠ "_" := by simpa using hn
  rw [Op.eqFields]
  simp only [if_pos hn', Sem.run_bind, ha, hb, he, Result.andThen_ok]
  cases r
  · simp
  · simpa using hr
theorem eqf_end (hn : (f.name == "_") = false) (ha : (part f.type xs f.offset).run P w = .ok a w) (hb : (part f.type ys f.offset).run P w = .ok b w) (he : (Op.equalIn d f.type a b).run P w = .ok r w) (hr : (Op.eqFields d xs ys fs).run P w = .ok true w) : (Op.eqFields d xs ys (f :: fs)).run P w = .ok r w := by
  have h := eqf_cons hn ha hb he hr
  rwa [Bool.and_true] at h
theorem eqf_skip (hn : (f.name == "_") = true) (hr : (Op.eqFields d xs ys fs).run P w = .ok s w) : (Op.eqFields d xs ys (f :: fs)).run P w = .ok s w := by
  have hn' : ¬ (f.name ≠ "_") := by simpa using hn
  rw [Op.eqFields, if_neg hn']
  exact hr
theorem eqf_nil : (Op.eqFields d xs ys []).run P w = .ok true w := by simp [Op.eqFields]
theorem eqA_of {t : TypeId} {fs : Array Field} (hu : P.underlying t = some (.struct fs)) (hp : P.stoodInHeld t = false) (h : (Op.eqFields d xs ys fs.toList).run P w = .ok r w) : (Op.equalIn (d + 1) t (.agg xs) (.agg ys)).run P w = .ok r w := by
  have hf : P.fieldsOf t = fs := by simp [Program.fieldsOf, hu]
  rw [run_equalIn_struct (P := P) w d t xs ys (by rw [hf]; exact hu) hp, hf]
  exact h
end
end Go.Proofs.YtdhpcofnddkcaaaGreatDoorW.PrintWords
namespace Go.Proofs.YtdhpcofnddkcaaaGreatDoor.S
open Go.RowKit Go.Proofs.YtdhpcofnddkcaaaGreatDoor.G Go.Proofs.YtdhpcofnddkcaaaGreatDoorW.PrintWords Go.Proofs.YtdhpcofnddkcaaaGreatDoorW.PrintLast Go.Proofs.YtdhpcofnddkcaaaGreatDoorW.PrintMore
attribute [local go_sem] max2_int min2_int max_two min_two max_three min_three max_four min_four
set_option linter.unusedVariables false
set_option linter.unusedSimpArgs false

theorem eqA44 (d : Nat) (w : World) (x0 y0 : ByteArray) (x1 y1 : Int) (x2 y2 : ByteArray) :
    (Op.equalIn (d + 2) 44 (.agg #[.string x0, .int .i64 x1, .string x2]) (.agg #[.string y0, .int .i64 y1, .string y2])).run Tryz.prog w = .ok (x0.toList == y0.toList && (x1 == y1 && (x2.toList == y2.toList))) w := by
  refine eqA_of Tryz.underlying44 (by kernel_rfl) ?_
  refine eqf_cons (by rfl) (by go_simp; rfl) (by go_simp; rfl) (by go_simp) ?_
  refine eqf_cons (by rfl) (by go_simp; rfl) (by go_simp; rfl) (by go_simp) ?_
  exact eqf_last (by rfl) (by go_simp; rfl) (by go_simp; rfl) (by go_simp)
end Go.Proofs.YtdhpcofnddkcaaaGreatDoor.S
namespace Go.Proofs.YtdhpcofnddkcaaaGreatDoor.S
open Go.RowKit Go.Proofs.YtdhpcofnddkcaaaGreatDoor.G Go.Proofs.YtdhpcofnddkcaaaGreatDoorW.PrintWords Go.Proofs.YtdhpcofnddkcaaaGreatDoorW.PrintLast Go.Proofs.YtdhpcofnddkcaaaGreatDoorW.PrintMore
set_option linter.unusedVariables false
set_option linter.unusedSimpArgs false
attribute [local go_sem] max2_int min2_int max_two min_two max_three min_three max_four min_four
attribute [local go_sem high] eqA44
namespace J3j
theorem Jf {w : World} {g : Nat} {t : TypeId} {a0 a1 a2 a3 a4 a5 a6 a7 : Value} (h : w.heap[g]? = some (.cells #[a0,a1,a2,a3,a4,a5,a6,a7] t (0,0))) : w.cell? ⟨g,0,none⟩ = some a0 ∧ w.cell? ⟨g,1,none⟩ = some a1 ∧ w.cell? ⟨g,2,none⟩ = some a2 ∧ w.cell? ⟨g,3,none⟩ = some a3 ∧ w.cell? ⟨g,4,none⟩ = some a4 ∧ w.cell? ⟨g,5,none⟩ = some a5 ∧ w.cell? ⟨g,6,none⟩ = some a6 ∧ w.cell? ⟨g,7,none⟩ = some a7 ∧ w.frozen? ⟨g,0,none⟩ = false ∧ w.frozen? ⟨g,1,none⟩ = false ∧ w.frozen? ⟨g,2,none⟩ = false ∧ w.frozen? ⟨g,3,none⟩ = false ∧ w.frozen? ⟨g,4,none⟩ = false ∧ w.frozen? ⟨g,5,none⟩ = false ∧ w.frozen? ⟨g,6,none⟩ = false ∧ w.frozen? ⟨g,7,none⟩ = false := ⟨(Zd h 0).trans rfl,(Zd h 1).trans rfl,(Zd h 2).trans rfl,(Zd h 3).trans rfl,(Zd h 4).trans rfl,(Zd h 5).trans rfl,(Zd h 6).trans rfl,(Zd h 7).trans rfl,Zj h 0,Zj h 1,Zj h 2,Zj h 3,Zj h 4,Zj h 5,Zj h 6,Zj h 7⟩
theorem Vh {p_ : Prop} (h_ : p_ := by repeat (first | (with_reducible first | exact HB.out | apply Z4 | apply Zr | apply Zz | refine Z8 ?_ Jaw.out | refine Z8 ?_ Jg6.out) | exact HB.out)) : p_ := h_
theorem J5 {p_ : Prop} (h_ : p_ := by (with_reducible repeat (first | refine Zc ?_ _ | refine Zf ?_ | refine Zb ?_ _));exact F9.out) : p_ := h_
theorem Vz {p_ : Prop} (h_ : p_ := by repeat (first | (with_reducible first | exact HB.out | apply Z4 | apply Zr | apply Zz | refine Z8 ?_ Jaw.out) | exact HB.out)) : p_ := h_
theorem Yb {p_ : Prop} (h_ : p_ := by (with_reducible repeat (first | refine Zc ?_ _ | refine Zf ?_ | refine Zb ?_ _));exact Nz.out) : p_ := h_
theorem Qw {p_ : Prop} (h_ : p_ := by repeat (first | (with_reducible first | exact HB.out | apply Z4 | apply Zr | apply Zz) | exact HB.out)) : p_ := h_
theorem Xu {p_ : Prop} (h_ : p_ := by first | (with_reducible assumption) | assumption) : p_ := h_
theorem Qg {p_ : Prop} (h_ : p_ := by first | rfl | (simp;done) | (simp [*];done)) : p_ := h_
theorem Dx {p_ : Prop} (h_ : p_ := by rw [hg];exact Nat.ne_of_lt (Y3 (g := Gv) (o := .cells #[.int .i64 Z5,.string Jb,.string Jc,.bool Jt,.slice Vw Jd.length Vu,.string Jn,.string Jm,.slice Xf Zy.length Vv] 29 (0,0)) J5)) : p_ := h_
theorem Wp {p_ : Prop} (h_ : p_ := by rw [hg];exact Nat.ne_of_gt (Y3 (g := Gv) (o := .cells #[.int .i64 Z5,.string Jb,.string Jc,.bool Jt,.slice Vw Jd.length Vu,.string Jn,.string Jm,.slice Xf Zy.length Vv] 29 (0,0)) J5)) : p_ := h_
theorem Sy {p_ : Prop} (h_ : p_ := by first | rfl | (simp [Vd,Ve] <;> rfl) | (simp [*,Vd,Ve] <;> rfl)) : p_ := h_
theorem Qy {p_ : Prop} (h_ : p_ := by first | omega | exact Nat.le_refl _) : p_ := h_
theorem Xv {p_ : Prop} (h_ : p_ := by rw [hg];exact (Jh Qw)) : p_ := h_
theorem Ye {p_ : Prop} (h_ : p_ := by rw [hg];exact (Jh Vz)) : p_ := h_
theorem Q0 {p_ : Prop} (h_ : p_ := by first | (go_simp;done) | (go_simp;rfl)) : p_ := h_
end J3j
open J3j
mutual
def Zv.j0 : Nat → Bool → Int → ByteArray → ByteArray → Bool → List ByteArray → ByteArray → ByteArray → List (Y4) → Int → ByteArray → ByteArray → Bool → List ByteArray → ByteArray → ByteArray → List (Y4) → Option (Bool)
 | 0,_,_,_,_,_,_,_,_,_,_,_,_,_,_,_,_,_ => none
 | k + 1,x64,Zea,Zeb,Zec,Zed,zb,Zee,Zef,Nb,Zeg,Zeh,Zei,Zej,kv,Zek,Zel,R9 => if x64 = true then (some false) else (Zv.l0 k (zb.length : Int) 0 Zea Zeb Zec Zed zb Zee Zef Nb Zeg Zeh Zei Zej kv Zek Zel R9)
def Zv.l0 : Nat → Int → Int → Int → ByteArray → ByteArray → Bool → List ByteArray → ByteArray → ByteArray → List (Y4) → Int → ByteArray → ByteArray → Bool → List ByteArray → ByteArray → ByteArray → List (Y4) → Option (Bool)
 | 0,_,_,_,_,_,_,_,_,_,_,_,_,_,_,_,_,_,_ => none
 | k + 1,x67,x68,Zea,Zeb,Zec,Zed,zb,Zee,Zef,Nb,Zeg,Zeh,Zei,Zej,kv,Zek,Zel,R9 => if x68 < x67 then (if 0 ≤ x68 then (if x68 < (zb.length : Int) then (if x68 < (kv.length : Int) then (if (Ha ByteArray.empty zb x68).toList = (Ha ByteArray.empty kv x68).toList then (Zv.l0 k x67 (wrap64 (x68 + 1)) Zea Zeb Zec Zed zb Zee Zef Nb Zeg Zeh Zei Zej kv Zek Zel R9) else (some false)) else (none)) else (none)) else (none)) else (Zv.l1 k (Nb.length : Int) 0 Zea Zeb Zec Zed zb Zee Zef Nb Zeg Zeh Zei Zej kv Zek Zel R9)
def Zv.l1 : Nat → Int → Int → Int → ByteArray → ByteArray → Bool → List ByteArray → ByteArray → ByteArray → List (Y4) → Int → ByteArray → ByteArray → Bool → List ByteArray → ByteArray → ByteArray → List (Y4) → Option (Bool)
 | 0,_,_,_,_,_,_,_,_,_,_,_,_,_,_,_,_,_,_ => none
 | k + 1,x85,x86,Zea,Zeb,Zec,Zed,zb,Zee,Zef,Nb,Zeg,Zeh,Zei,Zej,kv,Zek,Zel,R9 => if x86 < x85 then (if 0 ≤ x86 then (if x86 < (Nb.length : Int) then (if x86 < (R9.length : Int) then (if (!((((Z6 Nb x86).f0).toList) == (((Z6 R9 x86).f0).toList)) || (!(((Z6 Nb x86).f1) == ((Z6 R9 x86).f1)) || (!((((Z6 Nb x86).f2).toList) == (((Z6 R9 x86).f2).toList))))) = true then (some false) else (Zv.l1 k x85 (wrap64 (x86 + 1)) Zea Zeb Zec Zed zb Zee Zef Nb Zeg Zeh Zei Zej kv Zek Zel R9)) else (none)) else (none)) else (none)) else (some true)
end
def Zv.f (k : Nat) (Z5 : Int) (Jb : ByteArray) (Jc : ByteArray) (Jt : Bool) (Jd : List ByteArray) (Jn : ByteArray) (Jm : ByteArray) (Zy : List (Y4)) (Fq : Int) (Fs : ByteArray) (Fu : ByteArray) (Di : Bool) (Qz : List ByteArray) (Fv : ByteArray) (Fw : ByteArray) (Uc : List (Y4)) : Option (Bool) := if Z5 = Fq then (if Jb.toList = Fs.toList then (if Jc.toList = Fu.toList then (if (Jt != Di) = true then (Zv.j0 k true Z5 Jb Jc Jt Jd Jn Jm Zy Fq Fs Fu Di Qz Fv Fw Uc) else (if Jn.toList = Fv.toList then (if Jm.toList = Fw.toList then (if (Jd.length : Int) = (Qz.length : Int) then (Zv.j0 k ((Zy.length : Int) != (Uc.length : Int)) Z5 Jb Jc Jt Jd Jn Jm Zy Fq Fs Fu Di Qz Fv Fw Uc) else (Zv.j0 k true Z5 Jb Jc Jt Jd Jn Jm Zy Fq Fs Fu Di Qz Fv Fw Uc)) else (Zv.j0 k true Z5 Jb Jc Jt Jd Jn Jm Zy Fq Fs Fu Di Qz Fv Fw Uc)) else (Zv.j0 k true Z5 Jb Jc Jt Jd Jn Jm Zy Fq Fs Fu Di Qz Fv Fw Uc))) else (Zv.j0 k true Z5 Jb Jc Jt Jd Jn Jm Zy Fq Fs Fu Di Qz Fv Fw Uc)) else (Zv.j0 k true Z5 Jb Jc Jt Jd Jn Jm Zy Fq Fs Fu Di Qz Fv Fw Uc)) else (Zv.j0 k true Z5 Jb Jc Jt Jd Jn Jm Zy Fq Fs Fu Di Qz Fv Fw Uc)
theorem Zv.Xy : ∀ k,(∀ y0 y1 y2 y3 y4 y5 y6 y7 y8 y9 y10 y11 y12 y13 y14 y15 y16,Jz (Zv.j0 k y0 y1 y2 y3 y4 y5 y6 y7 y8 y9 y10 y11 y12 y13 y14 y15 y16) (Zv.j0 (k + 1) y0 y1 y2 y3 y4 y5 y6 y7 y8 y9 y10 y11 y12 y13 y14 y15 y16)) ∧ (∀ y0 y1 y2 y3 y4 y5 y6 y7 y8 y9 y10 y11 y12 y13 y14 y15 y16 y17,Jz (Zv.l0 k y0 y1 y2 y3 y4 y5 y6 y7 y8 y9 y10 y11 y12 y13 y14 y15 y16 y17) (Zv.l0 (k + 1) y0 y1 y2 y3 y4 y5 y6 y7 y8 y9 y10 y11 y12 y13 y14 y15 y16 y17)) ∧ (∀ y0 y1 y2 y3 y4 y5 y6 y7 y8 y9 y10 y11 y12 y13 y14 y15 y16 y17,Jz (Zv.l1 k y0 y1 y2 y3 y4 y5 y6 y7 y8 y9 y10 y11 y12 y13 y14 y15 y16 y17) (Zv.l1 (k + 1) y0 y1 y2 y3 y4 y5 y6 y7 y8 y9 y10 y11 y12 y13 y14 y15 y16 y17))
 | 0 => ⟨fun _ _ _ _ _ _ _ _ _ _ _ _ _ _ _ _ _ r h => by simp [Zv.j0] at h,fun _ _ _ _ _ _ _ _ _ _ _ _ _ _ _ _ _ _ r h => by simp [Zv.l0] at h,fun _ _ _ _ _ _ _ _ _ _ _ _ _ _ _ _ _ _ r h => by simp [Zv.l1] at h⟩
 | k + 1 => by
  obtain ⟨ih0,ih1,ih2⟩ := Zv.Xy k
  refine ⟨?_,?_,?_⟩
  ·intro y0 y1 y2 y3 y4 y5 y6 y7 y8 y9 y10 y11 y12 y13 y14 y15 y16
   unfold Zv.j0
   repeat' first
   | (with_reducible exact ih0 _ _ _ _ _ _ _ _ _ _ _ _ _ _ _ _ _)
   | (with_reducible exact ih1 _ _ _ _ _ _ _ _ _ _ _ _ _ _ _ _ _ _)
   | (with_reducible exact ih2 _ _ _ _ _ _ _ _ _ _ _ _ _ _ _ _ _ _)
   | (with_reducible exact Jz.refl _)
   | (with_reducible exact Jz.none _)
   | (with_reducible refine Jz.ite ?_ ?_)
   | (with_reducible refine Jz.bind ?_ (fun _ => ?_))
   | exact ih0 _ _ _ _ _ _ _ _ _ _ _ _ _ _ _ _ _
   | exact ih1 _ _ _ _ _ _ _ _ _ _ _ _ _ _ _ _ _ _
   | exact ih2 _ _ _ _ _ _ _ _ _ _ _ _ _ _ _ _ _ _
   | exact Jz.none _
   | refine Jz.ite ?_ ?_
   | refine Jz.bind ?_ (fun _ => ?_)
  ·intro y0 y1 y2 y3 y4 y5 y6 y7 y8 y9 y10 y11 y12 y13 y14 y15 y16 y17
   unfold Zv.l0
   repeat' first
   | (with_reducible exact ih0 _ _ _ _ _ _ _ _ _ _ _ _ _ _ _ _ _)
   | (with_reducible exact ih1 _ _ _ _ _ _ _ _ _ _ _ _ _ _ _ _ _ _)
   | (with_reducible exact ih2 _ _ _ _ _ _ _ _ _ _ _ _ _ _ _ _ _ _)
   | (with_reducible exact Jz.refl _)
   | (with_reducible exact Jz.none _)
   | (with_reducible refine Jz.ite ?_ ?_)
   | (with_reducible refine Jz.bind ?_ (fun _ => ?_))
   | exact ih0 _ _ _ _ _ _ _ _ _ _ _ _ _ _ _ _ _
   | exact ih1 _ _ _ _ _ _ _ _ _ _ _ _ _ _ _ _ _ _
   | exact ih2 _ _ _ _ _ _ _ _ _ _ _ _ _ _ _ _ _ _
   | exact Jz.none _
   | refine Jz.ite ?_ ?_
   | refine Jz.bind ?_ (fun _ => ?_)
  ·intro y0 y1 y2 y3 y4 y5 y6 y7 y8 y9 y10 y11 y12 y13 y14 y15 y16 y17
   unfold Zv.l1
   repeat' first
   | (with_reducible exact ih0 _ _ _ _ _ _ _ _ _ _ _ _ _ _ _ _ _)
   | (with_reducible exact ih1 _ _ _ _ _ _ _ _ _ _ _ _ _ _ _ _ _ _)
   | (with_reducible exact ih2 _ _ _ _ _ _ _ _ _ _ _ _ _ _ _ _ _ _)
   | (with_reducible exact Jz.refl _)
   | (with_reducible exact Jz.none _)
   | (with_reducible refine Jz.ite ?_ ?_)
   | (with_reducible refine Jz.bind ?_ (fun _ => ?_))
   | exact ih0 _ _ _ _ _ _ _ _ _ _ _ _ _ _ _ _ _
   | exact ih1 _ _ _ _ _ _ _ _ _ _ _ _ _ _ _ _ _ _
   | exact ih2 _ _ _ _ _ _ _ _ _ _ _ _ _ _ _ _ _ _
   | exact Jz.none _
   | refine Jz.ite ?_ ?_
   | refine Jz.bind ?_ (fun _ => ?_)
theorem Zv.mono : ∀ a0 a1 a2 a3 a4 a5 a6 a7 a8 a9 a10 a11 a12 a13 a14 a15 k,Jz (Zv.f k a0 a1 a2 a3 a4 a5 a6 a7 a8 a9 a10 a11 a12 a13 a14 a15) (Zv.f (k + 1) a0 a1 a2 a3 a4 a5 a6 a7 a8 a9 a10 a11 a12 a13 a14 a15) := by
 intro a0 a1 a2 a3 a4 a5 a6 a7 a8 a9 a10 a11 a12 a13 a14 a15 k
 obtain ⟨ih0,ih1,ih2⟩ := Zv.Xy k
 unfold Zv.f
 repeat' first
   | (with_reducible exact ih0 _ _ _ _ _ _ _ _ _ _ _ _ _ _ _ _ _)
   | (with_reducible exact ih1 _ _ _ _ _ _ _ _ _ _ _ _ _ _ _ _ _ _)
   | (with_reducible exact ih2 _ _ _ _ _ _ _ _ _ _ _ _ _ _ _ _ _ _)
   | (with_reducible exact Jz.refl _)
   | (with_reducible exact Jz.none _)
   | (with_reducible refine Jz.ite ?_ ?_)
   | (with_reducible refine Jz.bind ?_ (fun _ => ?_))
   | exact ih0 _ _ _ _ _ _ _ _ _ _ _ _ _ _ _ _ _
   | exact ih1 _ _ _ _ _ _ _ _ _ _ _ _ _ _ _ _ _ _
   | exact ih2 _ _ _ _ _ _ _ _ _ _ _ _ _ _ _ _ _ _
   | exact Jz.none _
   | refine Jz.ite ?_ ?_
   | refine Jz.bind ?_ (fun _ => ?_)
set_option maxHeartbeats 8000000 in
set_option maxRecDepth 100000 in
theorem Zv.calls (k : Nat) (Z5 : Int) (Jb : ByteArray) (Jc : ByteArray) (Jt : Bool) (Vw : Option Addr) (Vu : Nat) (Jd : List ByteArray) (Jn : ByteArray) (Jm : ByteArray) (Xf : Option Addr) (Vv : Nat) (Zy : List (Y4)) (Fq : Int) (Fs : ByteArray) (Fu : ByteArray) (Di : Bool) (Z1z : Option Addr) (Z10 : Nat) (Qz : List ByteArray) (Fv : ByteArray) (Fw : ByteArray) (Z11 : Option Addr) (Z12 : Nat) (Uc : List (Y4)) (r : Bool) (w : World) (qd : Kd.C Kd.string w Vw Jd.length Jd) (qf : Jd.length ≤ Vu) (qg : Kd.C k44 w Xf Zy.length Zy) (qh : Zy.length ≤ Vv) (Jnc : Kd.C Kd.string w Z1z Qz.length Qz) (Jnd : Qz.length ≤ Z10) (Jne : Kd.C k44 w Z11 Uc.length Uc) (Jnf : Uc.length ≤ Z12) (h : Zv.f k Z5 Jb Jc Jt Jd Jn Jm Zy Fq Fs Fu Di Qz Fv Fw Uc = some r) :
  Calls Tryz.prog 16 #[.agg #[.int .i64 Z5,.string Jb,.string Jc,.bool Jt,.slice Vw Jd.length Vu,.string Jn,.string Jm,.slice Xf Zy.length Vv],.agg #[.int .i64 Fq,.string Fs,.string Fu,.bool Di,.slice Z1z Qz.length Z10,.string Fv,.string Fw,.slice Z11 Uc.length Z12]] w fun e w' => e = .returned (.bool r) ∧ Below w.heap.size w w' := by
 have Z0x := Tryz.underlying29
 have Z0h := Tryz.underlying44
 have Zl1 := Za.mk qd
 have Z59 := Za.mk qf
 clear qd qf
 have Za5 := Za.mk qg
 have Z6a := Za.mk qh
 clear qg qh
 have Jng := Za.mk Jnc
 have Vip := Za.mk Jnd
 clear Jnc Jnd
 have Jnh := Za.mk Jne
 have Viq := Za.mk Jnf
 clear Jne Jnf
 have HB := Za.mk (Below.refl w.heap.size w)
 have H : (if Z5 = Fq then (if Jb.toList = Fs.toList then (if Jc.toList = Fu.toList then (if (Jt != Di) = true then (Zv.j0 k true Z5 Jb Jc Jt Jd Jn Jm Zy Fq Fs Fu Di Qz Fv Fw Uc) else (if Jn.toList = Fv.toList then (if Jm.toList = Fw.toList then (if (Jd.length : Int) = (Qz.length : Int) then (Zv.j0 k ((Zy.length : Int) != (Uc.length : Int)) Z5 Jb Jc Jt Jd Jn Jm Zy Fq Fs Fu Di Qz Fv Fw Uc) else (Zv.j0 k true Z5 Jb Jc Jt Jd Jn Jm Zy Fq Fs Fu Di Qz Fv Fw Uc)) else (Zv.j0 k true Z5 Jb Jc Jt Jd Jn Jm Zy Fq Fs Fu Di Qz Fv Fw Uc)) else (Zv.j0 k true Z5 Jb Jc Jt Jd Jn Jm Zy Fq Fs Fu Di Qz Fv Fw Uc))) else (Zv.j0 k true Z5 Jb Jc Jt Jd Jn Jm Zy Fq Fs Fu Di Qz Fv Fw Uc)) else (Zv.j0 k true Z5 Jb Jc Jt Jd Jn Jm Zy Fq Fs Fu Di Qz Fv Fw Uc)) else (Zv.j0 k true Z5 Jb Jc Jt Jd Jn Jm Zy Fq Fs Fu Di Qz Fv Fw Uc)) = some r := h
 clear h
 have HC3 := Za.mk H
 clear H
 go_enter Tryz.func16,Tryz.ntmps16
 go_upto_region 1 with (first | ((with_reducible refine Jg (N := 2) rfl ?_);(try (refine Jr (by rfl) ?_;dsimp only));refine Je ?hg (N := 2) ?hd (cs := #[.int .i64 Z5,.string Jb,.string Jc,.bool Jt,.slice Vw Jd.length Vu,.string Jn,.string Jm,.slice Xf Zy.length Vv]) (t := 29) ?hr ?_;(case hd => rfl);(case hg => rfl);(case hr => exact Q0);intro Gv hg w4 hbox hb;have F9 := Za.mk (hbox);have Jni := Za.mk ((Xv : w.heap.size ≤ Gv));have Jaw := Za.mk ((Xv : w.heap.size ≤ Gv));replace HB := Za.mk (Zm Qw hb);clear hb hbox hg) | ((with_reducible refine Jg (N := 3) rfl ?_);(try (refine Jr (by rfl) ?_;dsimp only));refine Je ?hg (N := 3) ?hd (cs := #[.int .i64 Fq,.string Fs,.string Fu,.bool Di,.slice Z1z Qz.length Z10,.string Fv,.string Fw,.slice Z11 Uc.length Z12]) (t := 29) ?hr ?_;(case hd => rfl);(case hg => rfl);(case hr => exact Q0);intro Sg hg w5 hbox hb;have Nz := Za.mk (hbox);have Jnj := Za.mk ((Ye : w.heap.size ≤ Sg));have Jg6 := Za.mk ((Ye : w.heap.size ≤ Sg));replace HB := Za.mk (Zm Vz hb);have X7 := Za.mk ((Dx : Gv ≠ Sg));have X8 := Za.mk ((Wp : Sg ≠ Gv));replace F9 := Za.mk (Zw (g := Gv) (o := .cells #[.int .i64 Z5,.string Jb,.string Jc,.bool Jt,.slice Vw Jd.length Vu,.string Jn,.string Jm,.slice Xf Zy.length Vv] 29 (0,0)) J5 hb);clear hb hbox hg))
 repeat (go_quiet (first | ((with_reducible refine Jg (N := 2) rfl ?_);(try (refine Jr (by rfl) ?_;dsimp only));refine Je ?hg (N := 2) ?hd (cs := #[.int .i64 Z5,.string Jb,.string Jc,.bool Jt,.slice Vw Jd.length Vu,.string Jn,.string Jm,.slice Xf Zy.length Vv]) (t := 29) ?hr ?_;(case hd => rfl);(case hg => rfl);(case hr => exact Q0);intro Gv hg w4 hbox hb;have F9 := Za.mk (hbox);have Jni := Za.mk ((Xv : w.heap.size ≤ Gv));have Jaw := Za.mk ((Xv : w.heap.size ≤ Gv));replace HB := Za.mk (Zm Qw hb);clear hb hbox hg) | ((with_reducible refine Jg (N := 3) rfl ?_);(try (refine Jr (by rfl) ?_;dsimp only));refine Je ?hg (N := 3) ?hd (cs := #[.int .i64 Fq,.string Fs,.string Fu,.bool Di,.slice Z1z Qz.length Z10,.string Fv,.string Fw,.slice Z11 Uc.length Z12]) (t := 29) ?hr ?_;(case hd => rfl);(case hg => rfl);(case hr => exact Q0);intro Sg hg w5 hbox hb;have Nz := Za.mk (hbox);have Jnj := Za.mk ((Ye : w.heap.size ≤ Sg));have Jg6 := Za.mk ((Ye : w.heap.size ≤ Sg));replace HB := Za.mk (Zm Vz hb);have X7 := Za.mk ((Dx : Gv ≠ Sg));have X8 := Za.mk ((Wp : Sg ≠ Gv));replace F9 := Za.mk (Zw (g := Gv) (o := .cells #[.int .i64 Z5,.string Jb,.string Jc,.bool Jt,.slice Vw Jd.length Vu,.string Jn,.string Jm,.slice Xf Zy.length Vv] 29 (0,0)) J5 hb);clear hb hbox hg));go_upto_region 1 with (first | ((with_reducible refine Jg (N := 2) rfl ?_);(try (refine Jr (by rfl) ?_;dsimp only));refine Je ?hg (N := 2) ?hd (cs := #[.int .i64 Z5,.string Jb,.string Jc,.bool Jt,.slice Vw Jd.length Vu,.string Jn,.string Jm,.slice Xf Zy.length Vv]) (t := 29) ?hr ?_;(case hd => rfl);(case hg => rfl);(case hr => exact Q0);intro Gv hg w4 hbox hb;have F9 := Za.mk (hbox);have Jni := Za.mk ((Xv : w.heap.size ≤ Gv));have Jaw := Za.mk ((Xv : w.heap.size ≤ Gv));replace HB := Za.mk (Zm Qw hb);clear hb hbox hg) | ((with_reducible refine Jg (N := 3) rfl ?_);(try (refine Jr (by rfl) ?_;dsimp only));refine Je ?hg (N := 3) ?hd (cs := #[.int .i64 Fq,.string Fs,.string Fu,.bool Di,.slice Z1z Qz.length Z10,.string Fv,.string Fw,.slice Z11 Uc.length Z12]) (t := 29) ?hr ?_;(case hd => rfl);(case hg => rfl);(case hr => exact Q0);intro Sg hg w5 hbox hb;have Nz := Za.mk (hbox);have Jnj := Za.mk ((Ye : w.heap.size ≤ Sg));have Jg6 := Za.mk ((Ye : w.heap.size ≤ Sg));replace HB := Za.mk (Zm Vz hb);have X7 := Za.mk ((Dx : Gv ≠ Sg));have X8 := Za.mk ((Wp : Sg ≠ Gv));replace F9 := Za.mk (Zw (g := Gv) (o := .cells #[.int .i64 Z5,.string Jb,.string Jc,.bool Jt,.slice Vw Jd.length Vu,.string Jn,.string Jm,.slice Xf Zy.length Vv] 29 (0,0)) J5 hb);clear hb hbox hg)))
 (try simp only [Act.put,List.setIfInBounds_toArray,List.set_cons_zero,List.set_cons_succ])
 go_cut [64] (fun v64 wc => ∃ (kq : Nat) (Jax : Bool),v64 = .bool Jax ∧ Za (Zv.j0 kq Jax Z5 Jb Jc Jt Jd Jn Jm Zy Fq Fs Fu Di Qz Fv Fw Uc = some r) ∧ Za (kq ≤ k) ∧ Za (wc.heap[Gv]? = some (.cells #[.int .i64 Z5,.string Jb,.string Jc,.bool Jt,(.slice Vw Jd.length Vu),.string Jn,.string Jm,(.slice Xf Zy.length Vv)] 29 (0,0))) ∧ Za (wc.heap[Sg]? = some (.cells #[.int .i64 Fq,.string Fs,.string Fu,.bool Di,(.slice Z1z Qz.length Z10),.string Fv,.string Fw,(.slice Z11 Uc.length Z12)] 29 (0,0))) ∧ Za (Below w.heap.size w wc))
 case first =>
  have H := HC3.out
  clear HC3
  by_cases c6 : Z5 = Fq
  ·rw [if_pos c6] at H
   have Zk2 : (Z5 == Fq) = true := beq_iff_eq.mpr c6
   have Jcq : (Z5 != Fq) = false := bne_eq_false_iff_eq.mpr c6
   clear c6
   (first | rw [Zk2] | (simp only [Jo,Jq];rw [Zk2]) | skip)
   by_cases c7 : Jb.toList = Fs.toList
   ·rw [if_pos c7] at H
    have Zmg : (Jb.toList == Fs.toList) = true := beq_iff_eq.mpr c7
    have Z2t : (Jb.toList != Fs.toList) = false := bne_eq_false_iff_eq.mpr c7
    clear c7
    by_cases c8 : Jc.toList = Fu.toList
    ·rw [if_pos c8] at H
     have Zfr : (Jc.toList == Fu.toList) = true := beq_iff_eq.mpr c8
     have Zvq : (Jc.toList != Fu.toList) = false := bne_eq_false_iff_eq.mpr c8
     clear c8
     by_cases c9 : (Jt != Di) = true
     ·rw [if_pos c9] at H
      have Hl : (Jt != Di) = true := c9
      (try (have jv : decide (Jt = Di) = false := by simpa using c9))
      (try (have Z34 : (Jt == Di) = false := by simpa using c9))
      (try (have Vl8 : ¬ (Jt = Di) := by simpa using c9))
      clear c9
      have H' := Za.mk H
      clear H
      have Jvs := X7.out
      have Jvt := X8.out
      obtain ⟨vo,vv,vw,Zyh,Zyi,Zyj,Zyk,Zyl,vz,yc,yf,Zym,Zyn,Zyo,Zyp,Zyq⟩ := Jf F9.out
      obtain ⟨Zyr,Zys,Zyt,Zyu,Zyv,Zyw,Zyx,Zyy,Zyz,Zy0,Zy1,Zy2,Zy3,Zy4,Zy5,Zy6⟩ := Jf Nz.out
      go_wp2
      repeat (go_quiet (fail);try go_wp2)
      go_meet
      case rel => exact ⟨_,(true),Qg,H',⟨Qy⟩,⟨J5⟩,⟨Yb⟩,⟨Vh⟩⟩
     ·rw [if_neg c9] at H
      have Hl : (Jt != Di) = false := by simpa using c9
      (try (have jv : decide (Jt = Di) = true := by simpa using c9))
      (try (have Z34 : (Jt == Di) = true := by simpa using c9))
      clear c9
      by_cases c13 : Jn.toList = Fv.toList
      ·rw [if_pos c13] at H
       have Sq : (Jn.toList == Fv.toList) = true := beq_iff_eq.mpr c13
       have jf : (Jn.toList != Fv.toList) = false := bne_eq_false_iff_eq.mpr c13
       clear c13
       by_cases c14 : Jm.toList = Fw.toList
       ·rw [if_pos c14] at H
        have Zg3 : (Jm.toList == Fw.toList) = true := beq_iff_eq.mpr c14
        have Zg4 : (Jm.toList != Fw.toList) = false := bne_eq_false_iff_eq.mpr c14
        clear c14
        by_cases c15 : (Jd.length : Int) = (Qz.length : Int)
        ·rw [if_pos c15] at H
         have Zlp : ((Jd.length : Int) == (Qz.length : Int)) = true := beq_iff_eq.mpr c15
         have Jay : ((Jd.length : Int) != (Qz.length : Int)) = false := bne_eq_false_iff_eq.mpr c15
         have Jaz : (Jd.length == Qz.length) = true := by first | simpa using c15 | (simp at c15 ⊢;omega)
         clear c15
         have H' := Za.mk H
         clear H
         have Jlz := X7.out
         have Jl0 := X8.out
         obtain ⟨Ra,Rb,Rc,qi,qj,ql,qm,qo,Re,Rf,Rh,qp,qw,qx,qy,qz⟩ := Jf F9.out
         obtain ⟨Zoa,Zob,Zoc,Zod,Zoe,Zof,Zog,Zoh,Zoi,Zoj,Zok,Zol,Zom,Zon,Zoo,Zop⟩ := Jf Nz.out
         go_wp2
         repeat (go_quiet (fail);try go_wp2)
         go_meet
         case rel => exact ⟨_,(((Zy.length : Int) != (Uc.length : Int))),Qg,H',⟨Qy⟩,⟨J5⟩,⟨Yb⟩,⟨Vh⟩⟩
        ·rw [if_neg c15] at H
         have Zlp : ((Jd.length : Int) == (Qz.length : Int)) = false := beq_eq_false_iff_ne.mpr c15
         have Jay : ((Jd.length : Int) != (Qz.length : Int)) = true := bne_iff_ne.mpr c15
         have Jaz : (Jd.length == Qz.length) = false := by first | simpa using c15 | (simp at c15 ⊢;omega)
         have H' := Za.mk H
         clear H
         have Vir := X7.out
         have Vis := X8.out
         obtain ⟨Zoq,Zor,Zos,Zot,Zou,Zov,Zow,Zox,Zoy,Zoz,Zo0,Zo1,Zo2,Zo3,Zo4,Zo5⟩ := Jf F9.out
         obtain ⟨Lp,Lr,Ls,Lt,Lu,Lv,Lx,L6,L8,L9,Ma,Mc,Md,Me,Mf,Mg⟩ := Jf Nz.out
         go_wp2
         repeat (go_quiet (fail);try go_wp2)
         go_meet
         case rel => exact ⟨_,(true),Qg,H',⟨Qy⟩,⟨J5⟩,⟨Yb⟩,⟨Vh⟩⟩
       ·rw [if_neg c14] at H
        have Zg3 : (Jm.toList == Fw.toList) = false := beq_eq_false_iff_ne.mpr c14
        have Zg4 : (Jm.toList != Fw.toList) = true := bne_iff_ne.mpr c14
        have H' := Za.mk H
        clear H
        have Jvx := X7.out
        have Jvy := X8.out
        obtain ⟨Zca,Zcb,Zcc,Zcd,Zce,Zcf,Zcg,Zch,Zci,Zcj,Zck,Zcl,Zcm,Zcn,Zco,Zcp⟩ := Jf F9.out
        obtain ⟨Wq,Ws,Wt,Ri,Rj,Rk,Rl,Rm,Wu,Wv,Ww,Rn,Ro,Rp,Rq,Rs⟩ := Jf Nz.out
        go_wp2
        repeat (go_quiet (fail);try go_wp2)
        go_meet
        case rel => exact ⟨_,(true),Qg,H',⟨Qy⟩,⟨J5⟩,⟨Yb⟩,⟨Vh⟩⟩
      ·rw [if_neg c13] at H
       have Sq : (Jn.toList == Fv.toList) = false := beq_eq_false_iff_ne.mpr c13
       have jf : (Jn.toList != Fv.toList) = true := bne_iff_ne.mpr c13
       have H' := Za.mk H
       clear H
       have Vit := X7.out
       have Viu := X8.out
       obtain ⟨Ps,Pt,Pv,Zem,Zen,Zeo,Zep,Zeq,Pw,Px,Py,Zer,Zes,Zet,Zeu,Zev⟩ := Jf F9.out
       obtain ⟨Pz,P5,P6,Zdp,Zdq,Zdr,Zds,Zdt,P7,P8,P9,Zdu,Zdv,Zdw,Zdx,Zdy⟩ := Jf Nz.out
       go_wp2
       repeat (go_quiet (fail);try go_wp2)
       go_meet
       case rel => exact ⟨_,(true),Qg,H',⟨Qy⟩,⟨J5⟩,⟨Yb⟩,⟨Vh⟩⟩
    ·rw [if_neg c8] at H
     have Zfr : (Jc.toList == Fu.toList) = false := beq_eq_false_iff_ne.mpr c8
     have Zvq : (Jc.toList != Fu.toList) = true := bne_iff_ne.mpr c8
     have H' := Za.mk H
     clear H
     have Jx4 := X7.out
     have Jx5 := X8.out
     obtain ⟨Mh,Mi,Mj,Mk,Ml,Mm,Mo,Mq,Mr,Ms,Mt,Mv,Mw,Mx,M0,M3⟩ := Jf F9.out
     obtain ⟨Dy,Dz,D5,Gd,Gf,Gg,Gh,Gi,D6,D7,D8,Gj,Gl,Gm,Gn,Gp⟩ := Jf Nz.out
     go_wp2
     repeat (go_quiet (fail);try go_wp2)
     go_meet
     case rel => exact ⟨_,(true),Qg,H',⟨Qy⟩,⟨J5⟩,⟨Yb⟩,⟨Vh⟩⟩
   ·rw [if_neg c7] at H
    have Zmg : (Jb.toList == Fs.toList) = false := beq_eq_false_iff_ne.mpr c7
    have Z2t : (Jb.toList != Fs.toList) = true := bne_iff_ne.mpr c7
    have H' := Za.mk H
    clear H
    have Jl3 := X7.out
    have Jl4 := X8.out
    obtain ⟨Rz,R3,R4,Zcq,Zcr,Zcs,Zct,Zcu,R5,R6,R7,Zcv,Zcw,Zcx,Zcy,Zcz⟩ := Jf F9.out
    obtain ⟨Uz,U0,U1,Wx,Wy,Wz,W9,Da,U2,U3,U4,Db,Dc,De,Df,Dg⟩ := Jf Nz.out
    go_wp2
    repeat (go_quiet (fail);try go_wp2)
    go_meet
    case rel => exact ⟨_,(true),Qg,H',⟨Qy⟩,⟨J5⟩,⟨Yb⟩,⟨Vh⟩⟩
  ·rw [if_neg c6] at H
   have Zk2 : (Z5 == Fq) = false := beq_eq_false_iff_ne.mpr c6
   have Jcq : (Z5 != Fq) = true := bne_iff_ne.mpr c6
   (first | rw [Zk2] | (simp only [Jo,Jq];rw [Zk2]) | skip)
   have H' := Za.mk H
   clear H
   have Viv := X7.out
   have Viw := X8.out
   obtain ⟨sj,su,sw,tq,tu,Zaa,Zab,Zac,Zad,Zae,Zaf,Zag,Zah,Zai,Zaj,Zak⟩ := Jf F9.out
   obtain ⟨gu,gy,gz,Zew,Zex,Zey,Zez,Ze0,lc,lg,lh,Ze1,Ze2,Ze3,Ze4,Ze5⟩ := Jf Nz.out
   go_wp2
   repeat (go_quiet (fail);try go_wp2)
   go_meet
   case rel => exact ⟨_,(true),Qg,H',⟨Qy⟩,⟨J5⟩,⟨Yb⟩,⟨Vh⟩⟩
 case rest =>
  clear HC3
  try clear c1
  try clear c2
  try clear p2
  try clear c3
  try clear c6
  try clear Zk2
  try clear Jcq
  try clear c7
  try clear Zmg
  try clear Z2t
  try clear c8
  try clear Zfr
  try clear Zvq
  try clear c9
  try clear Hl
  try clear jv
  try clear Z34
  try clear c10
  try clear c13
  try clear Sq
  try clear jf
  try clear c14
  try clear Zg3
  try clear Zg4
  try clear c15
  try clear Zlp
  try clear Jay
  try clear Jaz
  try clear c16
  try clear c19
  try clear Pq
  try clear c25
  try clear c28
  try clear c31
  try clear c34
  try clear vo vv vw Zyh Zyi Zyj Zyk Zyl
  try clear Zyr Zys Zyt Zyu Zyv Zyw Zyx Zyy
  try clear Ra Rb Rc qi qj ql qm qo
  try clear Zoa Zob Zoc Zod Zoe Zof Zog Zoh
  try clear Zoq Zor Zos Zot Zou Zov Zow Zox
  try clear Lp Lr Ls Lt Lu Lv Lx L6
  try clear Zca Zcb Zcc Zcd Zce Zcf Zcg Zch
  try clear Wq Ws Wt Ri Rj Rk Rl Rm
  try clear Ps Pt Pv Zem Zen Zeo Zep Zeq
  try clear Pz P5 P6 Zdp Zdq Zdr Zds Zdt
  try clear Mh Mi Mj Mk Ml Mm Mo Mq
  try clear Dy Dz D5 Gd Gf Gg Gh Gi
  try clear Rz R3 R4 Zcq Zcr Zcs Zct Zcu
  try clear Uz U0 U1 Wx Wy Wz W9 Da
  try clear sj su sw tq tu Zaa Zab Zac
  try clear gu gy gz Zew Zex Zey Zez Ze0
  try clear vz yc yf Zym Zyn Zyo Zyp Zyq
  try clear Zyz Zy0 Zy1 Zy2 Zy3 Zy4 Zy5 Zy6
  try clear Re Rf Rh qp qw qx qy qz
  try clear Zoi Zoj Zok Zol Zom Zon Zoo Zop
  try clear Zoy Zoz Zo0 Zo1 Zo2 Zo3 Zo4 Zo5
  try clear L8 L9 Ma Mc Md Me Mf Mg
  try clear Zci Zcj Zck Zcl Zcm Zcn Zco Zcp
  try clear Wu Wv Ww Rn Ro Rp Rq Rs
  try clear Pw Px Py Zer Zes Zet Zeu Zev
  try clear P7 P8 P9 Zdu Zdv Zdw Zdx Zdy
  try clear Mr Ms Mt Mv Mw Mx M0 M3
  try clear D6 D7 D8 Gj Gl Gm Gn Gp
  try clear R5 R6 R7 Zcv Zcw Zcx Zcy Zcz
  try clear U2 U3 U4 Db Dc De Df Dg
  try clear Zad Zae Zaf Zag Zah Zai Zaj Zak
  try clear lc lg lh Ze1 Ze2 Ze3 Ze4 Ze5
  obtain ⟨kq,Jax,rfl,HA,HJ2,F9,Nz,HB⟩ := hcut
  cases kq with
  | zero => exact absurd HA.out (by simp [Zv.j0])
  | succ kj2 =>
   have H := HA.out
   clear HA
   simp only [Zv.j0] at H
   by_cases c37 : Jax = true
   ·subst c37
    have H1 : (some false) = some r := by rw [if_pos rfl] at H;exact H
    clear H
    have H := H1
    clear H1
    obtain rfl := Option.some.inj H
    go_wp2
    repeat (go_quiet (fail);try go_wp2)
    go_ret
    exact ⟨Sy,Vh⟩
   ·replace c37 := Bool.eq_false_iff.mpr c37
    subst c37
    have H1 : (Zv.l0 kj2 (Jd.length : Int) 0 Z5 Jb Jc Jt Jd Jn Jm Zy Fq Fs Fu Di Qz Fv Fw Uc) = some r := by rw [if_neg (show ¬ (false = true) by decide)] at H;exact H
    clear H
    have H := H1
    clear H1
    have H' := Za.mk H
    clear H
    have Ju6 := X7.out
    have Ju7 := X8.out
    obtain ⟨ll,lm,lq,Zh2,Zh3,Zh4,Zh5,Zh6,lu,lv,lw,Zh7,Zh8,Zh9,Zia,Zib⟩ := Jf F9.out
    go_wp2
    repeat (go_quiet (fail);try go_wp2)
    go_loopg [68] kj2 (fun kq v68 w' => ∃ (Qp : Int),v68 = .int .i64 Qp ∧ Za (Zv.l0 kq (Jd.length : Int) Qp Z5 Jb Jc Jt Jd Jn Jm Zy Fq Fs Fu Di Qz Fv Fw Uc = some r) ∧ Za (kq ≤ kj2) ∧ Za (w'.heap[Gv]? = some (.cells #[.int .i64 Z5,.string Jb,.string Jc,.bool Jt,(.slice Vw Jd.length Vu),.string Jn,.string Jm,(.slice Xf Zy.length Vv)] 29 (0,0))) ∧ Za (w'.heap[Sg]? = some (.cells #[.int .i64 Fq,.string Fs,.string Fu,.bool Di,(.slice Z1z Qz.length Z10),.string Fv,.string Fw,(.slice Z11 Uc.length Z12)] 29 (0,0))) ∧ Za (Below w.heap.size w w'))
    case atStart => exact ⟨(0),Qg,H',⟨Nat.le_refl _⟩,⟨J5⟩,⟨Yb⟩,⟨Vh⟩⟩
    case round =>
     clear H'
     try clear c1
     try clear c2
     try clear p2 p2
     try clear c3
     try clear c6
     try clear Zk2
     try clear Jcq
     try clear c7
     try clear Zmg
     try clear Z2t
     try clear c8
     try clear Zfr
     try clear Zvq
     try clear c9
     try clear Hl
     try clear jv
     try clear Z34
     try clear c10
     try clear c13
     try clear Sq
     try clear jf
     try clear c14
     try clear Zg3
     try clear Zg4
     try clear c15
     try clear Zlp
     try clear Jay
     try clear Jaz
     try clear c16
     try clear c19
     try clear Pq
     try clear c25
     try clear c28
     try clear c31
     try clear c34
     try clear c37
     try clear c38
     try clear vo vv vw Zyh Zyi Zyj Zyk Zyl
     try clear Zyr Zys Zyt Zyu Zyv Zyw Zyx Zyy
     try clear Ra Rb Rc qi qj ql qm qo
     try clear Zoa Zob Zoc Zod Zoe Zof Zog Zoh
     try clear Zoq Zor Zos Zot Zou Zov Zow Zox
     try clear Lp Lr Ls Lt Lu Lv Lx L6
     try clear Zca Zcb Zcc Zcd Zce Zcf Zcg Zch
     try clear Wq Ws Wt Ri Rj Rk Rl Rm
     try clear Ps Pt Pv Zem Zen Zeo Zep Zeq
     try clear Pz P5 P6 Zdp Zdq Zdr Zds Zdt
     try clear Mh Mi Mj Mk Ml Mm Mo Mq
     try clear Dy Dz D5 Gd Gf Gg Gh Gi
     try clear Rz R3 R4 Zcq Zcr Zcs Zct Zcu
     try clear Uz U0 U1 Wx Wy Wz W9 Da
     try clear sj su sw tq tu Zaa Zab Zac
     try clear gu gy gz Zew Zex Zey Zez Ze0
     try clear ll lm lq Zh2 Zh3 Zh4 Zh5 Zh6
     try clear vz yc yf Zym Zyn Zyo Zyp Zyq
     try clear Zyz Zy0 Zy1 Zy2 Zy3 Zy4 Zy5 Zy6
     try clear Re Rf Rh qp qw qx qy qz
     try clear Zoi Zoj Zok Zol Zom Zon Zoo Zop
     try clear Zoy Zoz Zo0 Zo1 Zo2 Zo3 Zo4 Zo5
     try clear L8 L9 Ma Mc Md Me Mf Mg
     try clear Zci Zcj Zck Zcl Zcm Zcn Zco Zcp
     try clear Wu Wv Ww Rn Ro Rp Rq Rs
     try clear Pw Px Py Zer Zes Zet Zeu Zev
     try clear P7 P8 P9 Zdu Zdv Zdw Zdx Zdy
     try clear Mr Ms Mt Mv Mw Mx M0 M3
     try clear D6 D7 D8 Gj Gl Gm Gn Gp
     try clear R5 R6 R7 Zcv Zcw Zcx Zcy Zcz
     try clear U2 U3 U4 Db Dc De Df Dg
     try clear Zad Zae Zaf Zag Zah Zai Zaj Zak
     try clear lc lg lh Ze1 Ze2 Ze3 Ze4 Ze5
     try clear lu lv lw Zh7 Zh8 Zh9 Zia Zib
     obtain ⟨Qp,rfl,HA,HK2,F9,Nz,HB⟩ := hrel
     cases gk with
     | zero => exact absurd HA.out (by simp [Zv.l0])
     | succ k2 =>
      have H := HA.out
      clear HA
      simp only [Zv.l0] at H
      by_cases c40 : Qp < (Jd.length : Int)
      ·rw [if_pos c40] at H
       have Jnk : decide (Qp < (Jd.length : Int)) = true := decide_eq_true c40
       clear c40
       by_cases c41 : 0 ≤ Qp
       ·rw [if_pos c41] at H
        have J3l : decide (0 ≤ Qp) = true := decide_eq_true c41
        clear c41
        by_cases c42 : Qp < (Jd.length : Int)
        ·rw [if_pos c42] at H
         have Zre : decide (Qp < (Jd.length : Int)) = true := decide_eq_true c42
         clear c42
         by_cases c43 : Qp < (Qz.length : Int)
         ·rw [if_pos c43] at H
          have Zrf : decide (Qp < (Qz.length : Int)) = true := decide_eq_true c43
          clear c43
          by_cases c44 : (Ha ByteArray.empty Jd Qp).toList = (Ha ByteArray.empty Qz Qp).toList
          ·rw [if_pos c44] at H
           have Zl3 : ((Ha ByteArray.empty Jd Qp).toList == (Ha ByteArray.empty Qz Qp).toList) = true := beq_iff_eq.mpr c44
           have Zl4 : ((Ha ByteArray.empty Jd Qp).toList != (Ha ByteArray.empty Qz Qp).toList) = false := bne_eq_false_iff_eq.mpr c44
           clear c44
           have H' := Za.mk H
           clear H
           have Vix := X7.out
           have Viy := X8.out
           obtain ⟨Znc,Znd,Zne,Znf,Zng,Znh,Zni,Znj,Znk,Znl,Znm,Znn,Zno,Znp,Znq,Znr⟩ := Jf F9.out
           have Z13 : 0 ≤ (Qp : Int) := of_decide_eq_true Xu
           have Z14 : Qp < (Jd.length : Int) := of_decide_eq_true Xu
           obtain ⟨J3m,e301,kw⟩ := Kd.Ht Zl1.out Qp Z13 Z14
           cases e301
           replace kw := (HB.out.cell (World.block_lt_of_cell? w _ kw)).trans kw
           replace Z13 := eq_true Z13
           replace Z14 := eq_true Z14
           obtain ⟨S9,Ta,Tc,Zic,Zid,Zie,Zif,Zig,Td,Te,Tf,Zih,Zii,Zij,Zik,Zil⟩ := Jf Nz.out
           have Z15 : 0 ≤ (Qp : Int) := of_decide_eq_true Xu
           have Z16 : Qp < (Qz.length : Int) := of_decide_eq_true Xu
           obtain ⟨J3n,e302,ky⟩ := Kd.Ht Jng.out Qp Z15 Z16
           cases e302
           replace ky := (HB.out.cell (World.block_lt_of_cell? w _ ky)).trans ky
           replace Z15 := eq_true Z15
           replace Z16 := eq_true Z16
           go_wp2
           repeat (go_quiet (fail);try go_wp2)
           go_roundg k2
           case measure => have := HJ2.out;have := HK2.out;omega
           case rel => exact ⟨(wrap64 (Qp + 1)),Qg,H',⟨(by have := HJ2.out;have := HK2.out;omega)⟩,⟨J5⟩,⟨Yb⟩,⟨Vh⟩⟩
          ·rw [if_neg c44] at H
           have Zl3 : ((Ha ByteArray.empty Jd Qp).toList == (Ha ByteArray.empty Qz Qp).toList) = false := beq_eq_false_iff_ne.mpr c44
           have Zl4 : ((Ha ByteArray.empty Jd Qp).toList != (Ha ByteArray.empty Qz Qp).toList) = true := bne_iff_ne.mpr c44
           obtain rfl := Option.some.inj H
           have Js6 := X7.out
           have Js7 := X8.out
           obtain ⟨Pj,Pk,Pm,xn,xq,xu,xw,xx,Pn,Po,Pp,xy,xz,qa,qb,qc⟩ := Jf F9.out
           have Z13 : 0 ≤ (Qp : Int) := of_decide_eq_true Xu
           have Z14 : Qp < (Jd.length : Int) := of_decide_eq_true Xu
           obtain ⟨J3m,e301,kw⟩ := Kd.Ht Zl1.out Qp Z13 Z14
           cases e301
           replace kw := (HB.out.cell (World.block_lt_of_cell? w _ kw)).trans kw
           replace Z13 := eq_true Z13
           replace Z14 := eq_true Z14
           obtain ⟨Zi9,Zja,Zjb,Zjc,Zjd,Zje,Zjf,Zjg,Zjh,Zji,Zjj,Zjk,Zjl,Zjm,Zjn,Zjo⟩ := Jf Nz.out
           have Z15 : 0 ≤ (Qp : Int) := of_decide_eq_true Xu
           have Z16 : Qp < (Qz.length : Int) := of_decide_eq_true Xu
           obtain ⟨J3n,e302,ky⟩ := Kd.Ht Jng.out Qp Z15 Z16
           cases e302
           replace ky := (HB.out.cell (World.block_lt_of_cell? w _ ky)).trans ky
           replace Z15 := eq_true Z15
           replace Z16 := eq_true Z16
           go_wp2
           repeat (go_quiet (fail);try go_wp2)
           go_ret
           exact ⟨Sy,Vh⟩
         ·rw [if_neg c43] at H
          exact absurd H (by simp)
        ·rw [if_neg c42] at H
         exact absurd H (by simp)
       ·rw [if_neg c41] at H
        exact absurd H (by simp)
      ·rw [if_neg c40] at H
       have Jnk : decide (Qp < (Jd.length : Int)) = false := decide_eq_false c40
       clear c40
       have H' := Za.mk H
       clear H
       have Jx8 := X7.out
       have Jx9 := X8.out
       obtain ⟨q8,q9,uf,ug,uh,ui,uj,uk,ul,um,uo,uq,ut,uu,uw,uy⟩ := Jf F9.out
       go_wp2
       repeat (go_quiet (fail);try go_wp2)
       go_loopg [86] k2 (fun kq v86 w' => ∃ (Xn : Int),v86 = .int .i64 Xn ∧ Za (Zv.l1 kq (Zy.length : Int) Xn Z5 Jb Jc Jt Jd Jn Jm Zy Fq Fs Fu Di Qz Fv Fw Uc = some r) ∧ Za (kq ≤ k2) ∧ Za (w'.heap[Gv]? = some (.cells #[.int .i64 Z5,.string Jb,.string Jc,.bool Jt,(.slice Vw Jd.length Vu),.string Jn,.string Jm,(.slice Xf Zy.length Vv)] 29 (0,0))) ∧ Za (w'.heap[Sg]? = some (.cells #[.int .i64 Fq,.string Fs,.string Fu,.bool Di,(.slice Z1z Qz.length Z10),.string Fv,.string Fw,(.slice Z11 Uc.length Z12)] 29 (0,0))) ∧ Za (Below w.heap.size w w'))
       case atStart => exact ⟨(0),Qg,H',⟨Nat.le_refl _⟩,⟨J5⟩,⟨Yb⟩,⟨Vh⟩⟩
       case round =>
        clear H'
        try clear c1
        try clear c2
        try clear p2 p2
        try clear c3
        try clear p3
        try clear q3
        try clear hx3
        try clear c4
        try clear c5
        try clear c6
        try clear Zk2
        try clear Jcq
        try clear p6
        try clear c7
        try clear Zmg
        try clear Z2t
        try clear c8
        try clear Zfr
        try clear Zvq
        try clear c9
        try clear Hl
        try clear jv
        try clear Z34
        try clear c10
        try clear c13
        try clear Sq
        try clear jf
        try clear c14
        try clear Zg3
        try clear Zg4
        try clear c15
        try clear Zlp
        try clear Jay
        try clear Jaz
        try clear c16
        try clear c19
        try clear Pq
        try clear c25
        try clear c28
        try clear p30
        try clear q30
        try clear J3o
        try clear c31
        try clear c34
        try clear c37
        try clear c38
        try clear c40
        try clear Jnk
        try clear c41
        try clear J3l
        try clear c42
        try clear Zre
        try clear c43
        try clear Zrf
        try clear c44
        try clear Zl3
        try clear Zl4
        try clear c45
        try clear c48
        try clear c51
        try clear vo vv vw Zyh Zyi Zyj Zyk Zyl
        try clear Zyr Zys Zyt Zyu Zyv Zyw Zyx Zyy
        try clear Ra Rb Rc qi qj ql qm qo
        try clear Zoa Zob Zoc Zod Zoe Zof Zog Zoh
        try clear Zoq Zor Zos Zot Zou Zov Zow Zox
        try clear Lp Lr Ls Lt Lu Lv Lx L6
        try clear Zca Zcb Zcc Zcd Zce Zcf Zcg Zch
        try clear Wq Ws Wt Ri Rj Rk Rl Rm
        try clear Ps Pt Pv Zem Zen Zeo Zep Zeq
        try clear Pz P5 P6 Zdp Zdq Zdr Zds Zdt
        try clear Mh Mi Mj Mk Ml Mm Mo Mq
        try clear Dy Dz D5 Gd Gf Gg Gh Gi
        try clear Rz R3 R4 Zcq Zcr Zcs Zct Zcu
        try clear Uz U0 U1 Wx Wy Wz W9 Da
        try clear sj su sw tq tu Zaa Zab Zac
        try clear gu gy gz Zew Zex Zey Zez Ze0
        try clear ll lm lq Zh2 Zh3 Zh4 Zh5 Zh6
        try clear Znc Znd Zne Znf Zng Znh Zni Znj
        try clear S9 Ta Tc Zic Zid Zie Zif Zig
        try clear Pj Pk Pm xn xq xu xw xx
        try clear Zi9 Zja Zjb Zjc Zjd Zje Zjf Zjg
        try clear q8 q9 uf ug uh ui uj uk
        try clear vz yc yf Zym Zyn Zyo Zyp Zyq
        try clear Zyz Zy0 Zy1 Zy2 Zy3 Zy4 Zy5 Zy6
        try clear Re Rf Rh qp qw qx qy qz
        try clear Zoi Zoj Zok Zol Zom Zon Zoo Zop
        try clear Zoy Zoz Zo0 Zo1 Zo2 Zo3 Zo4 Zo5
        try clear L8 L9 Ma Mc Md Me Mf Mg
        try clear Zci Zcj Zck Zcl Zcm Zcn Zco Zcp
        try clear Wu Wv Ww Rn Ro Rp Rq Rs
        try clear Pw Px Py Zer Zes Zet Zeu Zev
        try clear P7 P8 P9 Zdu Zdv Zdw Zdx Zdy
        try clear Mr Ms Mt Mv Mw Mx M0 M3
        try clear D6 D7 D8 Gj Gl Gm Gn Gp
        try clear R5 R6 R7 Zcv Zcw Zcx Zcy Zcz
        try clear U2 U3 U4 Db Dc De Df Dg
        try clear Zad Zae Zaf Zag Zah Zai Zaj Zak
        try clear lc lg lh Ze1 Ze2 Ze3 Ze4 Ze5
        try clear lu lv lw Zh7 Zh8 Zh9 Zia Zib
        try clear Znk Znl Znm Znn Zno Znp Znq Znr
        try clear Td Te Tf Zih Zii Zij Zik Zil
        try clear Pn Po Pp xy xz qa qb qc
        try clear Zjh Zji Zjj Zjk Zjl Zjm Zjn Zjo
        try clear ul um uo uq ut uu uw uy
        try clear kw
        try clear ky
        try clear Z13
        try clear Z15
        try clear Z14
        try clear Z16
        obtain ⟨Xn,rfl,HA,HK3,F9,Nz,HB⟩ := hrel
        cases gk with
        | zero => exact absurd HA.out (by simp [Zv.l1])
        | succ k3 =>
         have H := HA.out
         clear HA
         simp only [Zv.l1] at H
         by_cases c53 : Xn < (Zy.length : Int)
         ·rw [if_pos c53] at H
          have Zt4 : decide (Xn < (Zy.length : Int)) = true := decide_eq_true c53
          clear c53
          by_cases c54 : 0 ≤ Xn
          ·rw [if_pos c54] at H
           have Viz : decide (0 ≤ Xn) = true := decide_eq_true c54
           clear c54
           by_cases c55 : Xn < (Zy.length : Int)
           ·rw [if_pos c55] at H
            have Vi0 : decide (Xn < (Zy.length : Int)) = true := decide_eq_true c55
            clear c55
            by_cases c56 : Xn < (Uc.length : Int)
            ·rw [if_pos c56] at H
             have Zmc : decide (Xn < (Uc.length : Int)) = true := decide_eq_true c56
             clear c56
             by_cases c57 : (!((((Z6 Zy Xn).f0).toList) == (((Z6 Uc Xn).f0).toList)) || (!(((Z6 Zy Xn).f1) == ((Z6 Uc Xn).f1)) || (!((((Z6 Zy Xn).f2).toList) == (((Z6 Uc Xn).f2).toList))))) = true
             ·rw [if_pos c57] at H
              have Zr1 : (!((((Z6 Zy Xn).f0).toList) == (((Z6 Uc Xn).f0).toList)) || (!(((Z6 Zy Xn).f1) == ((Z6 Uc Xn).f1)) || (!((((Z6 Zy Xn).f2).toList) == (((Z6 Uc Xn).f2).toList))))) = true := c57
              clear c57
              obtain rfl := Option.some.inj H
              have Vi1 := X7.out
              have Vi2 := X8.out
              obtain ⟨J9d,J9e,J9f,J9g,J9h,J9i,J9j,J9k,J9l,J9m,J9n,J9o,J9p,J9q,J9r,J9s⟩ := Jf F9.out
              have Z4g : 0 ≤ (Xn : Int) := of_decide_eq_true Xu
              have Z4h : Xn < (Zy.length : Int) := of_decide_eq_true Xu
              obtain ⟨J3p,e303,Zam,Zan,Zao⟩ := ja Za5.out Xn Z4g Z4h
              cases e303
              replace Zam := (HB.out.cell (World.block_lt_of_cell? w _ Zam)).trans Zam
              replace Zan := (HB.out.cell (World.block_lt_of_cell? w _ Zan)).trans Zan
              replace Zao := (HB.out.cell (World.block_lt_of_cell? w _ Zao)).trans Zao
              replace Z4g := eq_true Z4g
              replace Z4h := eq_true Z4h
              obtain ⟨J9t,J9u,J9v,J9w,J9x,J9y,J9z,J90,J91,J92,J93,J94,J95,J96,J97,J98⟩ := Jf Nz.out
              have Z4i : 0 ≤ (Xn : Int) := of_decide_eq_true Xu
              have Z4j : Xn < (Uc.length : Int) := of_decide_eq_true Xu
              obtain ⟨J3q,e304,Zap,Zaq,Zar⟩ := ja Jnh.out Xn Z4i Z4j
              cases e304
              replace Zap := (HB.out.cell (World.block_lt_of_cell? w _ Zap)).trans Zap
              replace Zaq := (HB.out.cell (World.block_lt_of_cell? w _ Zaq)).trans Zaq
              replace Zar := (HB.out.cell (World.block_lt_of_cell? w _ Zar)).trans Zar
              replace Z4i := eq_true Z4i
              replace Z4j := eq_true Z4j
              go_wp2
              repeat (go_quiet (fail);try go_wp2)
              go_ret
              exact ⟨Sy,Vh⟩
             ·rw [if_neg c57] at H
              have Zr1 : (!((((Z6 Zy Xn).f0).toList) == (((Z6 Uc Xn).f0).toList)) || (!(((Z6 Zy Xn).f1) == ((Z6 Uc Xn).f1)) || (!((((Z6 Zy Xn).f2).toList) == (((Z6 Uc Xn).f2).toList))))) = false := by simpa using c57
              clear c57
              have H' := Za.mk H
              clear H
              have Jyc := X7.out
              have Jyd := X8.out
              obtain ⟨Zo7,Zo8,Zo9,Zpa,Zpb,Zpc,Zpd,Zpe,Zpf,Zpg,Zph,Zpi,Zpj,Zpk,Zpl,Zpm⟩ := Jf F9.out
              have Z4g : 0 ≤ (Xn : Int) := of_decide_eq_true Xu
              have Z4h : Xn < (Zy.length : Int) := of_decide_eq_true Xu
              obtain ⟨J3p,e303,Zam,Zan,Zao⟩ := ja Za5.out Xn Z4g Z4h
              cases e303
              replace Zam := (HB.out.cell (World.block_lt_of_cell? w _ Zam)).trans Zam
              replace Zan := (HB.out.cell (World.block_lt_of_cell? w _ Zan)).trans Zan
              replace Zao := (HB.out.cell (World.block_lt_of_cell? w _ Zao)).trans Zao
              replace Z4g := eq_true Z4g
              replace Z4h := eq_true Z4h
              obtain ⟨J99,Vaa,Vab,Vac,Vad,Vae,Vaf,Vag,Vah,Vai,Vaj,Vak,Vam,Van,Vao,Vap⟩ := Jf Nz.out
              have Z4i : 0 ≤ (Xn : Int) := of_decide_eq_true Xu
              have Z4j : Xn < (Uc.length : Int) := of_decide_eq_true Xu
              obtain ⟨J3q,e304,Zap,Zaq,Zar⟩ := ja Jnh.out Xn Z4i Z4j
              cases e304
              replace Zap := (HB.out.cell (World.block_lt_of_cell? w _ Zap)).trans Zap
              replace Zaq := (HB.out.cell (World.block_lt_of_cell? w _ Zaq)).trans Zaq
              replace Zar := (HB.out.cell (World.block_lt_of_cell? w _ Zar)).trans Zar
              replace Z4i := eq_true Z4i
              replace Z4j := eq_true Z4j
              go_wp2
              repeat (go_quiet (fail);try go_wp2)
              go_roundg k3
              case measure => have := HJ2.out;have := HK2.out;have := HK3.out;omega
              case rel => exact ⟨(wrap64 (Xn + 1)),Qg,H',⟨(by have := HJ2.out;have := HK2.out;have := HK3.out;omega)⟩,⟨J5⟩,⟨Yb⟩,⟨Vh⟩⟩
            ·rw [if_neg c56] at H
             exact absurd H (by simp)
           ·rw [if_neg c55] at H
            exact absurd H (by simp)
          ·rw [if_neg c54] at H
           exact absurd H (by simp)
         ·rw [if_neg c53] at H
          have Zt4 : decide (Xn < (Zy.length : Int)) = false := decide_eq_false c53
          clear c53
          obtain rfl := Option.some.inj H
          go_wp2
          repeat (go_quiet (fail);try go_wp2)
          go_ret
          exact ⟨Sy,Vh⟩
end Go.Proofs.YtdhpcofnddkcaaaGreatDoor.S
