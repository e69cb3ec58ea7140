/- whatever options, one by one: what they are then, or that it is none (Text 5 of 5: what the law's proof rests on, joined; walks printed by the kit's print over given contracts, walks and plain laws by hand.) -/
import Derived.Test.YtajgnkncdkibeaaGreatDoorNse0
import Derived.Test.YtajgnkncdkibeaaGreatDoorNse1
import Derived.Test.YtajgnkncdkibeaaGreatDoorNse2
import Derived.Test.YtajgnkncdkibeaaGreatDoorNse3
namespace Go.Proofs.YtajgnkncdkibeaaGreatDoor.P
open Go.RowKit Go.Proofs.YtajgnkncdkibeaaGreatDoor.G Go.Proofs.YtajgnkncdkibeaaGreatDoor.U Go.Proofs.YtajgnkncdkibeaaGreatDoor.R Go.Proofs.YtajgnkncdkibeaaGreatDoorW.PrintWords Go.Proofs.YtajgnkncdkibeaaGreatDoorW.PrintLast Go.Proofs.YtajgnkncdkibeaaGreatDoorW.PrintMore
attribute [local go_sem] max2_int min2_int max_two min_two max_three min_three max_four min_four
set_option linter.unusedVariables false
set_option linter.unusedSimpArgs false
attribute [local go_sem high] eqA26
mutual
def polyglotlaw12_NumberSets.l0 : Nat → List (S31) → Int → Int → Int → Int → Int → Bool → Bool → Option (Bool)
  | 0, _, _, _, _, _, _, _, _ => none
  | k + 1, x19, x20, x21, x116000, x116001, x116002, x116003, x116004 => if x21 < x20 then (if 0 ≤ x21 then (if x21 < (x19.length : Int) then ((number_Opts_Set.f x116000 x116001 x116002 x116003 x116004 ((rd_T31 x19 x21).f0) ((rd_T31 x19 x21).f1) ((rd_T31 x19 x21).f2.f0) ((rd_T31 x19 x21).f2.f1) ((rd_T31 x19 x21).f2.f2) ((rd_T31 x19 x21).f3)).bind fun bt118 => ((polyglotlaw12_Set.f k x116000 x116001 x116002 x116003 x116004 ((rd_T31 x19 x21).f0) ((rd_T31 x19 x21).f1) ((rd_T31 x19 x21).f2.f0) ((rd_T31 x19 x21).f2.f1) ((rd_T31 x19 x21).f2.f2) ((rd_T31 x19 x21).f3)).bind fun bt125 => (if (bt125.2.2.2.2.2 != (bt118.2.2.2.2.2 == 0)) = true then (polyglotlaw12_NumberSets.j1 k bt125.2.2.2.2.2 x19 x20 x21 true x116000 x116001 x116002 x116003 x116004 bt118.1 bt118.2.1 bt118.2.2.1 bt118.2.2.2.1 bt118.2.2.2.2.1) else (if bt125.2.2.2.2.2 = true then (polyglotlaw12_NumberSets.j1 k bt125.2.2.2.2.2 x19 x20 x21 (!(bt118.1 == bt125.1) || (!(bt118.2.1 == bt125.2.1) || (!(bt118.2.2.1 == bt125.2.2.1) || (!(bt118.2.2.2.1 == bt125.2.2.2.1) || (!(bt118.2.2.2.2.1 == bt125.2.2.2.2.1)))))) x116000 x116001 x116002 x116003 x116004 bt118.1 bt118.2.1 bt118.2.2.1 bt118.2.2.2.1 bt118.2.2.2.2.1) else (if bt118.2.2.2.2.2 = 1 then (polyglotlaw12_NumberSets.j1 k bt125.2.2.2.2.2 x19 x20 x21 (!(bt118.1 == bt125.1) || (!(bt118.2.1 == bt125.2.1) || (!(bt118.2.2.1 == bt125.2.2.1) || (!(bt118.2.2.2.1 == bt125.2.2.2.1) || (!(bt118.2.2.2.2.1 == bt125.2.2.2.2.1)))))) x116000 x116001 x116002 x116003 x116004 bt118.1 bt118.2.1 bt118.2.2.1 bt118.2.2.2.1 bt118.2.2.2.2.1) else (polyglotlaw12_NumberSets.j1 k bt125.2.2.2.2.2 x19 x20 x21 true x116000 x116001 x116002 x116003 x116004 bt118.1 bt118.2.1 bt118.2.2.1 bt118.2.2.2.1 bt118.2.2.2.2.1)))))) else (none)) else (none)) else (if x116000 ≥ 1 then (if x116001 ≤ x116002 then (some (decide (x116002 ≤ 20))) else (some false)) else (some false))
def polyglotlaw12_NumberSets.j1 : Nat → Bool → List (S31) → Int → Int → Bool → Int → Int → Int → Bool → Bool → Int → Int → Int → Bool → Bool → Option (Bool)
  | 0, _, _, _, _, _, _, _, _, _, _, _, _, _, _, _ => none
  | k + 1, x9, x19, x20, x21, x60, x116000, x116001, x116002, x116003, x116004, x125000, x125001, x125002, x125003, x125004 => if x60 = true then (some false) else (if x9 = true then (polyglotlaw12_NumberSets.l0 k x19 x20 (wrap64 (x21 + 1)) x125000 x125001 x125002 x125003 x125004) else (polyglotlaw12_NumberSets.l0 k x19 x20 (wrap64 (x21 + 1)) x116000 x116001 x116002 x116003 x116004))
end
def polyglotlaw12_NumberSets.f (k : Nat) (l0 : List (S31)) : Option (Bool) := (polyglotlaw12_head.f).bind fun t108 => (if t108 = true then ((polyglotlaw12_few.f k l0).bind fun t109 => (if t109 = true then ((number_Default.f).bind fun bt110 => (if (!(bt110.1 == 1) || (!(bt110.2.1 == 0) || (!(bt110.2.2.1 == 3) || (bt110.2.2.2.1 || (bt110.2.2.2.2))))) = true then (some false) else (polyglotlaw12_NumberSets.l0 k l0 (l0.length : Int) 0 bt110.1 bt110.2.1 bt110.2.2.1 bt110.2.2.2.1 bt110.2.2.2.2))) else (some true))) else (some false))
theorem polyglotlaw12_NumberSets.mono_l : ∀ k, (∀ y0 y1 y2 y3 y4 y5 y6 y7, LeO (polyglotlaw12_NumberSets.l0 k y0 y1 y2 y3 y4 y5 y6 y7) (polyglotlaw12_NumberSets.l0 (k + 1) y0 y1 y2 y3 y4 y5 y6 y7)) ∧ (∀ y0 y1 y2 y3 y4 y5 y6 y7 y8 y9 y10 y11 y12 y13 y14, LeO (polyglotlaw12_NumberSets.j1 k y0 y1 y2 y3 y4 y5 y6 y7 y8 y9 y10 y11 y12 y13 y14) (polyglotlaw12_NumberSets.j1 (k + 1) y0 y1 y2 y3 y4 y5 y6 y7 y8 y9 y10 y11 y12 y13 y14))
  | 0 => ⟨fun _ _ _ _ _ _ _ _ r h => by simp [polyglotlaw12_NumberSets.l0] at h, fun _ _ _ _ _ _ _ _ _ _ _ _ _ _ _ r h => by simp [polyglotlaw12_NumberSets.j1] at h⟩
  | k + 1 => by
    obtain ⟨ih0, ih1⟩ := polyglotlaw12_NumberSets.mono_l k
    refine ⟨?_, ?_⟩
    · intro y0 y1 y2 y3 y4 y5 y6 y7
      unfold polyglotlaw12_NumberSets.l0
      repeat' first
      | (with_reducible exact ih0 _ _ _ _ _ _ _ _)
      | (with_reducible exact ih1 _ _ _ _ _ _ _ _ _ _ _ _ _ _ _)
      | (with_reducible exact polyglotlaw12_Set.mono _ _ _ _ _ _ _ _ _ _ _ _)
      | (with_reducible exact polyglotlaw12_few.mono _ _)
      | (with_reducible exact LeO.refl _)
      | (with_reducible exact LeO.none _)
      | (with_reducible refine LeO.ite ?_ ?_)
      | (with_reducible refine LeO.bind ?_ (fun _ => ?_))
      | exact ih0 _ _ _ _ _ _ _ _
      | exact ih1 _ _ _ _ _ _ _ _ _ _ _ _ _ _ _
      | exact polyglotlaw12_Set.mono _ _ _ _ _ _ _ _ _ _ _ _
      | exact polyglotlaw12_few.mono _ _
      | exact LeO.none _
      | refine LeO.ite ?_ ?_
      | refine LeO.bind ?_ (fun _ => ?_)
    · intro y0 y1 y2 y3 y4 y5 y6 y7 y8 y9 y10 y11 y12 y13 y14
      unfold polyglotlaw12_NumberSets.j1
      repeat' first
      | (with_reducible exact ih0 _ _ _ _ _ _ _ _)
      | (with_reducible exact ih1 _ _ _ _ _ _ _ _ _ _ _ _ _ _ _)
      | (with_reducible exact polyglotlaw12_Set.mono _ _ _ _ _ _ _ _ _ _ _ _)
      | (with_reducible exact polyglotlaw12_few.mono _ _)
      | (with_reducible exact LeO.refl _)
      | (with_reducible exact LeO.none _)
      | (with_reducible refine LeO.ite ?_ ?_)
      | (with_reducible refine LeO.bind ?_ (fun _ => ?_))
      | exact ih0 _ _ _ _ _ _ _ _
      | exact ih1 _ _ _ _ _ _ _ _ _ _ _ _ _ _ _
      | exact polyglotlaw12_Set.mono _ _ _ _ _ _ _ _ _ _ _ _
      | exact polyglotlaw12_few.mono _ _
      | exact LeO.none _
      | refine LeO.ite ?_ ?_
      | refine LeO.bind ?_ (fun _ => ?_)
set_option maxHeartbeats 8000000 in
set_option maxRecDepth 100000 in
theorem polyglotlaw12_NumberSets.calls (k : Nat) (A0 : Option Addr) (c0 : Nat) (l0 : List (S31)) (r : Bool) (w : World) (hr0 : Kd.C k31 w A0 l0.length l0) (hc0 : l0.length ≤ c0) (h : polyglotlaw12_NumberSets.f k l0 = some r) :
    Calls Tryz.prog 3 #[.slice A0 l0.length c0] w fun e w' => e = .returned (.bool r) ∧ Below w.heap.size w w' := by
  have hu26 := Tryz.underlying26
  have hu31 := Tryz.underlying31
  have hu29 := Tryz.underlying29
  have HR0 := Aside0.mk hr0
  have HC0 := Aside0.mk hc0
  clear hr0 hc0
  have HB := Aside0.mk (Below.refl w.heap.size w)
  have H : ((polyglotlaw12_head.f).bind fun t108 => (if t108 = true then ((polyglotlaw12_few.f k l0).bind fun t109 => (if t109 = true then ((number_Default.f).bind fun bt110 => (if (!(bt110.1 == 1) || (!(bt110.2.1 == 0) || (!(bt110.2.2.1 == 3) || (bt110.2.2.2.1 || (bt110.2.2.2.2))))) = true then (some false) else (polyglotlaw12_NumberSets.l0 k l0 (l0.length : Int) 0 bt110.1 bt110.2.1 bt110.2.2.1 bt110.2.2.2.1 bt110.2.2.2.2))) else (some true))) else (some false))) = some r := h
  clear h
  replace H := Option.bind_eq_some_iff.mp H
  obtain ⟨t108, A20, H⟩ := H
  replace H : (if t108 = true then ((polyglotlaw12_few.f k l0).bind fun t109 => (if t109 = true then ((number_Default.f).bind fun bt110 => (if (!(bt110.1 == 1) || (!(bt110.2.1 == 0) || (!(bt110.2.2.1 == 3) || (bt110.2.2.2.1 || (bt110.2.2.2.2))))) = true then (some false) else (polyglotlaw12_NumberSets.l0 k l0 (l0.length : Int) 0 bt110.1 bt110.2.1 bt110.2.2.1 bt110.2.2.2.1 bt110.2.2.2.2))) else (some true))) else (some false)) = some r := H
  have A2 := Aside0.mk A20
  clear A20
  by_cases c3 : t108 = true
  · subst c3
    have H1 : ((polyglotlaw12_few.f k l0).bind fun t109 => (if t109 = true then ((number_Default.f).bind fun bt110 => (if (!(bt110.1 == 1) || (!(bt110.2.1 == 0) || (!(bt110.2.2.1 == 3) || (bt110.2.2.2.1 || (bt110.2.2.2.2))))) = true then (some false) else (polyglotlaw12_NumberSets.l0 k l0 (l0.length : Int) 0 bt110.1 bt110.2.1 bt110.2.2.1 bt110.2.2.2.1 bt110.2.2.2.2))) else (some true))) = some r := by rw [if_pos rfl] at H; exact H
    clear H
    have H := H1
    clear H1
    replace H := Option.bind_eq_some_iff.mp H
    obtain ⟨t109, A40, H⟩ := H
    replace H : (if t109 = true then ((number_Default.f).bind fun bt110 => (if (!(bt110.1 == 1) || (!(bt110.2.1 == 0) || (!(bt110.2.2.1 == 3) || (bt110.2.2.2.1 || (bt110.2.2.2.2))))) = true then (some false) else (polyglotlaw12_NumberSets.l0 k l0 (l0.length : Int) 0 bt110.1 bt110.2.1 bt110.2.2.1 bt110.2.2.2.1 bt110.2.2.2.2))) else (some true)) = some r := H
    have A4 := Aside0.mk A40
    clear A40
    by_cases c5 : t109 = true
    · subst c5
      have H1 : ((number_Default.f).bind fun bt110 => (if (!(bt110.1 == 1) || (!(bt110.2.1 == 0) || (!(bt110.2.2.1 == 3) || (bt110.2.2.2.1 || (bt110.2.2.2.2))))) = true then (some false) else (polyglotlaw12_NumberSets.l0 k l0 (l0.length : Int) 0 bt110.1 bt110.2.1 bt110.2.2.1 bt110.2.2.2.1 bt110.2.2.2.2))) = some r := by rw [if_pos rfl] at H; exact H
      clear H
      have H := H1
      clear H1
      replace H := Option.bind_eq_some_iff.mp H
      obtain ⟨⟨t110, t111, t112, t113, t114⟩, A60, H⟩ := H
      replace H : (if (!(t110 == 1) || (!(t111 == 0) || (!(t112 == 3) || (t113 || (t114))))) = true then (some false) else (polyglotlaw12_NumberSets.l0 k l0 (l0.length : Int) 0 t110 t111 t112 t113 t114)) = some r := H
      have A6 := Aside0.mk A60
      clear A60
      by_cases c7 : (!(t110 == 1) || (!(t111 == 0) || (!(t112 == 3) || (t113 || (t114))))) = true
      · rw [if_pos c7] at H
        have c7b0 : (!(t110 == 1) || (!(t111 == 0) || (!(t112 == 3) || (t113 || (t114))))) = true := c7
        clear c7
        obtain rfl := Option.some.inj H
        go_enter Tryz.func3, Tryz.ntmps3
        go_wp2_with (first | ((with_reducible refine gate_callee (f := 5) rfl ?_); refine goesL_ (some 10) rfl rfl Tryz.func5 (by kernel_rfl) rfl #[] rfl (by (try simp only [List.map_toArray, List.map_cons, List.map_nil]); first | done | rfl | (simp only [List.length_drop, List.length_take]; rfl)) ?_; (with_reducible refine (polyglotlaw12_head.calls  true _ A2.out).mono ?_); rintro e w8 ⟨rfl, hb⟩; refine ⟨_, rfl, ?_⟩; have n0_ := Aside0.mk (below_step (by repeat (first | (with_reducible first | exact HB.out | apply below_alloc | apply pw_below_drewN | apply below_drew1) | exact HB.out)) hb); clear HB; have HB := n0_; clear n0_; (try clear hb); (try clear hb2); (try clear hk); (try clear hi)) | ((with_reducible refine gate_callee (f := 6) rfl ?_); refine goesL_ (some 13) rfl rfl Tryz.func6 (by kernel_rfl) rfl #[.slice A0 l0.length c0] rfl (by (try simp only [List.map_toArray, List.map_cons, List.map_nil]); first | done | rfl | (simp only [List.length_drop, List.length_take]; rfl)) ?_; (with_reducible refine (polyglotlaw12_few.calls k _ _ l0 true _ ?side1 ?side2 A4.out).mono ?_); (case side1 => repeat (first | exact (Kd.C_below HR0.out HB.out) | (with_reducible refine Kd.C_alloc ?_ _) | (with_reducible refine Kd.C_drewN ?_ _) | (with_reducible refine Kd.C_drew ?_))); (case side2 => exact HC0.out); rintro e w9 ⟨rfl, hb⟩; refine ⟨_, rfl, ?_⟩; have n0_ := Aside0.mk (below_step (by repeat (first | (with_reducible first | exact HB.out | apply below_alloc | apply pw_below_drewN | apply below_drew1) | exact HB.out)) hb); clear HB; have HB := n0_; clear n0_; (try clear hb); (try clear hb2); (try clear hk); (try clear hi)) | ((with_reducible refine gate_callee (f := 7) rfl ?_); refine goesL_ (some 15) rfl rfl Tryz.func7 (by kernel_rfl) rfl #[] rfl (by (try simp only [List.map_toArray, List.map_cons, List.map_nil]); first | done | rfl | (simp only [List.length_drop, List.length_take]; rfl)) ?_; (with_reducible refine (number_Default.calls  t110 t111 t112 t113 t114 _ A6.out).mono ?_); rintro e w10 ⟨rfl, hb⟩; refine ⟨_, rfl, ?_⟩; have n0_ := Aside0.mk (below_step (by repeat (first | (with_reducible first | exact HB.out | apply below_alloc | apply pw_below_drewN | apply below_drew1) | exact HB.out)) hb); clear HB; have HB := n0_; clear n0_; (try clear hb); (try clear hb2); (try clear hk); (try clear hi)) | ((with_reducible refine gate_dst (N := 3) rfl ?_); refine box_event ?hg (N := 3) ?hd (cs := #[.int .i64 0, .int .i64 0, .int .i64 0, .bool false, .bool false]) (t := 26) ?hr ?_; (case hd => rfl); (case hg => rfl); (case hr => first | (go_simp; done) | (go_simp; rfl)); intro gb115 hg w11 hbox hb; have n0_ := Aside0.mk (below_step (by repeat (first | (with_reducible first | exact HB.out | apply below_alloc | apply pw_below_drewN | apply below_drew1) | exact HB.out)) hb); have n1_ := Aside0.mk (hbox); have n2_ := Aside0.mk ((by rw [hg]; exact (below_size (by repeat (first | (with_reducible first | exact HB.out | apply below_alloc | apply pw_below_drewN | apply below_drew1) | exact HB.out))) : w.heap.size ≤ gb115)); have n3_ := Aside0.mk ((by rw [hg]; exact (below_size (by repeat (first | (with_reducible first | exact HB.out | apply below_alloc | apply pw_below_drewN | apply below_drew1) | exact HB.out))) : w.heap.size ≤ gb115)); clear HB; have HB := n0_; have BK115 := n1_; have GW115 := n2_; have GE115 := n3_; clear n0_ n1_ n2_ n3_; clear hb hbox hg; have hcz12_0 : w11.cell? ⟨gb115, 0, none⟩ = some (.int .i64 0) := (blk_cell BK115.out 0).trans rfl; have hcz12_1 : w11.cell? ⟨gb115, 1, none⟩ = some (.int .i64 0) := (blk_cell BK115.out 1).trans rfl; have hcz12_2 : w11.cell? ⟨gb115, 2, none⟩ = some (.int .i64 0) := (blk_cell BK115.out 2).trans rfl; have hcz12_3 : w11.cell? ⟨gb115, 3, none⟩ = some (.bool false) := (blk_cell BK115.out 3).trans rfl; have hcz12_4 : w11.cell? ⟨gb115, 4, none⟩ = some (.bool false) := (blk_cell BK115.out 4).trans rfl; have hfz12_0 := blk_frozen BK115.out 0; have hfz12_1 := blk_frozen BK115.out 1; have hfz12_2 := blk_frozen BK115.out 2; have hfz12_3 := blk_frozen BK115.out 3; have hfz12_4 := blk_frozen BK115.out 4))
        go_ret
        exact ⟨by first | rfl | (simp [errW_none, errW_some] <;> rfl) | (simp [*, errW_none, errW_some] <;> rfl), by repeat (first | (with_reducible first | exact HB.out | apply below_alloc | apply pw_below_drewN | apply below_drew1 | refine below_set ?_ GE115.out) | exact HB.out)⟩
      · rw [if_neg c7] at H
        have c7b0 : (!(t110 == 1) || (!(t111 == 0) || (!(t112 == 3) || (t113 || (t114))))) = false := by simpa using c7
        clear c7
        have H' := Aside0.mk H
        clear H
        go_enter Tryz.func3, Tryz.ntmps3
        go_wp2_with (first | ((with_reducible refine gate_callee (f := 5) rfl ?_); refine goesL_ (some 10) rfl rfl Tryz.func5 (by kernel_rfl) rfl #[] rfl (by (try simp only [List.map_toArray, List.map_cons, List.map_nil]); first | done | rfl | (simp only [List.length_drop, List.length_take]; rfl)) ?_; (with_reducible refine (polyglotlaw12_head.calls  true _ A2.out).mono ?_); rintro e w13 ⟨rfl, hb⟩; refine ⟨_, rfl, ?_⟩; have n0_ := Aside0.mk (below_step (by repeat (first | (with_reducible first | exact HB.out | apply below_alloc | apply pw_below_drewN | apply below_drew1) | exact HB.out)) hb); clear HB; have HB := n0_; clear n0_; (try clear hb); (try clear hb2); (try clear hk); (try clear hi)) | ((with_reducible refine gate_callee (f := 6) rfl ?_); refine goesL_ (some 13) rfl rfl Tryz.func6 (by kernel_rfl) rfl #[.slice A0 l0.length c0] rfl (by (try simp only [List.map_toArray, List.map_cons, List.map_nil]); first | done | rfl | (simp only [List.length_drop, List.length_take]; rfl)) ?_; (with_reducible refine (polyglotlaw12_few.calls k _ _ l0 true _ ?side1 ?side2 A4.out).mono ?_); (case side1 => repeat (first | exact (Kd.C_below HR0.out HB.out) | (with_reducible refine Kd.C_alloc ?_ _) | (with_reducible refine Kd.C_drewN ?_ _) | (with_reducible refine Kd.C_drew ?_))); (case side2 => exact HC0.out); rintro e w14 ⟨rfl, hb⟩; refine ⟨_, rfl, ?_⟩; have n0_ := Aside0.mk (below_step (by repeat (first | (with_reducible first | exact HB.out | apply below_alloc | apply pw_below_drewN | apply below_drew1) | exact HB.out)) hb); clear HB; have HB := n0_; clear n0_; (try clear hb); (try clear hb2); (try clear hk); (try clear hi)) | ((with_reducible refine gate_callee (f := 7) rfl ?_); refine goesL_ (some 15) rfl rfl Tryz.func7 (by kernel_rfl) rfl #[] rfl (by (try simp only [List.map_toArray, List.map_cons, List.map_nil]); first | done | rfl | (simp only [List.length_drop, List.length_take]; rfl)) ?_; (with_reducible refine (number_Default.calls  t110 t111 t112 t113 t114 _ A6.out).mono ?_); rintro e w15 ⟨rfl, hb⟩; refine ⟨_, rfl, ?_⟩; have n0_ := Aside0.mk (below_step (by repeat (first | (with_reducible first | exact HB.out | apply below_alloc | apply pw_below_drewN | apply below_drew1) | exact HB.out)) hb); clear HB; have HB := n0_; clear n0_; (try clear hb); (try clear hb2); (try clear hk); (try clear hi)) | ((with_reducible refine gate_dst (N := 3) rfl ?_); refine box_event ?hg (N := 3) ?hd (cs := #[.int .i64 0, .int .i64 0, .int .i64 0, .bool false, .bool false]) (t := 26) ?hr ?_; (case hd => rfl); (case hg => rfl); (case hr => first | (go_simp; done) | (go_simp; rfl)); intro gb115 hg w16 hbox hb; have n0_ := Aside0.mk (below_step (by repeat (first | (with_reducible first | exact HB.out | apply below_alloc | apply pw_below_drewN | apply below_drew1) | exact HB.out)) hb); have n1_ := Aside0.mk (hbox); have n2_ := Aside0.mk ((by rw [hg]; exact (below_size (by repeat (first | (with_reducible first | exact HB.out | apply below_alloc | apply pw_below_drewN | apply below_drew1) | exact HB.out))) : w.heap.size ≤ gb115)); have n3_ := Aside0.mk ((by rw [hg]; exact (below_size (by repeat (first | (with_reducible first | exact HB.out | apply below_alloc | apply pw_below_drewN | apply below_drew1) | exact HB.out))) : w.heap.size ≤ gb115)); clear HB; have HB := n0_; have BK115 := n1_; have GW115 := n2_; have GE115 := n3_; clear n0_ n1_ n2_ n3_; clear hb hbox hg; have hcz17_0 : w16.cell? ⟨gb115, 0, none⟩ = some (.int .i64 0) := (blk_cell BK115.out 0).trans rfl; have hcz17_1 : w16.cell? ⟨gb115, 1, none⟩ = some (.int .i64 0) := (blk_cell BK115.out 1).trans rfl; have hcz17_2 : w16.cell? ⟨gb115, 2, none⟩ = some (.int .i64 0) := (blk_cell BK115.out 2).trans rfl; have hcz17_3 : w16.cell? ⟨gb115, 3, none⟩ = some (.bool false) := (blk_cell BK115.out 3).trans rfl; have hcz17_4 : w16.cell? ⟨gb115, 4, none⟩ = some (.bool false) := (blk_cell BK115.out 4).trans rfl; have hfz17_0 := blk_frozen BK115.out 0; have hfz17_1 := blk_frozen BK115.out 1; have hfz17_2 := blk_frozen BK115.out 2; have hfz17_3 := blk_frozen BK115.out 3; have hfz17_4 := blk_frozen BK115.out 4))
        go_loopg [21] k (fun kq v21 w' => ∃ (x21_1 : Int) (x116000_1 : Int) (x116001_1 : Int) (x116002_1 : Int) (x116003_1 : Bool) (x116004_1 : Bool), v21 = .int .i64 x21_1 ∧ Aside0 (polyglotlaw12_NumberSets.l0 kq l0 (l0.length : Int) x21_1 x116000_1 x116001_1 x116002_1 x116003_1 x116004_1 = some r) ∧ Aside0 (kq ≤ k) ∧ Aside0 (w'.heap[gb115]? = some (.cells #[.int .i64 x116000_1, .int .i64 x116001_1, .int .i64 x116002_1, .bool x116003_1, .bool x116004_1] 26 (0, 0))) ∧ Aside0 (Below w.heap.size w w'))
        case atStart => exact ⟨(0), (t110), (t111), (t112), (t113), (t114), (by first | rfl | (simp; done) | (simp [*]; done)), H', ⟨Nat.le_refl _⟩, ⟨by (with_reducible repeat (first | refine blk_drewN ?_ _ | refine blk_drew ?_ | refine blk_alloc ?_ _)); refine blk_put (cs := #[.int .i64 t110, .int .i64 t111, .int .i64 t112, .bool t113, .bool false]) ?_ 4 _ rfl; (with_reducible repeat (first | refine blk_drewN ?_ _ | refine blk_drew ?_ | refine blk_alloc ?_ _)); refine blk_put (cs := #[.int .i64 t110, .int .i64 t111, .int .i64 t112, .bool false, .bool false]) ?_ 3 _ rfl; (with_reducible repeat (first | refine blk_drewN ?_ _ | refine blk_drew ?_ | refine blk_alloc ?_ _)); refine blk_put (cs := #[.int .i64 t110, .int .i64 t111, .int .i64 0, .bool false, .bool false]) ?_ 2 _ rfl; (with_reducible repeat (first | refine blk_drewN ?_ _ | refine blk_drew ?_ | refine blk_alloc ?_ _)); refine blk_put (cs := #[.int .i64 t110, .int .i64 0, .int .i64 0, .bool false, .bool false]) ?_ 1 _ rfl; (with_reducible repeat (first | refine blk_drewN ?_ _ | refine blk_drew ?_ | refine blk_alloc ?_ _)); refine blk_put (cs := #[.int .i64 0, .int .i64 0, .int .i64 0, .bool false, .bool false]) ?_ 0 _ rfl; (with_reducible repeat (first | refine blk_drewN ?_ _ | refine blk_drew ?_ | refine blk_alloc ?_ _)); exact BK115.out⟩, ⟨by repeat (first | (with_reducible first | exact HB.out | apply below_alloc | apply pw_below_drewN | apply below_drew1 | refine below_set ?_ GE115.out) | exact HB.out)⟩⟩
        case round =>
          clear H'
          try clear p2
          try clear c3
          try clear c5
          try clear c6
          try clear c7
          try clear c7b0
          try clear hcz12_0
          try clear hcz12_1
          try clear hcz12_2
          try clear hcz12_3
          try clear hcz12_4
          try clear hcz17_0
          try clear hcz17_1
          try clear hcz17_2
          try clear hcz17_3
          try clear hcz17_4
          try clear hfz12_0
          try clear hfz12_1
          try clear hfz12_2
          try clear hfz12_3
          try clear hfz12_4
          try clear hfz17_0
          try clear hfz17_1
          try clear hfz17_2
          try clear hfz17_3
          try clear hfz17_4
          obtain ⟨x21_1, x116000_1, x116001_1, x116002_1, x116003_1, x116004_1, rfl, HA, HK1, BK115, HB⟩ := hrel
          cases gk with
          | zero => exact absurd HA.out (by simp [polyglotlaw12_NumberSets.l0])
          | succ k1 =>
            have H := HA.out
            clear HA
            simp only [polyglotlaw12_NumberSets.l0] at H
            by_cases c18 : x21_1 < (l0.length : Int)
            · rw [if_pos c18] at H
              have c18b0 : decide (x21_1 < (l0.length : Int)) = true := decide_eq_true c18
              clear c18
              by_cases c19 : 0 ≤ x21_1
              · rw [if_pos c19] at H
                have c19b0 : decide (0 ≤ x21_1) = true := decide_eq_true c19
                clear c19
                by_cases c20 : x21_1 < (l0.length : Int)
                · rw [if_pos c20] at H
                  have c20b0 : decide (x21_1 < (l0.length : Int)) = true := decide_eq_true c20
                  clear c20
                  replace H := Option.bind_eq_some_iff.mp H
                  obtain ⟨⟨t118, t119, t120, t121, t122, t123⟩, A210, H⟩ := H
                  replace H : ((polyglotlaw12_Set.f k1 x116000_1 x116001_1 x116002_1 x116003_1 x116004_1 ((rd_T31 l0 x21_1).f0) ((rd_T31 l0 x21_1).f1) ((rd_T31 l0 x21_1).f2.f0) ((rd_T31 l0 x21_1).f2.f1) ((rd_T31 l0 x21_1).f2.f2) ((rd_T31 l0 x21_1).f3)).bind fun bt125 => (if (bt125.2.2.2.2.2 != (t123 == 0)) = true then (polyglotlaw12_NumberSets.j1 k1 bt125.2.2.2.2.2 l0 (l0.length : Int) x21_1 true x116000_1 x116001_1 x116002_1 x116003_1 x116004_1 t118 t119 t120 t121 t122) else (if bt125.2.2.2.2.2 = true then (polyglotlaw12_NumberSets.j1 k1 bt125.2.2.2.2.2 l0 (l0.length : Int) x21_1 (!(t118 == bt125.1) || (!(t119 == bt125.2.1) || (!(t120 == bt125.2.2.1) || (!(t121 == bt125.2.2.2.1) || (!(t122 == bt125.2.2.2.2.1)))))) x116000_1 x116001_1 x116002_1 x116003_1 x116004_1 t118 t119 t120 t121 t122) else (if t123 = 1 then (polyglotlaw12_NumberSets.j1 k1 bt125.2.2.2.2.2 l0 (l0.length : Int) x21_1 (!(t118 == bt125.1) || (!(t119 == bt125.2.1) || (!(t120 == bt125.2.2.1) || (!(t121 == bt125.2.2.2.1) || (!(t122 == bt125.2.2.2.2.1)))))) x116000_1 x116001_1 x116002_1 x116003_1 x116004_1 t118 t119 t120 t121 t122) else (polyglotlaw12_NumberSets.j1 k1 bt125.2.2.2.2.2 l0 (l0.length : Int) x21_1 true x116000_1 x116001_1 x116002_1 x116003_1 x116004_1 t118 t119 t120 t121 t122))))) = some r := H
                  have A21 := Aside0.mk A210
                  clear A210
                  replace H := Option.bind_eq_some_iff.mp H
                  obtain ⟨⟨t125, t126, t127, t128, t129, t130⟩, A220, H⟩ := H
                  replace H : (if (t130 != (t123 == 0)) = true then (polyglotlaw12_NumberSets.j1 k1 t130 l0 (l0.length : Int) x21_1 true x116000_1 x116001_1 x116002_1 x116003_1 x116004_1 t118 t119 t120 t121 t122) else (if t130 = true then (polyglotlaw12_NumberSets.j1 k1 t130 l0 (l0.length : Int) x21_1 (!(t118 == t125) || (!(t119 == t126) || (!(t120 == t127) || (!(t121 == t128) || (!(t122 == t129)))))) x116000_1 x116001_1 x116002_1 x116003_1 x116004_1 t118 t119 t120 t121 t122) else (if t123 = 1 then (polyglotlaw12_NumberSets.j1 k1 t130 l0 (l0.length : Int) x21_1 (!(t118 == t125) || (!(t119 == t126) || (!(t120 == t127) || (!(t121 == t128) || (!(t122 == t129)))))) x116000_1 x116001_1 x116002_1 x116003_1 x116004_1 t118 t119 t120 t121 t122) else (polyglotlaw12_NumberSets.j1 k1 t130 l0 (l0.length : Int) x21_1 true x116000_1 x116001_1 x116002_1 x116003_1 x116004_1 t118 t119 t120 t121 t122)))) = some r := H
                  have A22 := Aside0.mk A220
                  clear A220
                  have HC23 := Aside0.mk H
                  clear H
                  have p116 : 0 ≤ (x21_1 : Int) := of_decide_eq_true (by first | (with_reducible assumption) | assumption)
                  have q116 : x21_1 < (l0.length : Int) := of_decide_eq_true (by first | (with_reducible assumption) | assumption)
                  obtain ⟨ad116, e116, hx116_0, hx116_1, hx116_2, hx116_3, hx116_4, hx116_5⟩ := at_T31 HR0.out x21_1 p116 q116
                  cases e116
                  replace hx116_0 := (HB.out.cell (World.block_lt_of_cell? w _ hx116_0)).trans hx116_0
                  replace hx116_1 := (HB.out.cell (World.block_lt_of_cell? w _ hx116_1)).trans hx116_1
                  replace hx116_2 := (HB.out.cell (World.block_lt_of_cell? w _ hx116_2)).trans hx116_2
                  replace hx116_3 := (HB.out.cell (World.block_lt_of_cell? w _ hx116_3)).trans hx116_3
                  replace hx116_4 := (HB.out.cell (World.block_lt_of_cell? w _ hx116_4)).trans hx116_4
                  replace hx116_5 := (HB.out.cell (World.block_lt_of_cell? w _ hx116_5)).trans hx116_5
                  replace p116 := eq_true p116
                  replace q116 := eq_true q116
                  go_upto_region 13 with (first | ((with_reducible refine gate_dst (N := 5) rfl ?_); refine box_event ?hg (N := 5) ?hd (cs := #[.string (⟨#[]⟩ : ByteArray), .string (⟨#[]⟩ : ByteArray), .bool false, .string (⟨#[]⟩ : ByteArray), .int .i64 0, .bool false]) (t := 31) ?hr ?_; (case hd => rfl); (case hg => rfl); (case hr => first | (go_simp; done) | (go_simp; rfl)); intro gb117 hg w24 hbox hb; have n0_ := Aside0.mk (blk_below (g := gb115) (o := .cells #[.int .i64 x116000_1, .int .i64 x116001_1, .int .i64 x116002_1, .bool x116003_1, .bool x116004_1] 26 (0, 0)) (by (with_reducible repeat (first | refine blk_drewN ?_ _ | refine blk_drew ?_ | refine blk_alloc ?_ _)); exact BK115.out) hb); have n1_ := Aside0.mk (below_step (by repeat (first | (with_reducible first | exact HB.out | apply below_alloc | apply pw_below_drewN | apply below_drew1 | refine below_set ?_ GE115.out) | exact HB.out)) hb); have n2_ := Aside0.mk (hbox); have n3_ := Aside0.mk ((by rw [hg]; exact (below_size (by repeat (first | (with_reducible first | exact HB.out | apply below_alloc | apply pw_below_drewN | apply below_drew1 | refine below_set ?_ GE115.out) | exact HB.out))) : w.heap.size ≤ gb117)); have n4_ := Aside0.mk ((by rw [hg]; exact (below_size (by repeat (first | (with_reducible first | exact HB.out | apply below_alloc | apply pw_below_drewN | apply below_drew1 | refine below_set ?_ GE115.out) | exact HB.out))) : w.heap.size ≤ gb117)); have n5_ := Aside0.mk ((by rw [hg]; exact Nat.ne_of_lt (blk_lt (g := gb115) (o := .cells #[.int .i64 x116000_1, .int .i64 x116001_1, .int .i64 x116002_1, .bool x116003_1, .bool x116004_1] 26 (0, 0)) (by (with_reducible repeat (first | refine blk_drewN ?_ _ | refine blk_drew ?_ | refine blk_alloc ?_ _)); exact BK115.out)) : gb115 ≠ gb117)); have n6_ := Aside0.mk ((by rw [hg]; exact Nat.ne_of_gt (blk_lt (g := gb115) (o := .cells #[.int .i64 x116000_1, .int .i64 x116001_1, .int .i64 x116002_1, .bool x116003_1, .bool x116004_1] 26 (0, 0)) (by (with_reducible repeat (first | refine blk_drewN ?_ _ | refine blk_drew ?_ | refine blk_alloc ?_ _)); exact BK115.out)) : gb117 ≠ gb115)); clear BK115; clear HB; have BK115 := n0_; have HB := n1_; have BK117 := n2_; have GW117 := n3_; have GE117 := n4_; have NB115_117 := n5_; have NB117_115 := n6_; clear n0_ n1_ n2_ n3_ n4_ n5_ n6_; clear hb hbox hg; have hnb25 := NB117_115.out; have hnc25 := NB115_117.out; have hcz26_0 : w24.cell? ⟨gb117, 0, none⟩ = some (.string (⟨#[]⟩ : ByteArray)) := (blk_cell BK117.out 0).trans rfl; have hcz26_1 : w24.cell? ⟨gb117, 1, none⟩ = some (.string (⟨#[]⟩ : ByteArray)) := (blk_cell BK117.out 1).trans rfl; have hcz26_2 : w24.cell? ⟨gb117, 2, none⟩ = some (.bool false) := (blk_cell BK117.out 2).trans rfl; have hcz26_3 : w24.cell? ⟨gb117, 3, none⟩ = some (.string (⟨#[]⟩ : ByteArray)) := (blk_cell BK117.out 3).trans rfl; have hcz26_4 : w24.cell? ⟨gb117, 4, none⟩ = some (.int .i64 0) := (blk_cell BK117.out 4).trans rfl; have hcz26_5 : w24.cell? ⟨gb117, 5, none⟩ = some (.bool false) := (blk_cell BK117.out 5).trans rfl; have hfz26_0 := blk_frozen BK117.out 0; have hfz26_1 := blk_frozen BK117.out 1; have hfz26_2 := blk_frozen BK117.out 2; have hfz26_3 := blk_frozen BK117.out 3; have hfz26_4 := blk_frozen BK117.out 4; have hfz26_5 := blk_frozen BK117.out 5; have hcz27_0 : w24.cell? ⟨gb115, 0, none⟩ = some (.int .i64 x116000_1) := (blk_cell BK115.out 0).trans rfl; have hcz27_1 : w24.cell? ⟨gb115, 1, none⟩ = some (.int .i64 x116001_1) := (blk_cell BK115.out 1).trans rfl; have hcz27_2 : w24.cell? ⟨gb115, 2, none⟩ = some (.int .i64 x116002_1) := (blk_cell BK115.out 2).trans rfl; have hcz27_3 : w24.cell? ⟨gb115, 3, none⟩ = some (.bool x116003_1) := (blk_cell BK115.out 3).trans rfl; have hcz27_4 : w24.cell? ⟨gb115, 4, none⟩ = some (.bool x116004_1) := (blk_cell BK115.out 4).trans rfl; have hfz27_0 := blk_frozen BK115.out 0; have hfz27_1 := blk_frozen BK115.out 1; have hfz27_2 := blk_frozen BK115.out 2; have hfz27_3 := blk_frozen BK115.out 3; have hfz27_4 := blk_frozen BK115.out 4) | ((with_reducible refine gate_callee (f := 8) rfl ?_); refine goesL_ (some 35) rfl rfl Tryz.func8 (by kernel_rfl) rfl #[.agg #[.int .i64 x116000_1, .int .i64 x116001_1, .int .i64 x116002_1, .bool x116003_1, .bool x116004_1], .string ((rd_T31 l0 x21_1).f0), .string ((rd_T31 l0 x21_1).f1), .agg #[.bool ((rd_T31 l0 x21_1).f2.f0), .string ((rd_T31 l0 x21_1).f2.f1), .int .i64 ((rd_T31 l0 x21_1).f2.f2)], .bool ((rd_T31 l0 x21_1).f3)] rfl (by (try simp only [List.map_toArray, List.map_cons, List.map_nil]); first | done | rfl | (simp only [List.length_drop, List.length_take]; rfl)) ?_; (with_reducible refine (number_Opts_Set.calls x116000_1 x116001_1 x116002_1 x116003_1 x116004_1 ((rd_T31 l0 x21_1).f0) ((rd_T31 l0 x21_1).f1) ((rd_T31 l0 x21_1).f2.f0) ((rd_T31 l0 x21_1).f2.f1) ((rd_T31 l0 x21_1).f2.f2) ((rd_T31 l0 x21_1).f3) t118 t119 t120 t121 t122 t123 _ A21.out).mono ?_); rintro e w28 ⟨rfl, hb⟩; refine ⟨_, rfl, ?_⟩; have n0_ := Aside0.mk (blk_below (g := gb115) (o := .cells #[.int .i64 x116000_1, .int .i64 x116001_1, .int .i64 x116002_1, .bool x116003_1, .bool x116004_1] 26 (0, 0)) (by (with_reducible repeat (first | refine blk_drewN ?_ _ | refine blk_drew ?_ | refine blk_alloc ?_ _)); refine blk_far ?_ NB115_117.out _; (with_reducible repeat (first | refine blk_drewN ?_ _ | refine blk_drew ?_ | refine blk_alloc ?_ _)); refine blk_far ?_ NB115_117.out _; (with_reducible repeat (first | refine blk_drewN ?_ _ | refine blk_drew ?_ | refine blk_alloc ?_ _)); refine blk_far ?_ NB115_117.out _; (with_reducible repeat (first | refine blk_drewN ?_ _ | refine blk_drew ?_ | refine blk_alloc ?_ _)); refine blk_far ?_ NB115_117.out _; (with_reducible repeat (first | refine blk_drewN ?_ _ | refine blk_drew ?_ | refine blk_alloc ?_ _)); refine blk_far ?_ NB115_117.out _; (with_reducible repeat (first | refine blk_drewN ?_ _ | refine blk_drew ?_ | refine blk_alloc ?_ _)); refine blk_far ?_ NB115_117.out _; (with_reducible repeat (first | refine blk_drewN ?_ _ | refine blk_drew ?_ | refine blk_alloc ?_ _)); exact BK115.out) hb); have n1_ := Aside0.mk (blk_below (g := gb117) (o := .cells #[.string ((rd_T31 l0 x21_1).f0), .string ((rd_T31 l0 x21_1).f1), .bool ((rd_T31 l0 x21_1).f2.f0), .string ((rd_T31 l0 x21_1).f2.f1), .int .i64 ((rd_T31 l0 x21_1).f2.f2), .bool ((rd_T31 l0 x21_1).f3)] 31 (0, 0)) (by (with_reducible repeat (first | refine blk_drewN ?_ _ | refine blk_drew ?_ | refine blk_alloc ?_ _)); refine blk_put (cs := #[.string ((rd_T31 l0 x21_1).f0), .string ((rd_T31 l0 x21_1).f1), .bool ((rd_T31 l0 x21_1).f2.f0), .string ((rd_T31 l0 x21_1).f2.f1), .int .i64 ((rd_T31 l0 x21_1).f2.f2), .bool false]) ?_ 5 _ rfl; (with_reducible repeat (first | refine blk_drewN ?_ _ | refine blk_drew ?_ | refine blk_alloc ?_ _)); refine blk_put (cs := #[.string ((rd_T31 l0 x21_1).f0), .string ((rd_T31 l0 x21_1).f1), .bool ((rd_T31 l0 x21_1).f2.f0), .string ((rd_T31 l0 x21_1).f2.f1), .int .i64 0, .bool false]) ?_ 4 _ rfl; (with_reducible repeat (first | refine blk_drewN ?_ _ | refine blk_drew ?_ | refine blk_alloc ?_ _)); refine blk_put (cs := #[.string ((rd_T31 l0 x21_1).f0), .string ((rd_T31 l0 x21_1).f1), .bool ((rd_T31 l0 x21_1).f2.f0), .string (⟨#[]⟩ : ByteArray), .int .i64 0, .bool false]) ?_ 3 _ rfl; (with_reducible repeat (first | refine blk_drewN ?_ _ | refine blk_drew ?_ | refine blk_alloc ?_ _)); refine blk_put (cs := #[.string ((rd_T31 l0 x21_1).f0), .string ((rd_T31 l0 x21_1).f1), .bool false, .string (⟨#[]⟩ : ByteArray), .int .i64 0, .bool false]) ?_ 2 _ rfl; (with_reducible repeat (first | refine blk_drewN ?_ _ | refine blk_drew ?_ | refine blk_alloc ?_ _)); refine blk_put (cs := #[.string ((rd_T31 l0 x21_1).f0), .string (⟨#[]⟩ : ByteArray), .bool false, .string (⟨#[]⟩ : ByteArray), .int .i64 0, .bool false]) ?_ 1 _ rfl; (with_reducible repeat (first | refine blk_drewN ?_ _ | refine blk_drew ?_ | refine blk_alloc ?_ _)); refine blk_put (cs := #[.string (⟨#[]⟩ : ByteArray), .string (⟨#[]⟩ : ByteArray), .bool false, .string (⟨#[]⟩ : ByteArray), .int .i64 0, .bool false]) ?_ 0 _ rfl; (with_reducible repeat (first | refine blk_drewN ?_ _ | refine blk_drew ?_ | refine blk_alloc ?_ _)); exact BK117.out) hb); have n2_ := Aside0.mk (below_step (by repeat (first | (with_reducible first | exact HB.out | apply below_alloc | apply pw_below_drewN | apply below_drew1 | refine below_set ?_ GE115.out | refine below_set ?_ GE117.out) | exact HB.out)) hb); clear BK115; clear BK117; clear HB; have BK115 := n0_; have BK117 := n1_; have HB := n2_; clear n0_ n1_ n2_; (try clear hb); (try clear hb2); (try clear hk); (try clear hi)) | ((with_reducible refine gate_dst (N := 6) rfl ?_); refine box_event ?hg (N := 6) ?hd (cs := #[.int .i64 0, .int .i64 0, .int .i64 0, .bool false, .bool false]) (t := 26) ?hr ?_; (case hd => rfl); (case hg => rfl); (case hr => first | (go_simp; done) | (go_simp; rfl)); intro gb124 hg w29 hbox hb; have n0_ := Aside0.mk (blk_below (g := gb115) (o := .cells #[.int .i64 x116000_1, .int .i64 x116001_1, .int .i64 x116002_1, .bool x116003_1, .bool x116004_1] 26 (0, 0)) (by (with_reducible repeat (first | refine blk_drewN ?_ _ | refine blk_drew ?_ | refine blk_alloc ?_ _)); exact BK115.out) hb); have n1_ := Aside0.mk (blk_below (g := gb117) (o := .cells #[.string ((rd_T31 l0 x21_1).f0), .string ((rd_T31 l0 x21_1).f1), .bool ((rd_T31 l0 x21_1).f2.f0), .string ((rd_T31 l0 x21_1).f2.f1), .int .i64 ((rd_T31 l0 x21_1).f2.f2), .bool ((rd_T31 l0 x21_1).f3)] 31 (0, 0)) (by (with_reducible repeat (first | refine blk_drewN ?_ _ | refine blk_drew ?_ | refine blk_alloc ?_ _)); exact BK117.out) hb); have n2_ := Aside0.mk (below_step (by repeat (first | (with_reducible first | exact HB.out | apply below_alloc | apply pw_below_drewN | apply below_drew1 | refine below_set ?_ GE115.out | refine below_set ?_ GE117.out) | exact HB.out)) hb); have n3_ := Aside0.mk (hbox); have n4_ := Aside0.mk ((by rw [hg]; exact (below_size (by repeat (first | (with_reducible first | exact HB.out | apply below_alloc | apply pw_below_drewN | apply below_drew1 | refine below_set ?_ GE115.out | refine below_set ?_ GE117.out) | exact HB.out))) : w.heap.size ≤ gb124)); have n5_ := Aside0.mk ((by rw [hg]; exact (below_size (by repeat (first | (with_reducible first | exact HB.out | apply below_alloc | apply pw_below_drewN | apply below_drew1 | refine below_set ?_ GE115.out | refine below_set ?_ GE117.out) | exact HB.out))) : w.heap.size ≤ gb124)); have n6_ := Aside0.mk ((by rw [hg]; exact Nat.ne_of_lt (blk_lt (g := gb115) (o := .cells #[.int .i64 x116000_1, .int .i64 x116001_1, .int .i64 x116002_1, .bool x116003_1, .bool x116004_1] 26 (0, 0)) (by (with_reducible repeat (first | refine blk_drewN ?_ _ | refine blk_drew ?_ | refine blk_alloc ?_ _)); exact BK115.out)) : gb115 ≠ gb124)); have n7_ := Aside0.mk ((by rw [hg]; exact Nat.ne_of_gt (blk_lt (g := gb115) (o := .cells #[.int .i64 x116000_1, .int .i64 x116001_1, .int .i64 x116002_1, .bool x116003_1, .bool x116004_1] 26 (0, 0)) (by (with_reducible repeat (first | refine blk_drewN ?_ _ | refine blk_drew ?_ | refine blk_alloc ?_ _)); exact BK115.out)) : gb124 ≠ gb115)); have n8_ := Aside0.mk ((by rw [hg]; exact Nat.ne_of_lt (blk_lt (g := gb117) (o := .cells #[.string ((rd_T31 l0 x21_1).f0), .string ((rd_T31 l0 x21_1).f1), .bool ((rd_T31 l0 x21_1).f2.f0), .string ((rd_T31 l0 x21_1).f2.f1), .int .i64 ((rd_T31 l0 x21_1).f2.f2), .bool ((rd_T31 l0 x21_1).f3)] 31 (0, 0)) (by (with_reducible repeat (first | refine blk_drewN ?_ _ | refine blk_drew ?_ | refine blk_alloc ?_ _)); exact BK117.out)) : gb117 ≠ gb124)); have n9_ := Aside0.mk ((by rw [hg]; exact Nat.ne_of_gt (blk_lt (g := gb117) (o := .cells #[.string ((rd_T31 l0 x21_1).f0), .string ((rd_T31 l0 x21_1).f1), .bool ((rd_T31 l0 x21_1).f2.f0), .string ((rd_T31 l0 x21_1).f2.f1), .int .i64 ((rd_T31 l0 x21_1).f2.f2), .bool ((rd_T31 l0 x21_1).f3)] 31 (0, 0)) (by (with_reducible repeat (first | refine blk_drewN ?_ _ | refine blk_drew ?_ | refine blk_alloc ?_ _)); exact BK117.out)) : gb124 ≠ gb117)); clear BK115; clear BK117; clear HB; have BK115 := n0_; have BK117 := n1_; have HB := n2_; have BK124 := n3_; have GW124 := n4_; have GE124 := n5_; have NB115_124 := n6_; have NB124_115 := n7_; have NB117_124 := n8_; have NB124_117 := n9_; clear n0_ n1_ n2_ n3_ n4_ n5_ n6_ n7_ n8_ n9_; clear hb hbox hg; have hnb30 := NB124_115.out; have hnc30 := NB115_124.out; have hnb31 := NB124_117.out; have hnc31 := NB117_124.out; have hcz32_0 : w29.cell? ⟨gb124, 0, none⟩ = some (.int .i64 0) := (blk_cell BK124.out 0).trans rfl; have hcz32_1 : w29.cell? ⟨gb124, 1, none⟩ = some (.int .i64 0) := (blk_cell BK124.out 1).trans rfl; have hcz32_2 : w29.cell? ⟨gb124, 2, none⟩ = some (.int .i64 0) := (blk_cell BK124.out 2).trans rfl; have hcz32_3 : w29.cell? ⟨gb124, 3, none⟩ = some (.bool false) := (blk_cell BK124.out 3).trans rfl; have hcz32_4 : w29.cell? ⟨gb124, 4, none⟩ = some (.bool false) := (blk_cell BK124.out 4).trans rfl; have hfz32_0 := blk_frozen BK124.out 0; have hfz32_1 := blk_frozen BK124.out 1; have hfz32_2 := blk_frozen BK124.out 2; have hfz32_3 := blk_frozen BK124.out 3; have hfz32_4 := blk_frozen BK124.out 4; have hcz33_0 : w29.cell? ⟨gb115, 0, none⟩ = some (.int .i64 x116000_1) := (blk_cell BK115.out 0).trans rfl; have hcz33_1 : w29.cell? ⟨gb115, 1, none⟩ = some (.int .i64 x116001_1) := (blk_cell BK115.out 1).trans rfl; have hcz33_2 : w29.cell? ⟨gb115, 2, none⟩ = some (.int .i64 x116002_1) := (blk_cell BK115.out 2).trans rfl; have hcz33_3 : w29.cell? ⟨gb115, 3, none⟩ = some (.bool x116003_1) := (blk_cell BK115.out 3).trans rfl; have hcz33_4 : w29.cell? ⟨gb115, 4, none⟩ = some (.bool x116004_1) := (blk_cell BK115.out 4).trans rfl; have hfz33_0 := blk_frozen BK115.out 0; have hfz33_1 := blk_frozen BK115.out 1; have hfz33_2 := blk_frozen BK115.out 2; have hfz33_3 := blk_frozen BK115.out 3; have hfz33_4 := blk_frozen BK115.out 4; have hcz34_0 : w29.cell? ⟨gb117, 0, none⟩ = some (.string ((rd_T31 l0 x21_1).f0)) := (blk_cell BK117.out 0).trans rfl; have hcz34_1 : w29.cell? ⟨gb117, 1, none⟩ = some (.string ((rd_T31 l0 x21_1).f1)) := (blk_cell BK117.out 1).trans rfl; have hcz34_2 : w29.cell? ⟨gb117, 2, none⟩ = some (.bool ((rd_T31 l0 x21_1).f2.f0)) := (blk_cell BK117.out 2).trans rfl; have hcz34_3 : w29.cell? ⟨gb117, 3, none⟩ = some (.string ((rd_T31 l0 x21_1).f2.f1)) := (blk_cell BK117.out 3).trans rfl; have hcz34_4 : w29.cell? ⟨gb117, 4, none⟩ = some (.int .i64 ((rd_T31 l0 x21_1).f2.f2)) := (blk_cell BK117.out 4).trans rfl; have hcz34_5 : w29.cell? ⟨gb117, 5, none⟩ = some (.bool ((rd_T31 l0 x21_1).f3)) := (blk_cell BK117.out 5).trans rfl; have hfz34_0 := blk_frozen BK117.out 0; have hfz34_1 := blk_frozen BK117.out 1; have hfz34_2 := blk_frozen BK117.out 2; have hfz34_3 := blk_frozen BK117.out 3; have hfz34_4 := blk_frozen BK117.out 4; have hfz34_5 := blk_frozen BK117.out 5) | ((with_reducible refine gate_callee (f := 9) rfl ?_); refine goesL_ (some 41) rfl rfl Tryz.func9 (by kernel_rfl) rfl #[.agg #[.int .i64 x116000_1, .int .i64 x116001_1, .int .i64 x116002_1, .bool x116003_1, .bool x116004_1], .agg #[.string ((rd_T31 l0 x21_1).f0), .string ((rd_T31 l0 x21_1).f1), .bool ((rd_T31 l0 x21_1).f2.f0), .string ((rd_T31 l0 x21_1).f2.f1), .int .i64 ((rd_T31 l0 x21_1).f2.f2), .bool ((rd_T31 l0 x21_1).f3)]] rfl (by (try simp only [List.map_toArray, List.map_cons, List.map_nil]); first | done | rfl | (simp only [List.length_drop, List.length_take]; rfl)) ?_; (with_reducible refine (polyglotlaw12_Set.calls k1 x116000_1 x116001_1 x116002_1 x116003_1 x116004_1 ((rd_T31 l0 x21_1).f0) ((rd_T31 l0 x21_1).f1) ((rd_T31 l0 x21_1).f2.f0) ((rd_T31 l0 x21_1).f2.f1) ((rd_T31 l0 x21_1).f2.f2) ((rd_T31 l0 x21_1).f3) t125 t126 t127 t128 t129 t130 _ A22.out).mono ?_); rintro e w35 ⟨rfl, hb⟩; refine ⟨_, rfl, ?_⟩; have n0_ := Aside0.mk (blk_below (g := gb115) (o := .cells #[.int .i64 x116000_1, .int .i64 x116001_1, .int .i64 x116002_1, .bool x116003_1, .bool x116004_1] 26 (0, 0)) (by (with_reducible repeat (first | refine blk_drewN ?_ _ | refine blk_drew ?_ | refine blk_alloc ?_ _)); refine blk_far ?_ NB115_124.out _; (with_reducible repeat (first | refine blk_drewN ?_ _ | refine blk_drew ?_ | refine blk_alloc ?_ _)); refine blk_far ?_ NB115_124.out _; (with_reducible repeat (first | refine blk_drewN ?_ _ | refine blk_drew ?_ | refine blk_alloc ?_ _)); refine blk_far ?_ NB115_124.out _; (with_reducible repeat (first | refine blk_drewN ?_ _ | refine blk_drew ?_ | refine blk_alloc ?_ _)); refine blk_far ?_ NB115_124.out _; (with_reducible repeat (first | refine blk_drewN ?_ _ | refine blk_drew ?_ | refine blk_alloc ?_ _)); refine blk_far ?_ NB115_124.out _; (with_reducible repeat (first | refine blk_drewN ?_ _ | refine blk_drew ?_ | refine blk_alloc ?_ _)); exact BK115.out) hb); have n1_ := Aside0.mk (blk_below (g := gb117) (o := .cells #[.string ((rd_T31 l0 x21_1).f0), .string ((rd_T31 l0 x21_1).f1), .bool ((rd_T31 l0 x21_1).f2.f0), .string ((rd_T31 l0 x21_1).f2.f1), .int .i64 ((rd_T31 l0 x21_1).f2.f2), .bool ((rd_T31 l0 x21_1).f3)] 31 (0, 0)) (by (with_reducible repeat (first | refine blk_drewN ?_ _ | refine blk_drew ?_ | refine blk_alloc ?_ _)); refine blk_far ?_ NB117_124.out _; (with_reducible repeat (first | refine blk_drewN ?_ _ | refine blk_drew ?_ | refine blk_alloc ?_ _)); refine blk_far ?_ NB117_124.out _; (with_reducible repeat (first | refine blk_drewN ?_ _ | refine blk_drew ?_ | refine blk_alloc ?_ _)); refine blk_far ?_ NB117_124.out _; (with_reducible repeat (first | refine blk_drewN ?_ _ | refine blk_drew ?_ | refine blk_alloc ?_ _)); refine blk_far ?_ NB117_124.out _; (with_reducible repeat (first | refine blk_drewN ?_ _ | refine blk_drew ?_ | refine blk_alloc ?_ _)); refine blk_far ?_ NB117_124.out _; (with_reducible repeat (first | refine blk_drewN ?_ _ | refine blk_drew ?_ | refine blk_alloc ?_ _)); exact BK117.out) hb); have n2_ := Aside0.mk (blk_below (g := gb124) (o := .cells #[.int .i64 t118, .int .i64 t119, .int .i64 t120, .bool t121, .bool t122] 26 (0, 0)) (by (with_reducible repeat (first | refine blk_drewN ?_ _ | refine blk_drew ?_ | refine blk_alloc ?_ _)); refine blk_put (cs := #[.int .i64 t118, .int .i64 t119, .int .i64 t120, .bool t121, .bool false]) ?_ 4 _ rfl; (with_reducible repeat (first | refine blk_drewN ?_ _ | refine blk_drew ?_ | refine blk_alloc ?_ _)); refine blk_put (cs := #[.int .i64 t118, .int .i64 t119, .int .i64 t120, .bool false, .bool false]) ?_ 3 _ rfl; (with_reducible repeat (first | refine blk_drewN ?_ _ | refine blk_drew ?_ | refine blk_alloc ?_ _)); refine blk_put (cs := #[.int .i64 t118, .int .i64 t119, .int .i64 0, .bool false, .bool false]) ?_ 2 _ rfl; (with_reducible repeat (first | refine blk_drewN ?_ _ | refine blk_drew ?_ | refine blk_alloc ?_ _)); refine blk_put (cs := #[.int .i64 t118, .int .i64 0, .int .i64 0, .bool false, .bool false]) ?_ 1 _ rfl; (with_reducible repeat (first | refine blk_drewN ?_ _ | refine blk_drew ?_ | refine blk_alloc ?_ _)); refine blk_put (cs := #[.int .i64 0, .int .i64 0, .int .i64 0, .bool false, .bool false]) ?_ 0 _ rfl; (with_reducible repeat (first | refine blk_drewN ?_ _ | refine blk_drew ?_ | refine blk_alloc ?_ _)); exact BK124.out) hb); have n3_ := Aside0.mk (below_step (by repeat (first | (with_reducible first | exact HB.out | apply below_alloc | apply pw_below_drewN | apply below_drew1 | refine below_set ?_ GE115.out | refine below_set ?_ GE117.out | refine below_set ?_ GE124.out) | exact HB.out)) hb); clear BK115; clear BK117; clear BK124; clear HB; have BK115 := n0_; have BK117 := n1_; have BK124 := n2_; have HB := n3_; clear n0_ n1_ n2_ n3_; (try clear hb); (try clear hb2); (try clear hk); (try clear hi)) | ((with_reducible refine gate_dst (N := 8) rfl ?_); refine box_event ?hg (N := 8) ?hd (cs := #[.int .i64 0, .int .i64 0, .int .i64 0, .bool false, .bool false]) (t := 26) ?hr ?_; (case hd => rfl); (case hg => rfl); (case hr => first | (go_simp; done) | (go_simp; rfl)); intro gb131 hg w36 hbox hb; have n0_ := Aside0.mk (blk_below (g := gb115) (o := .cells #[.int .i64 x116000_1, .int .i64 x116001_1, .int .i64 x116002_1, .bool x116003_1, .bool x116004_1] 26 (0, 0)) (by (with_reducible repeat (first | refine blk_drewN ?_ _ | refine blk_drew ?_ | refine blk_alloc ?_ _)); exact BK115.out) hb); have n1_ := Aside0.mk (blk_below (g := gb117) (o := .cells #[.string ((rd_T31 l0 x21_1).f0), .string ((rd_T31 l0 x21_1).f1), .bool ((rd_T31 l0 x21_1).f2.f0), .string ((rd_T31 l0 x21_1).f2.f1), .int .i64 ((rd_T31 l0 x21_1).f2.f2), .bool ((rd_T31 l0 x21_1).f3)] 31 (0, 0)) (by (with_reducible repeat (first | refine blk_drewN ?_ _ | refine blk_drew ?_ | refine blk_alloc ?_ _)); exact BK117.out) hb); have n2_ := Aside0.mk (blk_below (g := gb124) (o := .cells #[.int .i64 t118, .int .i64 t119, .int .i64 t120, .bool t121, .bool t122] 26 (0, 0)) (by (with_reducible repeat (first | refine blk_drewN ?_ _ | refine blk_drew ?_ | refine blk_alloc ?_ _)); exact BK124.out) hb); have n3_ := Aside0.mk (below_step (by repeat (first | (with_reducible first | exact HB.out | apply below_alloc | apply pw_below_drewN | apply below_drew1 | refine below_set ?_ GE115.out | refine below_set ?_ GE117.out | refine below_set ?_ GE124.out) | exact HB.out)) hb); have n4_ := Aside0.mk (hbox); have n5_ := Aside0.mk ((by rw [hg]; exact (below_size (by repeat (first | (with_reducible first | exact HB.out | apply below_alloc | apply pw_below_drewN | apply below_drew1 | refine below_set ?_ GE115.out | refine below_set ?_ GE117.out | refine below_set ?_ GE124.out) | exact HB.out))) : w.heap.size ≤ gb131)); have n6_ := Aside0.mk ((by rw [hg]; exact (below_size (by repeat (first | (with_reducible first | exact HB.out | apply below_alloc | apply pw_below_drewN | apply below_drew1 | refine below_set ?_ GE115.out | refine below_set ?_ GE117.out | refine below_set ?_ GE124.out) | exact HB.out))) : w.heap.size ≤ gb131)); have n7_ := Aside0.mk ((by rw [hg]; exact Nat.ne_of_lt (blk_lt (g := gb115) (o := .cells #[.int .i64 x116000_1, .int .i64 x116001_1, .int .i64 x116002_1, .bool x116003_1, .bool x116004_1] 26 (0, 0)) (by (with_reducible repeat (first | refine blk_drewN ?_ _ | refine blk_drew ?_ | refine blk_alloc ?_ _)); exact BK115.out)) : gb115 ≠ gb131)); have n8_ := Aside0.mk ((by rw [hg]; exact Nat.ne_of_gt (blk_lt (g := gb115) (o := .cells #[.int .i64 x116000_1, .int .i64 x116001_1, .int .i64 x116002_1, .bool x116003_1, .bool x116004_1] 26 (0, 0)) (by (with_reducible repeat (first | refine blk_drewN ?_ _ | refine blk_drew ?_ | refine blk_alloc ?_ _)); exact BK115.out)) : gb131 ≠ gb115)); have n9_ := Aside0.mk ((by rw [hg]; exact Nat.ne_of_lt (blk_lt (g := gb117) (o := .cells #[.string ((rd_T31 l0 x21_1).f0), .string ((rd_T31 l0 x21_1).f1), .bool ((rd_T31 l0 x21_1).f2.f0), .string ((rd_T31 l0 x21_1).f2.f1), .int .i64 ((rd_T31 l0 x21_1).f2.f2), .bool ((rd_T31 l0 x21_1).f3)] 31 (0, 0)) (by (with_reducible repeat (first | refine blk_drewN ?_ _ | refine blk_drew ?_ | refine blk_alloc ?_ _)); exact BK117.out)) : gb117 ≠ gb131)); have n10_ := Aside0.mk ((by rw [hg]; exact Nat.ne_of_gt (blk_lt (g := gb117) (o := .cells #[.string ((rd_T31 l0 x21_1).f0), .string ((rd_T31 l0 x21_1).f1), .bool ((rd_T31 l0 x21_1).f2.f0), .string ((rd_T31 l0 x21_1).f2.f1), .int .i64 ((rd_T31 l0 x21_1).f2.f2), .bool ((rd_T31 l0 x21_1).f3)] 31 (0, 0)) (by (with_reducible repeat (first | refine blk_drewN ?_ _ | refine blk_drew ?_ | refine blk_alloc ?_ _)); exact BK117.out)) : gb131 ≠ gb117)); have n11_ := Aside0.mk ((by rw [hg]; exact Nat.ne_of_lt (blk_lt (g := gb124) (o := .cells #[.int .i64 t118, .int .i64 t119, .int .i64 t120, .bool t121, .bool t122] 26 (0, 0)) (by (with_reducible repeat (first | refine blk_drewN ?_ _ | refine blk_drew ?_ | refine blk_alloc ?_ _)); exact BK124.out)) : gb124 ≠ gb131)); have n12_ := Aside0.mk ((by rw [hg]; exact Nat.ne_of_gt (blk_lt (g := gb124) (o := .cells #[.int .i64 t118, .int .i64 t119, .int .i64 t120, .bool t121, .bool t122] 26 (0, 0)) (by (with_reducible repeat (first | refine blk_drewN ?_ _ | refine blk_drew ?_ | refine blk_alloc ?_ _)); exact BK124.out)) : gb131 ≠ gb124)); clear BK115; clear BK117; clear BK124; clear HB; have BK115 := n0_; have BK117 := n1_; have BK124 := n2_; have HB := n3_; have BK131 := n4_; have GW131 := n5_; have GE131 := n6_; have NB115_131 := n7_; have NB131_115 := n8_; have NB117_131 := n9_; have NB131_117 := n10_; have NB124_131 := n11_; have NB131_124 := n12_; clear n0_ n1_ n2_ n3_ n4_ n5_ n6_ n7_ n8_ n9_ n10_ n11_ n12_; clear hb hbox hg; have hnb37 := NB131_115.out; have hnc37 := NB115_131.out; have hnb38 := NB131_117.out; have hnc38 := NB117_131.out; have hnb39 := NB131_124.out; have hnc39 := NB124_131.out; have hcz40_0 : w36.cell? ⟨gb131, 0, none⟩ = some (.int .i64 0) := (blk_cell BK131.out 0).trans rfl; have hcz40_1 : w36.cell? ⟨gb131, 1, none⟩ = some (.int .i64 0) := (blk_cell BK131.out 1).trans rfl; have hcz40_2 : w36.cell? ⟨gb131, 2, none⟩ = some (.int .i64 0) := (blk_cell BK131.out 2).trans rfl; have hcz40_3 : w36.cell? ⟨gb131, 3, none⟩ = some (.bool false) := (blk_cell BK131.out 3).trans rfl; have hcz40_4 : w36.cell? ⟨gb131, 4, none⟩ = some (.bool false) := (blk_cell BK131.out 4).trans rfl; have hfz40_0 := blk_frozen BK131.out 0; have hfz40_1 := blk_frozen BK131.out 1; have hfz40_2 := blk_frozen BK131.out 2; have hfz40_3 := blk_frozen BK131.out 3; have hfz40_4 := blk_frozen BK131.out 4))
                  (try simp only [Act.put, List.setIfInBounds_toArray, List.set_cons_zero, List.set_cons_succ])
                  go_cut [60] (fun v60 wc => ∃ (kq : Nat) (x60_22 : Bool), v60 = .bool x60_22 ∧ Aside0 (polyglotlaw12_NumberSets.j1 kq t130 l0 (l0.length : Int) x21_1 x60_22 x116000_1 x116001_1 x116002_1 x116003_1 x116004_1 t118 t119 t120 t121 t122 = some r) ∧ Aside0 (kq ≤ k1) ∧ Aside0 (wc.heap[gb115]? = some (.cells #[.int .i64 x116000_1, .int .i64 x116001_1, .int .i64 x116002_1, .bool x116003_1, .bool x116004_1] 26 (0, 0))) ∧ Aside0 (wc.heap[gb117]? = some (.cells #[.string ((rd_T31 l0 x21_1).f0), .string ((rd_T31 l0 x21_1).f1), .bool ((rd_T31 l0 x21_1).f2.f0), .string ((rd_T31 l0 x21_1).f2.f1), .int .i64 ((rd_T31 l0 x21_1).f2.f2), .bool ((rd_T31 l0 x21_1).f3)] 31 (0, 0))) ∧ Aside0 (wc.heap[gb124]? = some (.cells #[.int .i64 t118, .int .i64 t119, .int .i64 t120, .bool t121, .bool t122] 26 (0, 0))) ∧ Aside0 (wc.heap[gb131]? = some (.cells #[.int .i64 t125, .int .i64 t126, .int .i64 t127, .bool t128, .bool t129] 26 (0, 0))) ∧ Aside0 (Below w.heap.size w wc))
                  case first =>
                    have H := HC23.out
                    clear HC23
                    by_cases c41 : (t130 != (t123 == 0)) = true
                    · rw [if_pos c41] at H
                      have c41b0 : (t130 != (t123 == 0)) = true := c41
                      (try (have c41b1 : decide (t130 = (t123 == 0)) = false := by simpa using c41))
                      (try (have c41b2 : (t130 == (t123 == 0)) = false := by simpa using c41))
                      (try (have c41b3 : ¬ (t130 = (t123 == 0)) := by simpa using c41))
                      clear c41
                      (first | rw [c41b0] | (simp only [i64_w, i32_w]; rw [c41b0]) | skip)
                      have H' := Aside0.mk H
                      clear H
                      go_wp2
                      go_meet
                      case rel => exact ⟨_, (true), (by first | rfl | (simp; done) | (simp [*]; done)), H', ⟨by have := HK1.out; first | omega | exact Nat.le_refl _⟩, ⟨by (with_reducible repeat (first | refine blk_drewN ?_ _ | refine blk_drew ?_ | refine blk_alloc ?_ _)); refine blk_far ?_ NB115_131.out _; (with_reducible repeat (first | refine blk_drewN ?_ _ | refine blk_drew ?_ | refine blk_alloc ?_ _)); refine blk_far ?_ NB115_131.out _; (with_reducible repeat (first | refine blk_drewN ?_ _ | refine blk_drew ?_ | refine blk_alloc ?_ _)); refine blk_far ?_ NB115_131.out _; (with_reducible repeat (first | refine blk_drewN ?_ _ | refine blk_drew ?_ | refine blk_alloc ?_ _)); refine blk_far ?_ NB115_131.out _; (with_reducible repeat (first | refine blk_drewN ?_ _ | refine blk_drew ?_ | refine blk_alloc ?_ _)); refine blk_far ?_ NB115_131.out _; (with_reducible repeat (first | refine blk_drewN ?_ _ | refine blk_drew ?_ | refine blk_alloc ?_ _)); exact BK115.out⟩, ⟨by (with_reducible repeat (first | refine blk_drewN ?_ _ | refine blk_drew ?_ | refine blk_alloc ?_ _)); refine blk_far ?_ NB117_131.out _; (with_reducible repeat (first | refine blk_drewN ?_ _ | refine blk_drew ?_ | refine blk_alloc ?_ _)); refine blk_far ?_ NB117_131.out _; (with_reducible repeat (first | refine blk_drewN ?_ _ | refine blk_drew ?_ | refine blk_alloc ?_ _)); refine blk_far ?_ NB117_131.out _; (with_reducible repeat (first | refine blk_drewN ?_ _ | refine blk_drew ?_ | refine blk_alloc ?_ _)); refine blk_far ?_ NB117_131.out _; (with_reducible repeat (first | refine blk_drewN ?_ _ | refine blk_drew ?_ | refine blk_alloc ?_ _)); refine blk_far ?_ NB117_131.out _; (with_reducible repeat (first | refine blk_drewN ?_ _ | refine blk_drew ?_ | refine blk_alloc ?_ _)); exact BK117.out⟩, ⟨by (with_reducible repeat (first | refine blk_drewN ?_ _ | refine blk_drew ?_ | refine blk_alloc ?_ _)); refine blk_far ?_ NB124_131.out _; (with_reducible repeat (first | refine blk_drewN ?_ _ | refine blk_drew ?_ | refine blk_alloc ?_ _)); refine blk_far ?_ NB124_131.out _; (with_reducible repeat (first | refine blk_drewN ?_ _ | refine blk_drew ?_ | refine blk_alloc ?_ _)); refine blk_far ?_ NB124_131.out _; (with_reducible repeat (first | refine blk_drewN ?_ _ | refine blk_drew ?_ | refine blk_alloc ?_ _)); refine blk_far ?_ NB124_131.out _; (with_reducible repeat (first | refine blk_drewN ?_ _ | refine blk_drew ?_ | refine blk_alloc ?_ _)); refine blk_far ?_ NB124_131.out _; (with_reducible repeat (first | refine blk_drewN ?_ _ | refine blk_drew ?_ | refine blk_alloc ?_ _)); exact BK124.out⟩, ⟨by (with_reducible repeat (first | refine blk_drewN ?_ _ | refine blk_drew ?_ | refine blk_alloc ?_ _)); refine blk_put (cs := #[.int .i64 t125, .int .i64 t126, .int .i64 t127, .bool t128, .bool false]) ?_ 4 _ rfl; (with_reducible repeat (first | refine blk_drewN ?_ _ | refine blk_drew ?_ | refine blk_alloc ?_ _)); refine blk_put (cs := #[.int .i64 t125, .int .i64 t126, .int .i64 t127, .bool false, .bool false]) ?_ 3 _ rfl; (with_reducible repeat (first | refine blk_drewN ?_ _ | refine blk_drew ?_ | refine blk_alloc ?_ _)); refine blk_put (cs := #[.int .i64 t125, .int .i64 t126, .int .i64 0, .bool false, .bool false]) ?_ 2 _ rfl; (with_reducible repeat (first | refine blk_drewN ?_ _ | refine blk_drew ?_ | refine blk_alloc ?_ _)); refine blk_put (cs := #[.int .i64 t125, .int .i64 0, .int .i64 0, .bool false, .bool false]) ?_ 1 _ rfl; (with_reducible repeat (first | refine blk_drewN ?_ _ | refine blk_drew ?_ | refine blk_alloc ?_ _)); refine blk_put (cs := #[.int .i64 0, .int .i64 0, .int .i64 0, .bool false, .bool false]) ?_ 0 _ rfl; (with_reducible repeat (first | refine blk_drewN ?_ _ | refine blk_drew ?_ | refine blk_alloc ?_ _)); exact BK131.out⟩, ⟨by repeat (first | (with_reducible first | exact HB.out | apply below_alloc | apply pw_below_drewN | apply below_drew1 | refine below_set ?_ GE115.out | refine below_set ?_ GE117.out | refine below_set ?_ GE124.out | refine below_set ?_ GE131.out) | exact HB.out)⟩⟩
                    · rw [if_neg c41] at H
                      have c41b0 : (t130 != (t123 == 0)) = false := by simpa using c41
                      (try (have c41b1 : decide (t130 = (t123 == 0)) = true := by simpa using c41))
                      (try (have c41b2 : (t130 == (t123 == 0)) = true := by simpa using c41))
                      clear c41
                      (first | rw [c41b0] | (simp only [i64_w, i32_w]; rw [c41b0]) | skip)
                      by_cases c42 : t130 = true
                      · subst c42
                        have H1 : (polyglotlaw12_NumberSets.j1 k1 true l0 (l0.length : Int) x21_1 (!(t118 == t125) || (!(t119 == t126) || (!(t120 == t127) || (!(t121 == t128) || (!(t122 == t129)))))) x116000_1 x116001_1 x116002_1 x116003_1 x116004_1 t118 t119 t120 t121 t122) = some r := by rw [if_pos rfl] at H; exact H
                        clear H
                        have H := H1
                        clear H1
                        have H' := Aside0.mk H
                        clear H
                        have hnb43 := NB124_115.out
                        have hnc43 := NB115_124.out
                        have hnb44 := NB124_117.out
                        have hnc44 := NB117_124.out
                        have hnb45 := NB124_131.out
                        have hnc45 := NB131_124.out
                        have hcz46_0 : w36.cell? ⟨gb124, 0, none⟩ = some (.int .i64 t118) := (blk_cell BK124.out 0).trans rfl
                        have hcz46_1 : w36.cell? ⟨gb124, 1, none⟩ = some (.int .i64 t119) := (blk_cell BK124.out 1).trans rfl
                        have hcz46_2 : w36.cell? ⟨gb124, 2, none⟩ = some (.int .i64 t120) := (blk_cell BK124.out 2).trans rfl
                        have hcz46_3 : w36.cell? ⟨gb124, 3, none⟩ = some (.bool t121) := (blk_cell BK124.out 3).trans rfl
                        have hcz46_4 : w36.cell? ⟨gb124, 4, none⟩ = some (.bool t122) := (blk_cell BK124.out 4).trans rfl
                        have hfz46_0 := blk_frozen BK124.out 0
                        have hfz46_1 := blk_frozen BK124.out 1
                        have hfz46_2 := blk_frozen BK124.out 2
                        have hfz46_3 := blk_frozen BK124.out 3
                        have hfz46_4 := blk_frozen BK124.out 4
                        have hnb47 := NB131_115.out
                        have hnc47 := NB115_131.out
                        have hnb48 := NB131_117.out
                        have hnc48 := NB117_131.out
                        have hcz49_0 : w36.cell? ⟨gb131, 0, none⟩ = some (.int .i64 0) := (blk_cell BK131.out 0).trans rfl
                        have hcz49_1 : w36.cell? ⟨gb131, 1, none⟩ = some (.int .i64 0) := (blk_cell BK131.out 1).trans rfl
                        have hcz49_2 : w36.cell? ⟨gb131, 2, none⟩ = some (.int .i64 0) := (blk_cell BK131.out 2).trans rfl
                        have hcz49_3 : w36.cell? ⟨gb131, 3, none⟩ = some (.bool false) := (blk_cell BK131.out 3).trans rfl
                        have hcz49_4 : w36.cell? ⟨gb131, 4, none⟩ = some (.bool false) := (blk_cell BK131.out 4).trans rfl
                        have hfz49_0 := blk_frozen BK131.out 0
                        have hfz49_1 := blk_frozen BK131.out 1
                        have hfz49_2 := blk_frozen BK131.out 2
                        have hfz49_3 := blk_frozen BK131.out 3
                        have hfz49_4 := blk_frozen BK131.out 4
                        go_wp2
                        go_meet
                        case rel => exact ⟨_, ((!(t118 == t125) || (!(t119 == t126) || (!(t120 == t127) || (!(t121 == t128) || (!(t122 == t129))))))), (by first | rfl | (simp; done) | (simp [*]; done)), H', ⟨by have := HK1.out; first | omega | exact Nat.le_refl _⟩, ⟨by (with_reducible repeat (first | refine blk_drewN ?_ _ | refine blk_drew ?_ | refine blk_alloc ?_ _)); refine blk_far ?_ NB115_131.out _; (with_reducible repeat (first | refine blk_drewN ?_ _ | refine blk_drew ?_ | refine blk_alloc ?_ _)); refine blk_far ?_ NB115_131.out _; (with_reducible repeat (first | refine blk_drewN ?_ _ | refine blk_drew ?_ | refine blk_alloc ?_ _)); refine blk_far ?_ NB115_131.out _; (with_reducible repeat (first | refine blk_drewN ?_ _ | refine blk_drew ?_ | refine blk_alloc ?_ _)); refine blk_far ?_ NB115_131.out _; (with_reducible repeat (first | refine blk_drewN ?_ _ | refine blk_drew ?_ | refine blk_alloc ?_ _)); refine blk_far ?_ NB115_131.out _; (with_reducible repeat (first | refine blk_drewN ?_ _ | refine blk_drew ?_ | refine blk_alloc ?_ _)); exact BK115.out⟩, ⟨by (with_reducible repeat (first | refine blk_drewN ?_ _ | refine blk_drew ?_ | refine blk_alloc ?_ _)); refine blk_far ?_ NB117_131.out _; (with_reducible repeat (first | refine blk_drewN ?_ _ | refine blk_drew ?_ | refine blk_alloc ?_ _)); refine blk_far ?_ NB117_131.out _; (with_reducible repeat (first | refine blk_drewN ?_ _ | refine blk_drew ?_ | refine blk_alloc ?_ _)); refine blk_far ?_ NB117_131.out _; (with_reducible repeat (first | refine blk_drewN ?_ _ | refine blk_drew ?_ | refine blk_alloc ?_ _)); refine blk_far ?_ NB117_131.out _; (with_reducible repeat (first | refine blk_drewN ?_ _ | refine blk_drew ?_ | refine blk_alloc ?_ _)); refine blk_far ?_ NB117_131.out _; (with_reducible repeat (first | refine blk_drewN ?_ _ | refine blk_drew ?_ | refine blk_alloc ?_ _)); exact BK117.out⟩, ⟨by (with_reducible repeat (first | refine blk_drewN ?_ _ | refine blk_drew ?_ | refine blk_alloc ?_ _)); refine blk_far ?_ NB124_131.out _; (with_reducible repeat (first | refine blk_drewN ?_ _ | refine blk_drew ?_ | refine blk_alloc ?_ _)); refine blk_far ?_ NB124_131.out _; (with_reducible repeat (first | refine blk_drewN ?_ _ | refine blk_drew ?_ | refine blk_alloc ?_ _)); refine blk_far ?_ NB124_131.out _; (with_reducible repeat (first | refine blk_drewN ?_ _ | refine blk_drew ?_ | refine blk_alloc ?_ _)); refine blk_far ?_ NB124_131.out _; (with_reducible repeat (first | refine blk_drewN ?_ _ | refine blk_drew ?_ | refine blk_alloc ?_ _)); refine blk_far ?_ NB124_131.out _; (with_reducible repeat (first | refine blk_drewN ?_ _ | refine blk_drew ?_ | refine blk_alloc ?_ _)); exact BK124.out⟩, ⟨by (with_reducible repeat (first | refine blk_drewN ?_ _ | refine blk_drew ?_ | refine blk_alloc ?_ _)); refine blk_put (cs := #[.int .i64 t125, .int .i64 t126, .int .i64 t127, .bool t128, .bool false]) ?_ 4 _ rfl; (with_reducible repeat (first | refine blk_drewN ?_ _ | refine blk_drew ?_ | refine blk_alloc ?_ _)); refine blk_put (cs := #[.int .i64 t125, .int .i64 t126, .int .i64 t127, .bool false, .bool false]) ?_ 3 _ rfl; (with_reducible repeat (first | refine blk_drewN ?_ _ | refine blk_drew ?_ | refine blk_alloc ?_ _)); refine blk_put (cs := #[.int .i64 t125, .int .i64 t126, .int .i64 0, .bool false, .bool false]) ?_ 2 _ rfl; (with_reducible repeat (first | refine blk_drewN ?_ _ | refine blk_drew ?_ | refine blk_alloc ?_ _)); refine blk_put (cs := #[.int .i64 t125, .int .i64 0, .int .i64 0, .bool false, .bool false]) ?_ 1 _ rfl; (with_reducible repeat (first | refine blk_drewN ?_ _ | refine blk_drew ?_ | refine blk_alloc ?_ _)); refine blk_put (cs := #[.int .i64 0, .int .i64 0, .int .i64 0, .bool false, .bool false]) ?_ 0 _ rfl; (with_reducible repeat (first | refine blk_drewN ?_ _ | refine blk_drew ?_ | refine blk_alloc ?_ _)); exact BK131.out⟩, ⟨by repeat (first | (with_reducible first | exact HB.out | apply below_alloc | apply pw_below_drewN | apply below_drew1 | refine below_set ?_ GE115.out | refine below_set ?_ GE117.out | refine below_set ?_ GE124.out | refine below_set ?_ GE131.out) | exact HB.out)⟩⟩
                      · replace c42 := Bool.eq_false_iff.mpr c42
                        subst c42
                        have H1 : (if t123 = 1 then (polyglotlaw12_NumberSets.j1 k1 false l0 (l0.length : Int) x21_1 (!(t118 == t125) || (!(t119 == t126) || (!(t120 == t127) || (!(t121 == t128) || (!(t122 == t129)))))) x116000_1 x116001_1 x116002_1 x116003_1 x116004_1 t118 t119 t120 t121 t122) else (polyglotlaw12_NumberSets.j1 k1 false l0 (l0.length : Int) x21_1 true x116000_1 x116001_1 x116002_1 x116003_1 x116004_1 t118 t119 t120 t121 t122)) = some r := by rw [if_neg (show ¬ (false = true) by decide)] at H; exact H
                        clear H
                        have H := H1
                        clear H1
                        by_cases c50 : t123 = 1
                        · rw [if_pos c50] at H
                          have c50b0 : (t123 == 1) = true := beq_iff_eq.mpr c50
                          have c50b1 : (t123 != 1) = false := bne_eq_false_iff_eq.mpr c50
                          clear c50
                          have H' := Aside0.mk H
                          clear H
                          have hnb51 := NB124_115.out
                          have hnc51 := NB115_124.out
                          have hnb52 := NB124_117.out
                          have hnc52 := NB117_124.out
                          have hnb53 := NB124_131.out
                          have hnc53 := NB131_124.out
                          have hcz54_0 : w36.cell? ⟨gb124, 0, none⟩ = some (.int .i64 t118) := (blk_cell BK124.out 0).trans rfl
                          have hcz54_1 : w36.cell? ⟨gb124, 1, none⟩ = some (.int .i64 t119) := (blk_cell BK124.out 1).trans rfl
                          have hcz54_2 : w36.cell? ⟨gb124, 2, none⟩ = some (.int .i64 t120) := (blk_cell BK124.out 2).trans rfl
                          have hcz54_3 : w36.cell? ⟨gb124, 3, none⟩ = some (.bool t121) := (blk_cell BK124.out 3).trans rfl
                          have hcz54_4 : w36.cell? ⟨gb124, 4, none⟩ = some (.bool t122) := (blk_cell BK124.out 4).trans rfl
                          have hfz54_0 := blk_frozen BK124.out 0
                          have hfz54_1 := blk_frozen BK124.out 1
                          have hfz54_2 := blk_frozen BK124.out 2
                          have hfz54_3 := blk_frozen BK124.out 3
                          have hfz54_4 := blk_frozen BK124.out 4
                          have hnb55 := NB131_115.out
                          have hnc55 := NB115_131.out
                          have hnb56 := NB131_117.out
                          have hnc56 := NB117_131.out
                          have hcz57_0 : w36.cell? ⟨gb131, 0, none⟩ = some (.int .i64 0) := (blk_cell BK131.out 0).trans rfl
                          have hcz57_1 : w36.cell? ⟨gb131, 1, none⟩ = some (.int .i64 0) := (blk_cell BK131.out 1).trans rfl
                          have hcz57_2 : w36.cell? ⟨gb131, 2, none⟩ = some (.int .i64 0) := (blk_cell BK131.out 2).trans rfl
                          have hcz57_3 : w36.cell? ⟨gb131, 3, none⟩ = some (.bool false) := (blk_cell BK131.out 3).trans rfl
                          have hcz57_4 : w36.cell? ⟨gb131, 4, none⟩ = some (.bool false) := (blk_cell BK131.out 4).trans rfl
                          have hfz57_0 := blk_frozen BK131.out 0
                          have hfz57_1 := blk_frozen BK131.out 1
                          have hfz57_2 := blk_frozen BK131.out 2
                          have hfz57_3 := blk_frozen BK131.out 3
                          have hfz57_4 := blk_frozen BK131.out 4
                          go_wp2
                          go_meet
                          case rel => exact ⟨_, ((!(t118 == t125) || (!(t119 == t126) || (!(t120 == t127) || (!(t121 == t128) || (!(t122 == t129))))))), (by first | rfl | (simp; done) | (simp [*]; done)), H', ⟨by have := HK1.out; first | omega | exact Nat.le_refl _⟩, ⟨by (with_reducible repeat (first | refine blk_drewN ?_ _ | refine blk_drew ?_ | refine blk_alloc ?_ _)); refine blk_far ?_ NB115_131.out _; (with_reducible repeat (first | refine blk_drewN ?_ _ | refine blk_drew ?_ | refine blk_alloc ?_ _)); refine blk_far ?_ NB115_131.out _; (with_reducible repeat (first | refine blk_drewN ?_ _ | refine blk_drew ?_ | refine blk_alloc ?_ _)); refine blk_far ?_ NB115_131.out _; (with_reducible repeat (first | refine blk_drewN ?_ _ | refine blk_drew ?_ | refine blk_alloc ?_ _)); refine blk_far ?_ NB115_131.out _; (with_reducible repeat (first | refine blk_drewN ?_ _ | refine blk_drew ?_ | refine blk_alloc ?_ _)); refine blk_far ?_ NB115_131.out _; (with_reducible repeat (first | refine blk_drewN ?_ _ | refine blk_drew ?_ | refine blk_alloc ?_ _)); exact BK115.out⟩, ⟨by (with_reducible repeat (first | refine blk_drewN ?_ _ | refine blk_drew ?_ | refine blk_alloc ?_ _)); refine blk_far ?_ NB117_131.out _; (with_reducible repeat (first | refine blk_drewN ?_ _ | refine blk_drew ?_ | refine blk_alloc ?_ _)); refine blk_far ?_ NB117_131.out _; (with_reducible repeat (first | refine blk_drewN ?_ _ | refine blk_drew ?_ | refine blk_alloc ?_ _)); refine blk_far ?_ NB117_131.out _; (with_reducible repeat (first | refine blk_drewN ?_ _ | refine blk_drew ?_ | refine blk_alloc ?_ _)); refine blk_far ?_ NB117_131.out _; (with_reducible repeat (first | refine blk_drewN ?_ _ | refine blk_drew ?_ | refine blk_alloc ?_ _)); refine blk_far ?_ NB117_131.out _; (with_reducible repeat (first | refine blk_drewN ?_ _ | refine blk_drew ?_ | refine blk_alloc ?_ _)); exact BK117.out⟩, ⟨by (with_reducible repeat (first | refine blk_drewN ?_ _ | refine blk_drew ?_ | refine blk_alloc ?_ _)); refine blk_far ?_ NB124_131.out _; (with_reducible repeat (first | refine blk_drewN ?_ _ | refine blk_drew ?_ | refine blk_alloc ?_ _)); refine blk_far ?_ NB124_131.out _; (with_reducible repeat (first | refine blk_drewN ?_ _ | refine blk_drew ?_ | refine blk_alloc ?_ _)); refine blk_far ?_ NB124_131.out _; (with_reducible repeat (first | refine blk_drewN ?_ _ | refine blk_drew ?_ | refine blk_alloc ?_ _)); refine blk_far ?_ NB124_131.out _; (with_reducible repeat (first | refine blk_drewN ?_ _ | refine blk_drew ?_ | refine blk_alloc ?_ _)); refine blk_far ?_ NB124_131.out _; (with_reducible repeat (first | refine blk_drewN ?_ _ | refine blk_drew ?_ | refine blk_alloc ?_ _)); exact BK124.out⟩, ⟨by (with_reducible repeat (first | refine blk_drewN ?_ _ | refine blk_drew ?_ | refine blk_alloc ?_ _)); refine blk_put (cs := #[.int .i64 t125, .int .i64 t126, .int .i64 t127, .bool t128, .bool false]) ?_ 4 _ rfl; (with_reducible repeat (first | refine blk_drewN ?_ _ | refine blk_drew ?_ | refine blk_alloc ?_ _)); refine blk_put (cs := #[.int .i64 t125, .int .i64 t126, .int .i64 t127, .bool false, .bool false]) ?_ 3 _ rfl; (with_reducible repeat (first | refine blk_drewN ?_ _ | refine blk_drew ?_ | refine blk_alloc ?_ _)); refine blk_put (cs := #[.int .i64 t125, .int .i64 t126, .int .i64 0, .bool false, .bool false]) ?_ 2 _ rfl; (with_reducible repeat (first | refine blk_drewN ?_ _ | refine blk_drew ?_ | refine blk_alloc ?_ _)); refine blk_put (cs := #[.int .i64 t125, .int .i64 0, .int .i64 0, .bool false, .bool false]) ?_ 1 _ rfl; (with_reducible repeat (first | refine blk_drewN ?_ _ | refine blk_drew ?_ | refine blk_alloc ?_ _)); refine blk_put (cs := #[.int .i64 0, .int .i64 0, .int .i64 0, .bool false, .bool false]) ?_ 0 _ rfl; (with_reducible repeat (first | refine blk_drewN ?_ _ | refine blk_drew ?_ | refine blk_alloc ?_ _)); exact BK131.out⟩, ⟨by repeat (first | (with_reducible first | exact HB.out | apply below_alloc | apply pw_below_drewN | apply below_drew1 | refine below_set ?_ GE115.out | refine below_set ?_ GE117.out | refine below_set ?_ GE124.out | refine below_set ?_ GE131.out) | exact HB.out)⟩⟩
                        · rw [if_neg c50] at H
                          have c50b0 : (t123 == 1) = false := beq_eq_false_iff_ne.mpr c50
                          have c50b1 : (t123 != 1) = true := bne_iff_ne.mpr c50
                          have H' := Aside0.mk H
                          clear H
                          go_wp2
                          go_meet
                          case rel => exact ⟨_, (true), (by first | rfl | (simp; done) | (simp [*]; done)), H', ⟨by have := HK1.out; first | omega | exact Nat.le_refl _⟩, ⟨by (with_reducible repeat (first | refine blk_drewN ?_ _ | refine blk_drew ?_ | refine blk_alloc ?_ _)); refine blk_far ?_ NB115_131.out _; (with_reducible repeat (first | refine blk_drewN ?_ _ | refine blk_drew ?_ | refine blk_alloc ?_ _)); refine blk_far ?_ NB115_131.out _; (with_reducible repeat (first | refine blk_drewN ?_ _ | refine blk_drew ?_ | refine blk_alloc ?_ _)); refine blk_far ?_ NB115_131.out _; (with_reducible repeat (first | refine blk_drewN ?_ _ | refine blk_drew ?_ | refine blk_alloc ?_ _)); refine blk_far ?_ NB115_131.out _; (with_reducible repeat (first | refine blk_drewN ?_ _ | refine blk_drew ?_ | refine blk_alloc ?_ _)); refine blk_far ?_ NB115_131.out _; (with_reducible repeat (first | refine blk_drewN ?_ _ | refine blk_drew ?_ | refine blk_alloc ?_ _)); exact BK115.out⟩, ⟨by (with_reducible repeat (first | refine blk_drewN ?_ _ | refine blk_drew ?_ | refine blk_alloc ?_ _)); refine blk_far ?_ NB117_131.out _; (with_reducible repeat (first | refine blk_drewN ?_ _ | refine blk_drew ?_ | refine blk_alloc ?_ _)); refine blk_far ?_ NB117_131.out _; (with_reducible repeat (first | refine blk_drewN ?_ _ | refine blk_drew ?_ | refine blk_alloc ?_ _)); refine blk_far ?_ NB117_131.out _; (with_reducible repeat (first | refine blk_drewN ?_ _ | refine blk_drew ?_ | refine blk_alloc ?_ _)); refine blk_far ?_ NB117_131.out _; (with_reducible repeat (first | refine blk_drewN ?_ _ | refine blk_drew ?_ | refine blk_alloc ?_ _)); refine blk_far ?_ NB117_131.out _; (with_reducible repeat (first | refine blk_drewN ?_ _ | refine blk_drew ?_ | refine blk_alloc ?_ _)); exact BK117.out⟩, ⟨by (with_reducible repeat (first | refine blk_drewN ?_ _ | refine blk_drew ?_ | refine blk_alloc ?_ _)); refine blk_far ?_ NB124_131.out _; (with_reducible repeat (first | refine blk_drewN ?_ _ | refine blk_drew ?_ | refine blk_alloc ?_ _)); refine blk_far ?_ NB124_131.out _; (with_reducible repeat (first | refine blk_drewN ?_ _ | refine blk_drew ?_ | refine blk_alloc ?_ _)); refine blk_far ?_ NB124_131.out _; (with_reducible repeat (first | refine blk_drewN ?_ _ | refine blk_drew ?_ | refine blk_alloc ?_ _)); refine blk_far ?_ NB124_131.out _; (with_reducible repeat (first | refine blk_drewN ?_ _ | refine blk_drew ?_ | refine blk_alloc ?_ _)); refine blk_far ?_ NB124_131.out _; (with_reducible repeat (first | refine blk_drewN ?_ _ | refine blk_drew ?_ | refine blk_alloc ?_ _)); exact BK124.out⟩, ⟨by (with_reducible repeat (first | refine blk_drewN ?_ _ | refine blk_drew ?_ | refine blk_alloc ?_ _)); refine blk_put (cs := #[.int .i64 t125, .int .i64 t126, .int .i64 t127, .bool t128, .bool false]) ?_ 4 _ rfl; (with_reducible repeat (first | refine blk_drewN ?_ _ | refine blk_drew ?_ | refine blk_alloc ?_ _)); refine blk_put (cs := #[.int .i64 t125, .int .i64 t126, .int .i64 t127, .bool false, .bool false]) ?_ 3 _ rfl; (with_reducible repeat (first | refine blk_drewN ?_ _ | refine blk_drew ?_ | refine blk_alloc ?_ _)); refine blk_put (cs := #[.int .i64 t125, .int .i64 t126, .int .i64 0, .bool false, .bool false]) ?_ 2 _ rfl; (with_reducible repeat (first | refine blk_drewN ?_ _ | refine blk_drew ?_ | refine blk_alloc ?_ _)); refine blk_put (cs := #[.int .i64 t125, .int .i64 0, .int .i64 0, .bool false, .bool false]) ?_ 1 _ rfl; (with_reducible repeat (first | refine blk_drewN ?_ _ | refine blk_drew ?_ | refine blk_alloc ?_ _)); refine blk_put (cs := #[.int .i64 0, .int .i64 0, .int .i64 0, .bool false, .bool false]) ?_ 0 _ rfl; (with_reducible repeat (first | refine blk_drewN ?_ _ | refine blk_drew ?_ | refine blk_alloc ?_ _)); exact BK131.out⟩, ⟨by repeat (first | (with_reducible first | exact HB.out | apply below_alloc | apply pw_below_drewN | apply below_drew1 | refine below_set ?_ GE115.out | refine below_set ?_ GE117.out | refine below_set ?_ GE124.out | refine below_set ?_ GE131.out) | exact HB.out)⟩⟩
                  case rest =>
                    clear HC23
                    try clear c1
                    try clear p1
                    try clear q1
                    try clear hx1
                    try clear c2
                    try clear p2
                    try clear c3
                    try clear c4
                    try clear c5
                    try clear c6
                    try clear c7
                    try clear c7b0
                    try clear c8
                    try clear c9
                    try clear p11
                    try clear q11
                    try clear hx11
                    try clear c18
                    try clear c18b0
                    try clear c19
                    try clear c19b0
                    try clear c20
                    try clear c20b0
                    try clear c25
                    try clear c30
                    try clear c31
                    try clear c37
                    try clear c38
                    try clear c39
                    try clear c41
                    try clear c41b0
                    try clear c41b1
                    try clear c41b2
                    try clear c42
                    try clear c43
                    try clear c44
                    try clear c45
                    try clear c47
                    try clear c48
                    try clear c50
                    try clear c50b0
                    try clear c50b1
                    try clear c51
                    try clear c52
                    try clear c53
                    try clear c55
                    try clear c56
                    try clear hcz12_0
                    try clear hcz12_1
                    try clear hcz12_2
                    try clear hcz12_3
                    try clear hcz12_4
                    try clear hcz17_0
                    try clear hcz17_1
                    try clear hcz17_2
                    try clear hcz17_3
                    try clear hcz17_4
                    try clear hcz26_0
                    try clear hcz26_1
                    try clear hcz26_2
                    try clear hcz26_3
                    try clear hcz26_4
                    try clear hcz26_5
                    try clear hcz27_0
                    try clear hcz27_1
                    try clear hcz27_2
                    try clear hcz27_3
                    try clear hcz27_4
                    try clear hcz32_0
                    try clear hcz32_1
                    try clear hcz32_2
                    try clear hcz32_3
                    try clear hcz32_4
                    try clear hcz33_0
                    try clear hcz33_1
                    try clear hcz33_2
                    try clear hcz33_3
                    try clear hcz33_4
                    try clear hcz34_0
                    try clear hcz34_1
                    try clear hcz34_2
                    try clear hcz34_3
                    try clear hcz34_4
                    try clear hcz34_5
                    try clear hcz40_0
                    try clear hcz40_1
                    try clear hcz40_2
                    try clear hcz40_3
                    try clear hcz40_4
                    try clear hcz46_0
                    try clear hcz46_1
                    try clear hcz46_2
                    try clear hcz46_3
                    try clear hcz46_4
                    try clear hcz49_0
                    try clear hcz49_1
                    try clear hcz49_2
                    try clear hcz49_3
                    try clear hcz49_4
                    try clear hcz54_0
                    try clear hcz54_1
                    try clear hcz54_2
                    try clear hcz54_3
                    try clear hcz54_4
                    try clear hcz57_0
                    try clear hcz57_1
                    try clear hcz57_2
                    try clear hcz57_3
                    try clear hcz57_4
                    try clear hfz12_0
                    try clear hfz12_1
                    try clear hfz12_2
                    try clear hfz12_3
                    try clear hfz12_4
                    try clear hfz17_0
                    try clear hfz17_1
                    try clear hfz17_2
                    try clear hfz17_3
                    try clear hfz17_4
                    try clear hfz26_0
                    try clear hfz26_1
                    try clear hfz26_2
                    try clear hfz26_3
                    try clear hfz26_4
                    try clear hfz26_5
                    try clear hfz27_0
                    try clear hfz27_1
                    try clear hfz27_2
                    try clear hfz27_3
                    try clear hfz27_4
                    try clear hfz32_0
                    try clear hfz32_1
                    try clear hfz32_2
                    try clear hfz32_3
                    try clear hfz32_4
                    try clear hfz33_0
                    try clear hfz33_1
                    try clear hfz33_2
                    try clear hfz33_3
                    try clear hfz33_4
                    try clear hfz34_0
                    try clear hfz34_1
                    try clear hfz34_2
                    try clear hfz34_3
                    try clear hfz34_4
                    try clear hfz34_5
                    try clear hfz40_0
                    try clear hfz40_1
                    try clear hfz40_2
                    try clear hfz40_3
                    try clear hfz40_4
                    try clear hfz46_0
                    try clear hfz46_1
                    try clear hfz46_2
                    try clear hfz46_3
                    try clear hfz46_4
                    try clear hfz49_0
                    try clear hfz49_1
                    try clear hfz49_2
                    try clear hfz49_3
                    try clear hfz49_4
                    try clear hfz54_0
                    try clear hfz54_1
                    try clear hfz54_2
                    try clear hfz54_3
                    try clear hfz54_4
                    try clear hfz57_0
                    try clear hfz57_1
                    try clear hfz57_2
                    try clear hfz57_3
                    try clear hfz57_4
                    try clear hx116_0
                    try clear hx116_1
                    try clear hx116_2
                    try clear hx116_3
                    try clear hx116_4
                    try clear hx116_5
                    try clear p116
                    try clear p2
                    try clear q116
                    obtain ⟨kq, x60_22, rfl, HA, HJ22, BK115, BK117, BK124, BK131, HB⟩ := hcut
                    cases kq with
                    | zero => exact absurd HA.out (by simp [polyglotlaw12_NumberSets.j1])
                    | succ kj22 =>
                      have H := HA.out
                      clear HA
                      simp only [polyglotlaw12_NumberSets.j1] at H
                      by_cases c58 : x60_22 = true
                      · subst c58
                        have H1 : (some false) = some r := by rw [if_pos rfl] at H; exact H
                        clear H
                        have H := H1
                        clear H1
                        obtain rfl := Option.some.inj H
                        go_wp2
                        go_ret
                        exact ⟨by first | rfl | (simp [errW_none, errW_some] <;> rfl) | (simp [*, errW_none, errW_some] <;> rfl), by repeat (first | (with_reducible first | exact HB.out | apply below_alloc | apply pw_below_drewN | apply below_drew1 | refine below_set ?_ GE115.out | refine below_set ?_ GE117.out | refine below_set ?_ GE124.out | refine below_set ?_ GE131.out) | exact HB.out)⟩
                      · replace c58 := Bool.eq_false_iff.mpr c58
                        subst c58
                        have H1 : (if t130 = true then (polyglotlaw12_NumberSets.l0 kj22 l0 (l0.length : Int) (wrap64 (x21_1 + 1)) t118 t119 t120 t121 t122) else (polyglotlaw12_NumberSets.l0 kj22 l0 (l0.length : Int) (wrap64 (x21_1 + 1)) x116000_1 x116001_1 x116002_1 x116003_1 x116004_1)) = some r := by rw [if_neg (show ¬ (false = true) by decide)] at H; exact H
                        clear H
                        have H := H1
                        clear H1
                        by_cases c59 : t130 = true
                        · subst c59
                          have H1 : (polyglotlaw12_NumberSets.l0 kj22 l0 (l0.length : Int) (wrap64 (x21_1 + 1)) t118 t119 t120 t121 t122) = some r := by rw [if_pos rfl] at H; exact H
                          clear H
                          have H := H1
                          clear H1
                          have H' := Aside0.mk H
                          clear H
                          have hnb60 := NB124_115.out
                          have hnc60 := NB115_124.out
                          have hnb61 := NB124_117.out
                          have hnc61 := NB117_124.out
                          have hnb62 := NB124_131.out
                          have hnc62 := NB131_124.out
                          have hcz63_0 : wc.cell? ⟨gb124, 0, none⟩ = some (.int .i64 t118) := (blk_cell BK124.out 0).trans rfl
                          have hcz63_1 : wc.cell? ⟨gb124, 1, none⟩ = some (.int .i64 t119) := (blk_cell BK124.out 1).trans rfl
                          have hcz63_2 : wc.cell? ⟨gb124, 2, none⟩ = some (.int .i64 t120) := (blk_cell BK124.out 2).trans rfl
                          have hcz63_3 : wc.cell? ⟨gb124, 3, none⟩ = some (.bool t121) := (blk_cell BK124.out 3).trans rfl
                          have hcz63_4 : wc.cell? ⟨gb124, 4, none⟩ = some (.bool t122) := (blk_cell BK124.out 4).trans rfl
                          have hfz63_0 := blk_frozen BK124.out 0
                          have hfz63_1 := blk_frozen BK124.out 1
                          have hfz63_2 := blk_frozen BK124.out 2
                          have hfz63_3 := blk_frozen BK124.out 3
                          have hfz63_4 := blk_frozen BK124.out 4
                          have hnb64 := NB115_117.out
                          have hnc64 := NB117_115.out
                          have hnb65 := NB115_131.out
                          have hnc65 := NB131_115.out
                          have hcz66_0 : wc.cell? ⟨gb115, 0, none⟩ = some (.int .i64 x116000_1) := (blk_cell BK115.out 0).trans rfl
                          have hcz66_1 : wc.cell? ⟨gb115, 1, none⟩ = some (.int .i64 x116001_1) := (blk_cell BK115.out 1).trans rfl
                          have hcz66_2 : wc.cell? ⟨gb115, 2, none⟩ = some (.int .i64 x116002_1) := (blk_cell BK115.out 2).trans rfl
                          have hcz66_3 : wc.cell? ⟨gb115, 3, none⟩ = some (.bool x116003_1) := (blk_cell BK115.out 3).trans rfl
                          have hcz66_4 : wc.cell? ⟨gb115, 4, none⟩ = some (.bool x116004_1) := (blk_cell BK115.out 4).trans rfl
                          have hfz66_0 := blk_frozen BK115.out 0
                          have hfz66_1 := blk_frozen BK115.out 1
                          have hfz66_2 := blk_frozen BK115.out 2
                          have hfz66_3 := blk_frozen BK115.out 3
                          have hfz66_4 := blk_frozen BK115.out 4
                          go_wp2
                          go_roundg kj22
                          case measure => have := HK1.out; have := HJ22.out; omega
                          case rel => exact ⟨(wrap64 (x21_1 + 1)), (t118), (t119), (t120), (t121), (t122), (by first | rfl | (simp; done) | (simp [*]; done)), H', ⟨by have := HK1.out; have := HJ22.out; omega⟩, ⟨by (with_reducible repeat (first | refine blk_drewN ?_ _ | refine blk_drew ?_ | refine blk_alloc ?_ _)); refine blk_put (cs := #[.int .i64 t118, .int .i64 t119, .int .i64 t120, .bool t121, .bool x116004_1]) ?_ 4 _ rfl; (with_reducible repeat (first | refine blk_drewN ?_ _ | refine blk_drew ?_ | refine blk_alloc ?_ _)); refine blk_put (cs := #[.int .i64 t118, .int .i64 t119, .int .i64 t120, .bool x116003_1, .bool x116004_1]) ?_ 3 _ rfl; (with_reducible repeat (first | refine blk_drewN ?_ _ | refine blk_drew ?_ | refine blk_alloc ?_ _)); refine blk_put (cs := #[.int .i64 t118, .int .i64 t119, .int .i64 x116002_1, .bool x116003_1, .bool x116004_1]) ?_ 2 _ rfl; (with_reducible repeat (first | refine blk_drewN ?_ _ | refine blk_drew ?_ | refine blk_alloc ?_ _)); refine blk_put (cs := #[.int .i64 t118, .int .i64 x116001_1, .int .i64 x116002_1, .bool x116003_1, .bool x116004_1]) ?_ 1 _ rfl; (with_reducible repeat (first | refine blk_drewN ?_ _ | refine blk_drew ?_ | refine blk_alloc ?_ _)); refine blk_put (cs := #[.int .i64 x116000_1, .int .i64 x116001_1, .int .i64 x116002_1, .bool x116003_1, .bool x116004_1]) ?_ 0 _ rfl; (with_reducible repeat (first | refine blk_drewN ?_ _ | refine blk_drew ?_ | refine blk_alloc ?_ _)); exact BK115.out⟩, ⟨by repeat (first | (with_reducible first | exact HB.out | apply below_alloc | apply pw_below_drewN | apply below_drew1 | refine below_set ?_ GE115.out | refine below_set ?_ GE117.out | refine below_set ?_ GE124.out | refine below_set ?_ GE131.out) | exact HB.out)⟩⟩
                        · replace c59 := Bool.eq_false_iff.mpr c59
                          subst c59
                          have H1 : (polyglotlaw12_NumberSets.l0 kj22 l0 (l0.length : Int) (wrap64 (x21_1 + 1)) x116000_1 x116001_1 x116002_1 x116003_1 x116004_1) = some r := by rw [if_neg (show ¬ (false = true) by decide)] at H; exact H
                          clear H
                          have H := H1
                          clear H1
                          have H' := Aside0.mk H
                          clear H
                          go_wp2
                          go_roundg kj22
                          case measure => have := HK1.out; have := HJ22.out; omega
                          case rel => exact ⟨(wrap64 (x21_1 + 1)), (x116000_1), (x116001_1), (x116002_1), (x116003_1), (x116004_1), (by first | rfl | (simp; done) | (simp [*]; done)), H', ⟨by have := HK1.out; have := HJ22.out; omega⟩, ⟨by (with_reducible repeat (first | refine blk_drewN ?_ _ | refine blk_drew ?_ | refine blk_alloc ?_ _)); exact BK115.out⟩, ⟨by repeat (first | (with_reducible first | exact HB.out | apply below_alloc | apply pw_below_drewN | apply below_drew1 | refine below_set ?_ GE115.out | refine below_set ?_ GE117.out | refine below_set ?_ GE124.out | refine below_set ?_ GE131.out) | exact HB.out)⟩⟩
                · rw [if_neg c20] at H
                  exact absurd H (by simp)
              · rw [if_neg c19] at H
                exact absurd H (by simp)
            · rw [if_neg c18] at H
              have c18b0 : decide (x21_1 < (l0.length : Int)) = false := decide_eq_false c18
              clear c18
              by_cases c67 : x116000_1 ≥ 1
              · rw [if_pos c67] at H
                have c67b0 : decide (1 ≤ x116000_1) = true := decide_eq_true c67
                clear c67
                by_cases c68 : x116001_1 ≤ x116002_1
                · rw [if_pos c68] at H
                  have c68b0 : decide (x116001_1 ≤ x116002_1) = true := decide_eq_true c68
                  clear c68
                  obtain rfl := Option.some.inj H
                  have hcz69_0 : wr.cell? ⟨gb115, 0, none⟩ = some (.int .i64 x116000_1) := (blk_cell BK115.out 0).trans rfl
                  have hcz69_1 : wr.cell? ⟨gb115, 1, none⟩ = some (.int .i64 x116001_1) := (blk_cell BK115.out 1).trans rfl
                  have hcz69_2 : wr.cell? ⟨gb115, 2, none⟩ = some (.int .i64 x116002_1) := (blk_cell BK115.out 2).trans rfl
                  have hcz69_3 : wr.cell? ⟨gb115, 3, none⟩ = some (.bool x116003_1) := (blk_cell BK115.out 3).trans rfl
                  have hcz69_4 : wr.cell? ⟨gb115, 4, none⟩ = some (.bool x116004_1) := (blk_cell BK115.out 4).trans rfl
                  have hfz69_0 := blk_frozen BK115.out 0
                  have hfz69_1 := blk_frozen BK115.out 1
                  have hfz69_2 := blk_frozen BK115.out 2
                  have hfz69_3 := blk_frozen BK115.out 3
                  have hfz69_4 := blk_frozen BK115.out 4
                  go_wp2
                  go_ret
                  exact ⟨by first | rfl | (simp [errW_none, errW_some] <;> rfl) | (simp [*, errW_none, errW_some] <;> rfl), by repeat (first | (with_reducible first | exact HB.out | apply below_alloc | apply pw_below_drewN | apply below_drew1 | refine below_set ?_ GE115.out) | exact HB.out)⟩
                · rw [if_neg c68] at H
                  have c68b0 : decide (x116001_1 ≤ x116002_1) = false := decide_eq_false c68
                  clear c68
                  obtain rfl := Option.some.inj H
                  have hcz70_0 : wr.cell? ⟨gb115, 0, none⟩ = some (.int .i64 x116000_1) := (blk_cell BK115.out 0).trans rfl
                  have hcz70_1 : wr.cell? ⟨gb115, 1, none⟩ = some (.int .i64 x116001_1) := (blk_cell BK115.out 1).trans rfl
                  have hcz70_2 : wr.cell? ⟨gb115, 2, none⟩ = some (.int .i64 x116002_1) := (blk_cell BK115.out 2).trans rfl
                  have hcz70_3 : wr.cell? ⟨gb115, 3, none⟩ = some (.bool x116003_1) := (blk_cell BK115.out 3).trans rfl
                  have hcz70_4 : wr.cell? ⟨gb115, 4, none⟩ = some (.bool x116004_1) := (blk_cell BK115.out 4).trans rfl
                  have hfz70_0 := blk_frozen BK115.out 0
                  have hfz70_1 := blk_frozen BK115.out 1
                  have hfz70_2 := blk_frozen BK115.out 2
                  have hfz70_3 := blk_frozen BK115.out 3
                  have hfz70_4 := blk_frozen BK115.out 4
                  go_wp2
                  go_ret
                  exact ⟨by first | rfl | (simp [errW_none, errW_some] <;> rfl) | (simp [*, errW_none, errW_some] <;> rfl), by repeat (first | (with_reducible first | exact HB.out | apply below_alloc | apply pw_below_drewN | apply below_drew1 | refine below_set ?_ GE115.out) | exact HB.out)⟩
              · rw [if_neg c67] at H
                have c67b0 : decide (1 ≤ x116000_1) = false := decide_eq_false c67
                clear c67
                obtain rfl := Option.some.inj H
                have hcz71_0 : wr.cell? ⟨gb115, 0, none⟩ = some (.int .i64 x116000_1) := (blk_cell BK115.out 0).trans rfl
                have hcz71_1 : wr.cell? ⟨gb115, 1, none⟩ = some (.int .i64 x116001_1) := (blk_cell BK115.out 1).trans rfl
                have hcz71_2 : wr.cell? ⟨gb115, 2, none⟩ = some (.int .i64 x116002_1) := (blk_cell BK115.out 2).trans rfl
                have hcz71_3 : wr.cell? ⟨gb115, 3, none⟩ = some (.bool x116003_1) := (blk_cell BK115.out 3).trans rfl
                have hcz71_4 : wr.cell? ⟨gb115, 4, none⟩ = some (.bool x116004_1) := (blk_cell BK115.out 4).trans rfl
                have hfz71_0 := blk_frozen BK115.out 0
                have hfz71_1 := blk_frozen BK115.out 1
                have hfz71_2 := blk_frozen BK115.out 2
                have hfz71_3 := blk_frozen BK115.out 3
                have hfz71_4 := blk_frozen BK115.out 4
                go_wp2
                go_ret
                exact ⟨by first | rfl | (simp [errW_none, errW_some] <;> rfl) | (simp [*, errW_none, errW_some] <;> rfl), by repeat (first | (with_reducible first | exact HB.out | apply below_alloc | apply pw_below_drewN | apply below_drew1 | refine below_set ?_ GE115.out) | exact HB.out)⟩
    · replace c5 := Bool.eq_false_iff.mpr c5
      subst c5
      have H1 : (some true) = some r := by rw [if_neg (show ¬ (false = true) by decide)] at H; exact H
      clear H
      have H := H1
      clear H1
      obtain rfl := Option.some.inj H
      go_enter Tryz.func3, Tryz.ntmps3
      go_wp2_with (first | ((with_reducible refine gate_callee (f := 5) rfl ?_); refine goesL_ (some 10) rfl rfl Tryz.func5 (by kernel_rfl) rfl #[] rfl (by (try simp only [List.map_toArray, List.map_cons, List.map_nil]); first | done | rfl | (simp only [List.length_drop, List.length_take]; rfl)) ?_; (with_reducible refine (polyglotlaw12_head.calls  true _ A2.out).mono ?_); rintro e w72 ⟨rfl, hb⟩; refine ⟨_, rfl, ?_⟩; have n0_ := Aside0.mk (below_step (by repeat (first | (with_reducible first | exact HB.out | apply below_alloc | apply pw_below_drewN | apply below_drew1) | exact HB.out)) hb); clear HB; have HB := n0_; clear n0_; (try clear hb); (try clear hb2); (try clear hk); (try clear hi)) | ((with_reducible refine gate_callee (f := 6) rfl ?_); refine goesL_ (some 13) rfl rfl Tryz.func6 (by kernel_rfl) rfl #[.slice A0 l0.length c0] rfl (by (try simp only [List.map_toArray, List.map_cons, List.map_nil]); first | done | rfl | (simp only [List.length_drop, List.length_take]; rfl)) ?_; (with_reducible refine (polyglotlaw12_few.calls k _ _ l0 false _ ?side1 ?side2 A4.out).mono ?_); (case side1 => repeat (first | exact (Kd.C_below HR0.out HB.out) | (with_reducible refine Kd.C_alloc ?_ _) | (with_reducible refine Kd.C_drewN ?_ _) | (with_reducible refine Kd.C_drew ?_))); (case side2 => exact HC0.out); rintro e w73 ⟨rfl, hb⟩; refine ⟨_, rfl, ?_⟩; have n0_ := Aside0.mk (below_step (by repeat (first | (with_reducible first | exact HB.out | apply below_alloc | apply pw_below_drewN | apply below_drew1) | exact HB.out)) hb); clear HB; have HB := n0_; clear n0_; (try clear hb); (try clear hb2); (try clear hk); (try clear hi)))
      go_ret
      exact ⟨by first | rfl | (simp [errW_none, errW_some] <;> rfl) | (simp [*, errW_none, errW_some] <;> rfl), by repeat (first | (with_reducible first | exact HB.out | apply below_alloc | apply pw_below_drewN | apply below_drew1) | exact HB.out)⟩
  · replace c3 := Bool.eq_false_iff.mpr c3
    subst c3
    have H1 : (some false) = some r := by rw [if_neg (show ¬ (false = true) by decide)] at H; exact H
    clear H
    have H := H1
    clear H1
    obtain rfl := Option.some.inj H
    go_enter Tryz.func3, Tryz.ntmps3
    go_wp2_with (first | ((with_reducible refine gate_callee (f := 5) rfl ?_); refine goesL_ (some 10) rfl rfl Tryz.func5 (by kernel_rfl) rfl #[] rfl (by (try simp only [List.map_toArray, List.map_cons, List.map_nil]); first | done | rfl | (simp only [List.length_drop, List.length_take]; rfl)) ?_; (with_reducible refine (polyglotlaw12_head.calls  false _ A2.out).mono ?_); rintro e w74 ⟨rfl, hb⟩; refine ⟨_, rfl, ?_⟩; have n0_ := Aside0.mk (below_step (by repeat (first | (with_reducible first | exact HB.out | apply below_alloc | apply pw_below_drewN | apply below_drew1) | exact HB.out)) hb); clear HB; have HB := n0_; clear n0_; (try clear hb); (try clear hb2); (try clear hk); (try clear hi)))
    go_ret
    exact ⟨by first | rfl | (simp [errW_none, errW_some] <;> rfl) | (simp [*, errW_none, errW_some] <;> rfl), by repeat (first | (with_reducible first | exact HB.out | apply below_alloc | apply pw_below_drewN | apply below_drew1) | exact HB.out)⟩
def polyglotlaw12_Opts.l0 : Nat → List (S31) → Int → Int → Int → Int → Int → Bool → Bool → Option (Int × Int × Int × Bool × Bool)
  | 0, _, _, _, _, _, _, _, _ => none
  | k + 1, x9, x10, x11, x139000, x139001, x139002, x139003, x139004 => if x11 < x10 then (if 0 ≤ x11 then (if x11 < (x9.length : Int) then ((number_Opts_Set.f x139000 x139001 x139002 x139003 x139004 ((rd_T31 x9 x11).f0) ((rd_T31 x9 x11).f1) ((rd_T31 x9 x11).f2.f0) ((rd_T31 x9 x11).f2.f1) ((rd_T31 x9 x11).f2.f2) ((rd_T31 x9 x11).f3)).bind fun bt141 => (if bt141.2.2.2.2.2 = 0 then (polyglotlaw12_Opts.l0 k x9 x10 (wrap64 (x11 + 1)) bt141.1 bt141.2.1 bt141.2.2.1 bt141.2.2.2.1 bt141.2.2.2.2.1) else (polyglotlaw12_Opts.l0 k x9 x10 (wrap64 (x11 + 1)) x139000 x139001 x139002 x139003 x139004))) else (none)) else (none)) else (some (x139000, x139001, x139002, x139003, x139004))
theorem polyglotlaw12_Opts.mono_l : ∀ k, (∀ y0 y1 y2 y3 y4 y5 y6 y7, LeO (polyglotlaw12_Opts.l0 k y0 y1 y2 y3 y4 y5 y6 y7) (polyglotlaw12_Opts.l0 (k + 1) y0 y1 y2 y3 y4 y5 y6 y7))
  | 0 => fun _ _ _ _ _ _ _ _ r h => by simp [polyglotlaw12_Opts.l0] at h
  | k + 1 => by
    have ih0 := polyglotlaw12_Opts.mono_l k
    · intro y0 y1 y2 y3 y4 y5 y6 y7
      unfold polyglotlaw12_Opts.l0
      repeat' first
      | (with_reducible exact ih0 _ _ _ _ _ _ _ _)
      | (with_reducible exact LeO.refl _)
      | (with_reducible exact LeO.none _)
      | (with_reducible refine LeO.ite ?_ ?_)
      | (with_reducible refine LeO.bind ?_ (fun _ => ?_))
      | exact ih0 _ _ _ _ _ _ _ _
      | exact LeO.none _
      | refine LeO.ite ?_ ?_
      | refine LeO.bind ?_ (fun _ => ?_)
end Go.Proofs.YtajgnkncdkibeaaGreatDoor.P
namespace Go.Proofs.YtajgnkncdkibeaaGreatDoor.PN
open Go.RowKit Go.Proofs.YtajgnkncdkibeaaGreatDoor Go.Proofs.YtajgnkncdkibeaaGreatDoor.G Go.Proofs.YtajgnkncdkibeaaGreatDoor.R Go.Proofs.YtajgnkncdkibeaaGreatDoor.P Go.Proofs.YtajgnkncdkibeaaGreatDoorW.PrintWords
set_option linter.unusedVariables false
set_option linter.unusedSimpArgs false
def optL (x : Bool × Int × Int × Int × Bool × Bool) : Int × Int × Int × Bool × Bool × Bool := if x.1 = true then (x.2.1, x.2.2.1, x.2.2.2.1, x.2.2.2.2.1, x.2.2.2.2.2, true) else (0, 0, 0, false, false, false)
theorem cat_eq {a b x y : List UInt8} (hx : (61 : UInt8) ∉ x) (hy : (61 : UInt8) ∉ y) : a ++ 61 :: b = x ++ 61 :: y ↔ a = x ∧ b = y := by
  constructor
  · intro h
    rcases List.append_eq_append_iff.1 h with ⟨c, h1, h2⟩ | ⟨c, h1, h2⟩
    · cases c with
      | nil => simp at h1 h2; exact ⟨h1.symm, h2⟩
      | cons u c =>
        obtain ⟨rfl, h3⟩ := List.cons.inj h2
        exact absurd (by rw [h1]; simp) hx
    · cases c with
      | nil => simp at h1 h2; exact ⟨h1, h2.symm⟩
      | cons u c =>
        obtain ⟨rfl, h3⟩ := List.cons.inj h2
        exact absurd (by rw [h3]; simp) hy
  · rintro ⟨rfl, rfl⟩; rfl
theorem cat_list (a b : ByteArray) : ((a ++ (⟨#[61]⟩ : ByteArray)) ++ b).toList = a.toList ++ 61 :: b.toList := by
  rw [Lib.toList_data, Lib.toList_data, Lib.toList_data, ByteArray.data_append, ByteArray.data_append, Array.toList_append, Array.toList_append, List.append_assoc]
  rfl
theorem lawSet_ok (k : Nat) (a0 a1 a2 : Int) (a3 a4 : Bool) (nm tx : ByteArray) (d0 : Bool) (D : ByteArray) (s : Int) (it : Bool) (ho : okN D s = true) (h1 : nm.size ≤ 281474976710656) (h2 : tx.size ≤ 281474976710656) :
    polyglotlaw12_Set.f (k + 1) a0 a1 a2 a3 a4 nm tx d0 D s it = some (optL (stS a0 a1 a2 a3 a4 nm tx (whoV d0 (fixD D.data.toList (D.size - s.toNat) D.size)) it)) := by
  unfold polyglotlaw12_Set.f
  cases it with
  | true =>
    have z1 : (⟨#[61]⟩ : ByteArray).size = 1 := rfl
    rw [if_pos rfl, if_pos (by omega), if_pos (by rw [ByteArray.size_append, z1]; omega), cat_list]
    have hS : ∀ dg, stS a0 a1 a2 a3 a4 nm tx dg true = if (nm.toList == [117, 115, 101, 71, 114, 111, 117, 112, 105, 110, 103]) = true then ((tx.toList == [102, 97, 108, 115, 101]) || (tx.toList == [116, 114, 117, 101]), a0, a1, a2, (tx.toList == [102, 97, 108, 115, 101]), a4)
        else if (nm.toList == [116, 121, 112, 101]) = true then ((tx.toList == [111, 114, 100, 105, 110, 97, 108]) || (tx.toList == [99, 97, 114, 100, 105, 110, 97, 108]), a0, a1, a2, a3, (tx.toList == [111, 114, 100, 105, 110, 97, 108])) else (false, a0, a1, a2, a3, a4) := fun dg => by
      unfold stS
      rw [if_neg (by decide)]
    rw [hS]
    generalize nm.toList = N
    generalize tx.toList = T
    have e1 : N ++ 61 :: T = [117, 115, 101, 71, 114, 111, 117, 112, 105, 110, 103] ++ 61 :: [102, 97, 108, 115, 101] ↔ N = [117, 115, 101, 71, 114, 111, 117, 112, 105, 110, 103] ∧ T = [102, 97, 108, 115, 101] := cat_eq (by decide) (by decide)
    have e2 : N ++ 61 :: T = [117, 115, 101, 71, 114, 111, 117, 112, 105, 110, 103] ++ 61 :: [116, 114, 117, 101] ↔ N = [117, 115, 101, 71, 114, 111, 117, 112, 105, 110, 103] ∧ T = [116, 114, 117, 101] := cat_eq (by decide) (by decide)
    have e3 : N ++ 61 :: T = [116, 121, 112, 101] ++ 61 :: [111, 114, 100, 105, 110, 97, 108] ↔ N = [116, 121, 112, 101] ∧ T = [111, 114, 100, 105, 110, 97, 108] := cat_eq (by decide) (by decide)
    have e4 : N ++ 61 :: T = [116, 121, 112, 101] ++ 61 :: [99, 97, 114, 100, 105, 110, 97, 108] ↔ N = [116, 121, 112, 101] ∧ T = [99, 97, 114, 100, 105, 110, 97, 108] := cat_eq (by decide) (by decide)
    simp only [List.cons_append, List.nil_append] at e1 e2 e3 e4
    generalize N ++ 61 :: T = Z at *
    simp only [beq_iff_eq]
    by_cases c1 : N = [117, 115, 101, 71, 114, 111, 117, 112, 105, 110, 103]
    · have n3 : ¬ N = [116, 121, 112, 101] := by rw [c1]; decide
      by_cases c2 : T = [102, 97, 108, 115, 101]
      · rw [if_pos (e1.2 ⟨c1, c2⟩), if_pos c1, c2]; simp [optL]
      · by_cases c3 : T = [116, 114, 117, 101]
        · rw [if_neg (fun h => c2 (e1.1 h).2), if_pos (e2.2 ⟨c1, c3⟩), if_pos c1, c3]; simp [optL]
        · rw [if_neg (fun h => c2 (e1.1 h).2), if_neg (fun h => c3 (e2.1 h).2), if_neg (fun h => n3 (e3.1 h).1), if_neg (fun h => n3 (e4.1 h).1), if_pos c1]; simp [optL, c2, c3]
    · rw [if_neg (fun h => c1 (e1.1 h).1), if_neg (fun h => c1 (e2.1 h).1), if_neg c1]
      by_cases c4 : N = [116, 121, 112, 101]
      · by_cases c2 : T = [111, 114, 100, 105, 110, 97, 108]
        · rw [if_pos (e3.2 ⟨c4, c2⟩), if_pos c4, c2]; simp [optL]
        · by_cases c3 : T = [99, 97, 114, 100, 105, 110, 97, 108]
          · rw [if_neg (fun h => c2 (e3.1 h).2), if_pos (e4.2 ⟨c4, c3⟩), if_pos c4, c3]; simp [optL]
          · rw [if_neg (fun h => c2 (e3.1 h).2), if_neg (fun h => c3 (e4.1 h).2), if_pos c4]; simp [optL, c2, c3]
      · rw [if_neg (fun h => c4 (e3.1 h).1), if_neg (fun h => c4 (e4.1 h).1), if_neg c4]; simp [optL]
  | false =>
    rw [if_neg (by decide)]
    unfold polyglotlaw12_whole.f
    rw [if_pos ho, Option.bind_some]
    generalize whoV d0 (fixD D.data.toList (D.size - s.toNat) D.size) = n
    have hS : stS a0 a1 a2 a3 a4 nm tx n false = ((stN a0 a1 a2 nm n).1, (stN a0 a1 a2 nm n).2.1, (stN a0 a1 a2 nm n).2.2.1, (stN a0 a1 a2 nm n).2.2.2, a3, a4) := rfl
    rw [hS]
    by_cases c1 : n < 0
    · have hN : stN a0 a1 a2 nm n = (false, a0, a1, a2) := by unfold stN; rw [if_pos c1]
      rw [hN, if_pos c1, polyglotlaw12_Set.j0, if_pos rfl]; rfl
    rw [if_neg c1]
    by_cases c2 : 20 < n
    · have hN : stN a0 a1 a2 nm n = (false, a0, a1, a2) := by unfold stN; rw [if_neg c1, if_pos c2]
      rw [hN, decide_eq_true (show n > 20 from c2), polyglotlaw12_Set.j0, if_pos rfl]; rfl
    rw [decide_eq_false (show ¬ n > 20 from c2), polyglotlaw12_Set.j0, if_neg (by decide)]
    have x1 : isMI nm = decide (nm.toList = [109, 105, 110, 105, 109, 117, 109, 73, 110, 116, 101, 103, 101, 114, 68, 105, 103, 105, 116, 115]) := by unfold isMI; rw [Bool.eq_iff_iff]; simp
    have x2 : isMF nm = decide (nm.toList = [109, 105, 110, 105, 109, 117, 109, 70, 114, 97, 99, 116, 105, 111, 110, 68, 105, 103, 105, 116, 115]) := by unfold isMF; rw [Bool.eq_iff_iff]; simp
    have x3 : isXF nm = decide (nm.toList = [109, 97, 120, 105, 109, 117, 109, 70, 114, 97, 99, 116, 105, 111, 110, 68, 105, 103, 105, 116, 115]) := by unfold isXF; rw [Bool.eq_iff_iff]; simp
    have y1 : [109, 105, 110, 105, 109, 117, 109, 73, 110, 116, 101, 103, 101, 114, 68, 105, 103, 105, 116, 115] ≠ [109, 105, 110, 105, 109, 117, 109, 70, 114, 97, 99, 116, 105, 111, 110, 68, 105, 103, 105, 116, 115] := by decide
    have y2 : [109, 105, 110, 105, 109, 117, 109, 73, 110, 116, 101, 103, 101, 114, 68, 105, 103, 105, 116, 115] ≠ [109, 97, 120, 105, 109, 117, 109, 70, 114, 97, 99, 116, 105, 111, 110, 68, 105, 103, 105, 116, 115] := by decide
    by_cases c3 : nm.toList = [109, 105, 110, 105, 109, 117, 109, 73, 110, 116, 101, 103, 101, 114, 68, 105, 103, 105, 116, 115]
    · rw [if_pos c3]
      by_cases c4 : n = 0
      · have q2 : isMF nm = false := by rw [x2, c3]; decide
        have q3 : isXF nm = false := by rw [x3, c3]; decide
        have hN : stN a0 a1 a2 nm n = (false, a0, a1, a2) := by
          unfold stN
          rw [if_neg c1, if_neg c2, if_neg (fun h => by have := h.2; omega), if_neg (by rw [q2]; decide), if_neg (by rw [q3]; decide)]
        rw [hN, if_pos c4]; rfl
      · have hN : stN a0 a1 a2 nm n = (true, n, a1, a2) := by
          unfold stN
          rw [if_neg c1, if_neg c2, if_pos ⟨by rw [x1]; exact decide_eq_true c3, by omega⟩]
        rw [hN, if_neg c4]; rfl
    · have m1 : ¬ (isMI nm = true ∧ 0 < n) := fun h => c3 (of_decide_eq_true (x1 ▸ h.1))
      rw [if_neg c3]
      by_cases c4 : nm.toList = [109, 105, 110, 105, 109, 117, 109, 70, 114, 97, 99, 116, 105, 111, 110, 68, 105, 103, 105, 116, 115]
      · rw [if_pos c4]
        have hN : stN a0 a1 a2 nm n = (true, a0, n, if a2 < n then n else a2) := by
          unfold stN
          rw [if_neg c1, if_neg c2, if_neg m1, if_pos (by rw [x2]; exact decide_eq_true c4)]
        rw [hN]
        by_cases c5 : a2 < n
        · rw [if_pos c5, if_pos c5]; rfl
        · rw [if_neg c5, if_neg c5]; rfl
      · have m2 : ¬ isMF nm = true := fun h => c4 (of_decide_eq_true (x2 ▸ h))
        rw [if_neg c4]
        by_cases c5 : nm.toList = [109, 97, 120, 105, 109, 117, 109, 70, 114, 97, 99, 116, 105, 111, 110, 68, 105, 103, 105, 116, 115]
        · rw [if_pos c5]
          have hN : stN a0 a1 a2 nm n = (true, a0, if n < a1 then n else a1, n) := by
            unfold stN
            rw [if_neg c1, if_neg c2, if_neg m1, if_neg m2, if_pos (by rw [x3]; exact decide_eq_true c5)]
          rw [hN]
          by_cases c6 : n < a1
          · rw [if_pos (show a1 > n from c6), if_pos c6]; rfl
          · rw [if_neg (show ¬ a1 > n from c6), if_neg c6]; rfl
        · have m3 : ¬ isXF nm = true := fun h => c5 (of_decide_eq_true (x3 ▸ h))
          have hN : stN a0 a1 a2 nm n = (false, a0, a1, a2) := by
            unfold stN
            rw [if_neg c1, if_neg c2, if_neg m1, if_neg m2, if_neg m3]
          rw [hN, if_neg c5]; rfl
def Inv (m f x : Int) : Prop := 1 ≤ m ∧ m ≤ 20 ∧ 0 ≤ f ∧ f ≤ x ∧ x ≤ 20
theorem stN_inv {m f x : Int} (h : Inv m f x) (nm : ByteArray) (n : Int) : Inv (stN m f x nm n).2.1 (stN m f x nm n).2.2.1 (stN m f x nm n).2.2.2 := by
  obtain ⟨h1, h2, h3, h4, h5⟩ := h
  unfold stN
  by_cases c1 : n < 0
  · rw [if_pos c1]; exact ⟨h1, h2, h3, h4, h5⟩
  rw [if_neg c1]
  by_cases c2 : 20 < n
  · rw [if_pos c2]; exact ⟨h1, h2, h3, h4, h5⟩
  rw [if_neg c2]
  by_cases c3 : isMI nm = true ∧ 0 < n
  · rw [if_pos c3]; exact ⟨by show 1 ≤ n; omega, by show n ≤ 20; omega, h3, h4, h5⟩
  rw [if_neg c3]
  by_cases c4 : isMF nm = true
  · rw [if_pos c4]
    refine ⟨h1, h2, by show 0 ≤ n; omega, ?_, ?_⟩
    · show n ≤ if x < n then n else x
      split <;> omega
    · show (if x < n then n else x) ≤ 20
      split <;> omega
  rw [if_neg c4]
  by_cases c5 : isXF nm = true
  · rw [if_pos c5]
    refine ⟨h1, h2, ?_, ?_, by show n ≤ 20; omega⟩
    · show 0 ≤ if n < f then n else f
      split <;> omega
    · show (if n < f then n else f) ≤ n
      split <;> omega
  rw [if_neg c5]; exact ⟨h1, h2, h3, h4, h5⟩
theorem stS_inv {m f x : Int} (h : Inv m f x) (p r : Bool) (nm tx : ByteArray) (n : Int) (it : Bool) : Inv (stS m f x p r nm tx n it).2.1 (stS m f x p r nm tx n it).2.2.1 (stS m f x p r nm tx n it).2.2.2.1 := by
  unfold stS
  split
  · exact stN_inv h nm n
  · split
    · exact h
    · split
      · exact h
      · exact h
structure OkS (p : S31) : Prop where
  num : okN p.f2.f1 p.f2.f2 = true
  norm : Norm p.f2.f1 p.f2.f2
  nm : p.f0.size ≤ 281474976710656
  tx : p.f1.size ≤ 281474976710656
theorem dg_of {p : S31} (h : OkS p) (n : Bool) : dgV n (trE p.f2.f1 p.f2.f2.toNat) (trK p.f2.f1 p.f2.f2.toNat) = whoV n (fixD p.f2.f1.data.toList (p.f2.f1.size - p.f2.f2.toNat) p.f2.f1.size) := by
  obtain ⟨j, hj, h1, h2, h3⟩ := okN_of h.num
  have hn := h.norm
  rw [hj] at hn ⊢
  rw [Int.toNat_natCast]
  generalize p.f2.f1 = D at *
  have hD : D = ⟨D.data.toList.toArray⟩ := by cases D; rfl
  have hl : D.size = D.data.toList.length := Lib.size_eq D
  have := dg_wh n D.data.toList j (by omega) (by omega) (digB_mem h3) (by
    rcases hn with hn | hn
    · exact .inl (by omega)
    · refine .inr fun he => ?_
      obtain ⟨hx, hy⟩ := List.getElem?_eq_some_iff.1 he
      refine hn (by omega) ?_
      show (D.data.toList[0]'hx).toNat = 48
      rw [hy]
      rfl)
  rw [← hD, ← hl] at this
  exact this
theorem rd_at {L : List S31} {i : Nat} (h : i < L.length) : rd_T31 L (i : Int) = L[i] := by
  unfold rd_T31
  rw [Int.toNat_natCast, List.getD_eq_getElem?_getD, List.getElem?_eq_getElem h]
  rfl
theorem sets_loop (L : List S31) (hL : ∀ p ∈ L, OkS p) (h20 : L.length ≤ 20) : ∀ (d i : Nat) (m f x : Int) (p r : Bool), L.length - i ≤ d → i ≤ L.length → Inv m f x → polyglotlaw12_NumberSets.l0 (2 * d + 5) L (L.length : Int) (i : Int) m f x p r = some true := by
  intro d
  induction d with
  | zero =>
    intro i m f x p r h1 h2 h3
    obtain ⟨q1, q2, q3, q4, q5⟩ := h3
    rw [polyglotlaw12_NumberSets.l0, if_neg (by omega), if_pos (by omega), if_pos q4, decide_eq_true q5]
  | succ d ih =>
    intro i m f x p r h1 h2 h3
    by_cases hi : i < L.length
    · have hp := hL _ (List.getElem_mem hi)
      rw [show 2 * (d + 1) + 5 = 2 * d + 5 + 1 + 1 by omega, polyglotlaw12_NumberSets.l0, if_pos (by omega), if_pos (by omega), if_pos (by omega), rd_at hi]
      generalize L[i] = e at hp
      have hV := stS_inv h3 p r e.f0 e.f1 (whoV e.f2.f0 (fixD e.f2.f1.data.toList (e.f2.f1.size - e.f2.f2.toNat) e.f2.f1.size)) e.f3
      unfold number_Opts_Set.f
      rw [if_pos hp.num, dg_of hp, Option.bind_some, lawSet_ok _ m f x p r e.f0 e.f1 e.f2.f0 e.f2.f1 e.f2.f2 e.f3 hp.num hp.nm hp.tx, Option.bind_some]
      generalize stS m f x p r e.f0 e.f1 (whoV e.f2.f0 (fixD e.f2.f1.data.toList (e.f2.f1.size - e.f2.f2.toNat) e.f2.f1.size)) e.f3 = V at *
      obtain ⟨z, m1, f1, x1, p1, r1⟩ := V
      have hw : wrap64 ((i : Int) + 1) = ((i + 1 : Nat) : Int) := by rw [w64 _ (by omega) (by omega)]; omega
      cases z with
      | true =>
        simp [optL, optR, polyglotlaw12_NumberSets.j1, hw]
        exact ih (i + 1) m1 f1 x1 p1 r1 (by omega) (by omega) hV
      | false =>
        simp [optL, optR, polyglotlaw12_NumberSets.j1, hw]
        exact ih (i + 1) m f x p r (by omega) (by omega) h3
    · obtain ⟨q1, q2, q3, q4, q5⟩ := h3
      rw [show 2 * (d + 1) + 5 = 2 * d + 6 + 1 by omega, polyglotlaw12_NumberSets.l0, if_neg (by omega), if_pos (by omega), if_pos q4, decide_eq_true q5]
theorem few_ok (L : List S31) (hl : L.length ≤ 281474976710656) (hs : ∀ p ∈ L, p.f0.size ≤ 281474976710656 ∧ p.f1.size ≤ 281474976710656) : ∀ (d i : Nat), L.length - i ≤ d → i ≤ L.length → (∀ j (h : j < L.length), j < i → OkS L[j]) →
    ∃ b, polyglotlaw12_few.l0 (d + 101) L L (L.length : Int) (i : Int) = some b ∧ (b = true → (∀ p ∈ L, OkS p) ∧ L.length ≤ 20) := by
  have fin : ∀ (i k : Nat), L.length ≤ i → (∀ j (h : j < L.length), j < i → OkS L[j]) → ∃ b, polyglotlaw12_few.l0 (k + 1) L L (L.length : Int) (i : Int) = some b ∧ (b = true → (∀ p ∈ L, OkS p) ∧ L.length ≤ 20) := by
    intro i k h1 h2
    rw [polyglotlaw12_few.l0, if_neg (by omega)]
    refine ⟨_, rfl, fun h => ⟨fun p hp => ?_, by have := of_decide_eq_true h; omega⟩⟩
    obtain ⟨j, hj, rfl⟩ := List.getElem_of_mem hp
    exact h2 j hj (by omega)
  intro d
  induction d with
  | zero => intro i h1 h2 h3; exact fin i 100 (by omega) h3
  | succ d ih =>
    intro i h1 h2 h3
    by_cases hi : i < L.length
    · obtain ⟨b, hb, hok⟩ := right_ok L[i].f2.f0 L[i].f2.f1 L[i].f2.f2 (d + 101) (by omega)
      rw [show d + 1 + 101 = d + 101 + 1 by omega, polyglotlaw12_few.l0, if_pos (by omega), if_pos (by omega), if_pos (by omega), rd_at hi, hb, Option.bind_some]
      cases b with
      | false => exact ⟨false, rfl, fun h => by cases h⟩
      | true =>
        obtain ⟨o1, o2⟩ := hok rfl
        rw [if_pos rfl, w64 _ (by omega) (by omega), show (i : Int) + 1 = ((i + 1 : Nat) : Int) by omega]
        refine ih (i + 1) (by omega) (by omega) ?_
        intro j hj hji
        by_cases e : j = i
        · subst e
          have := hs _ (List.getElem_mem hj)
          exact ⟨o1, o2, this.1, this.2⟩
        · exact h3 j hj (by omega)
    · exact fin i (d + 1 + 100) (by omega) h3
theorem lift_ {α : Type} {f : Nat → Option α} (h : ∀ k, LeO (f k) (f (k + 1))) {a b : Nat} (hab : a ≤ b) {r : α} (ha : f a = some r) : f b = some r := by
  induction hab with
  | refl => exact ha
  | step _ ih => exact h _ _ ih
theorem sets_pure (L : List S31) (hl : L.length ≤ 281474976710656) (hs : ∀ p ∈ L, p.f0.size ≤ 281474976710656 ∧ p.f1.size ≤ 281474976710656) : ∃ k, polyglotlaw12_NumberSets.f k L = some true := by
  refine ⟨L.length + 101, ?_⟩
  obtain ⟨b, hb, hok⟩ := few_ok L hl hs L.length 0 (by omega) (by omega) (fun _ _ h => by omega)
  unfold polyglotlaw12_NumberSets.f polyglotlaw12_head.f polyglotlaw12_few.f
  rw [Option.bind_some, if_pos rfl]
  have hb' : polyglotlaw12_few.l0 (L.length + 101) L L (L.length : Int) 0 = some b := hb
  rw [hb', Option.bind_some]
  cases b with
  | false => rw [if_neg (by decide)]
  | true =>
    obtain ⟨h1, h2⟩ := hok rfl
    rw [if_pos rfl]
    unfold number_Default.f
    rw [Option.bind_some, if_neg (by decide)]
    have h3 := sets_loop L h1 h2 L.length 0 1 0 3 false false (by omega) (by omega) ⟨by decide, by decide, by decide, by decide, by decide⟩
    exact lift_ (f := fun k => polyglotlaw12_NumberSets.l0 k L (L.length : Int) 0 1 0 3 false false) (fun k => (polyglotlaw12_NumberSets.mono_l k).1 _ _ _ _ _ _ _ _) (show 2 * L.length + 5 ≤ L.length + 101 by omega) h3
theorem sets_walk (A : Option Addr) (c : Nat) (l : List S31) (W : World) (hC : Kd.C k31 W A l.length l) (hc : l.length ≤ c) (hl : l.length ≤ 281474976710656) (hs : ∀ p ∈ l, p.f0.size ≤ 281474976710656 ∧ p.f1.size ≤ 281474976710656) :
    Calls Tryz.prog 3 #[.slice A l.length c] W fun e w' => e = .returned (.bool true) ∧ Below W.heap.size W w' := by
  obtain ⟨k, hk⟩ := sets_pure l hl hs
  exact polyglotlaw12_NumberSets.calls k A c l true W hC hc hk
end Go.Proofs.YtajgnkncdkibeaaGreatDoor.PN
namespace Go.Proofs.YtajgnkncdkibeaaGreatDoor.numberSets
open Go.ChangeShapes Go.WideShapes Go.ChangeAt Go.RowKit Go.Proofs.YtajgnkncdkibeaaGreatDoor.E
open Go.ChangeMaps (open_string shut_string)
set_option linter.unusedVariables false
set_option linter.unusedSimpArgs false
theorem laid_met (os : Os) : laidMet Tryz.prog Rows.numberSetsRow.laid ((laidWorld os).forCall (fun _ _ => 0) ⟨#[], #[.slice none 0 0], []⟩).memory :=
  laidMet_of_run3 8 (by kernel_rfl) (by kernel_rfl) (by kernel_rfl)
set_option maxRecDepth 100000 in
theorem reads (os : Os) {H : Type} (enc : TypeId × Value → H) : ∃ places, DataW.whole enc Tryz.prog ((laidWorld os).forCall (fun _ _ => 0) ⟨#[], #[.slice none 0 0], []⟩).memory Tryz.f3.params.toList Rows.numberSetsSpec.vars false #[Value.slice none 0 0].toList 8 = some ([.nil], [], places) :=
  ⟨[], by kernel_rfl⟩
set_option maxRecDepth 100000 in
theorem contract (H : Type) (enc : TypeId × Value → H) (W : World) (base : Nat) (args : Array Value) (ds gs : List (DataW H)) (before : List MemPlace)
    (hval : ∀ (j : Nat) t v, Tryz.f3.params[j]? = some t → args[j]? = some v → Value.okWide Tryz.prog W .any base t v)
    (hW : DataW.Whole enc Tryz.prog Tryz.f3.params.toList Rows.numberSetsSpec.vars false W args.toList ds gs before) (hL : laidMetH Tryz.prog Rows.numberSetsRow.laid W) (hS : W.ShapedOpen Tryz.prog) (hsz : (DataW.weightsEach Tryz.prog (Tryz.f3.params.toList ++ (OpenSpec.ofChange Rows.numberSetsSpec).bare.plain.varTypes Tryz.prog) (ds ++ gs)).all (· ≤ reachBytes) = true) :
    Calls Tryz.prog 3 args W fun e W' => ∃ v, e = .returned v ∧ Rows.numberSetsSpec.post enc Tryz.prog Tryz.f3 false true false false W args v W' := by
  have hW' := hW
  obtain ⟨p, q, hA0, hV, rfl, hfz, hnd⟩ := hW
  have hA : DataW.TrodAll enc Tryz.prog W 0 (fun _ => true) true Tryz.f3.params.toList args.toList ds p := hA0
  rw [Tryz.params3] at hA hval
  have hAk := hA
  have hlt : ∀ x ∈ p, x.block < W.heap.size := fun x hx => by simpa using hW'.lt x (List.mem_append.2 (Or.inl hx))
  obtain ⟨v0, vs0, d0, ds0, p0, q0, hargs, rfl, rfl, h0, r0⟩ := trodAll_cons hA
  obtain ⟨rfl, rfl, rfl⟩ := trodAll_nil r0
  obtain rfl : args = #[v0] := by cases args; simp_all
  obtain ⟨rfl, rfl⟩ := trodVars_none hV
  obtain ⟨A0, c0, l0, rfl, hc0, hC0, hl0, hm0⟩ := open_opts (hval 0 22 v0 rfl rfl) h0 (fun n hn => by have := of_decide_eq_true (List.all_eq_true.1 hsz n (DataW.weights_mem_each (j := 0) rfl rfl n hn)); unfold reachBytes at this; omega)
  clear hA0
  simp only [List.append_nil] at hW' hAk hlt
  skip
  refine (PN.sets_walk A0 c0 l0 W hC0 hc0 hl0 hm0).mono fun e W' ⟨he, hb⟩ => ?_
  subst he
  exact ⟨_, rfl, _, _, _, [], _, [], hW', trodAll_mk1 (shut_bool Tryz.underlying4 _), args_below laidOut hb _ _ _ _ (by decide +kernel) hAk hlt, rfl, hb.frame _, fun h => by cases h⟩
set_option maxRecDepth 100000 in
theorem lifted (os : Os) (started : os.Started) (H : Type) (enc : TypeId × Value → H) (F : Stop.Interp) :
    ReturnsInHanded {} Tryz.checked os 3 .any ((OpenSpec.ofChange Rows.numberSetsSpec).preRow enc Tryz.prog Tryz.f3 Rows.numberSetsRow.domain false Rows.numberSetsRow.laid) (((OpenSpec.ofChange Rows.numberSetsSpec).at F).post enc Tryz.prog Tryz.f3 false true false false) := by
  obtain ⟨places, hx⟩ := reads os enc
  refine returnsInHanded_of_row (C := Tryz.checked) (s := OpenSpec.ofChange Rows.numberSetsSpec) own started (by kernel_rfl) Tryz.func3
    (witness_row_atRef (enc := enc) (C := Tryz.checked) false (laidWorld os) #[.slice none 0 0] rfl (by kernel_rfl) (by kernel_rfl) (by kernel_rfl)
      (OpenSpec.preRow_of_cond 8 hx (by kernel_rfl) (fun k hk => by cases hk) (by kernel_rfl) (laid_met os))) ?_
  intro W base args ds gs before hval hW _ _ hsz hL hS _
  exact contract H enc W base args ds gs before hval hW hL hS hsz
theorem said : Rows.NumberSetsSaid :=
  OpenClaim.holds_of_cond 3 Tryz.f3 rfl rfl rfl rfl rfl rfl rfl ⟨rfl, rfl, rfl, rfl, rfl⟩ rfl rfl rfl rfl rfl (by kernel_rfl) Tryz.func3 (by kernel_rfl)
    (of_decide_eq_true (by kernel_rfl)) (by unfold Func.isWrapper; first | (rw [if_pos (by decide +kernel)]; kernel_rfl) | (rw [if_neg (by decide +kernel)]; exact ⟨rfl, rfl⟩))
    (fun os started H enc _ F => by rw [OpenClaim.pre_eq_preRow]; exact lifted os started H enc F)
theorem plain (f : FuncId) (fn : Func) (hf : Tryz.pinned.checked.prog.funcNamed "polyglot/polyglotlaw12.NumberSets" = some f) (hfn : Tryz.pinned.checked.prog.funcs[f]? = some fn) :
    false = Tryz.pinned.checked.prog.looks [] ∧ ∀ (j : Nat) t, fn.params[j]? = some t → Tryz.pinned.checked.prog.wantsStandIn t = false := by
  obtain rfl : f = 3 := Option.some.inj ((show Tryz.prog.funcNamed "polyglot/polyglotlaw12.NumberSets" = some 3 by kernel_rfl).symm.trans hf) |>.symm
  obtain rfl : fn = Tryz.f3 := (Option.some.inj (Tryz.func3.symm.trans hfn)).symm
  refine ⟨by kernel_rfl, fun j t ht => ?_⟩
  rw [Tryz.params3] at ht
  have hmem := Array.mem_of_getElem? ht
  have hall : ∀ t ∈ (#[22] : Array TypeId), Tryz.prog.wantsStandIn t = false := by
    intro t ht
    simp at ht
    subst ht
    kernel_rfl
  exact hall t hmem
end Go.Proofs.YtajgnkncdkibeaaGreatDoor.numberSets
namespace Go.Proofs.YtajgnkncdkibeaaGreatDoor
theorem numberSets_holds : Rows.NumberSetsCardSaid :=
  Claim7.holds_tied_plain_at .later [] _ _ _ _ numberSets.said (fun _ h => by cases h) (by kernel_rfl) (fun _ h => by cases h) numberSets_row_tie rfl ⟨rfl, rfl⟩ (by kernel_rfl) rfl numberSets.plain (by kernel_rfl)
end Go.Proofs.YtajgnkncdkibeaaGreatDoor
