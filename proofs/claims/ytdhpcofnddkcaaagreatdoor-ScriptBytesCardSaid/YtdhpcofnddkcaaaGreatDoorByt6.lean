/- polyglotlaw18.ScriptBytes: for every slice of steps the call returns true and leaves it unchanged. (Names shortened by a program.) (Text 7 of 10: what the law's proof rests on, joined; walks printed by the kit's print over given contracts, walks and plain laws by hand.) -/
import Derived.IntWalk
import Derived.Lib.Hide
import Derived.Lib.ConvBytes
import Derived.Laws.DeepStrings4
import Derived.Test.YtdhpcofnddkcaaaGreatDoorByt0
import Derived.Test.YtdhpcofnddkcaaaGreatDoorByt1
import Derived.Test.YtdhpcofnddkcaaaGreatDoorByt2
import Derived.Test.YtdhpcofnddkcaaaGreatDoorByt3
import Derived.Test.YtdhpcofnddkcaaaGreatDoorByt4
import Derived.Test.YtdhpcofnddkcaaaGreatDoorByt5
namespace Go.Proofs.YtdhpcofnddkcaaaGreatDoor.S
open Go.RowKit Go.Proofs.YtdhpcofnddkcaaaGreatDoor.G Go.Proofs.YtdhpcofnddkcaaaGreatDoorW.PrintWords Go.Proofs.YtdhpcofnddkcaaaGreatDoorW.PrintLast Go.Proofs.YtdhpcofnddkcaaaGreatDoorW.PrintMore
set_option linter.unusedVariables false
set_option linter.unusedSimpArgs false
theorem max2_int (k k' : IntKind) (x y : Int) : Builtin.max2 (.int k x) (.int k' y) = pure (.int k (if x < y then y else x)) := by simp only [Builtin.max2, gt_iff_lt]
theorem min2_int (k k' : IntKind) (x y : Int) : Builtin.min2 (.int k x) (.int k' y) = pure (.int k (if y < x then y else x)) := by simp only [Builtin.min2]
theorem max_two (ats : Array TypeId) (ty : TypeId) (a b : Value) : Builtin.max_ ats ty #[a, b] = (Builtin.max2 a b >>= fun s => pure s) := by simp only [Builtin.max_, List.foldlM_cons, List.foldlM_nil]
theorem min_two (ats : Array TypeId) (ty : TypeId) (a b : Value) : Builtin.min_ ats ty #[a, b] = (Builtin.min2 a b >>= fun s => pure s) := by simp only [Builtin.min_, List.foldlM_cons, List.foldlM_nil]
theorem max_three (ats : Array TypeId) (ty : TypeId) (a b c : Value) : Builtin.max_ ats ty #[a, b, c] = (Builtin.max2 a b >>= fun s => Builtin.max2 s c >>= fun s => pure s) := by simp only [Builtin.max_, List.foldlM_cons, List.foldlM_nil]
theorem min_three (ats : Array TypeId) (ty : TypeId) (a b c : Value) : Builtin.min_ ats ty #[a, b, c] = (Builtin.min2 a b >>= fun s => Builtin.min2 s c >>= fun s => pure s) := by simp only [Builtin.min_, List.foldlM_cons, List.foldlM_nil]
theorem max_four (ats : Array TypeId) (ty : TypeId) (a b c d : Value) : Builtin.max_ ats ty #[a, b, c, d] = (Builtin.max2 a b >>= fun s => Builtin.max2 s c >>= fun s => Builtin.max2 s d >>= fun s => pure s) := by simp only [Builtin.max_, List.foldlM_cons, List.foldlM_nil]
theorem min_four (ats : Array TypeId) (ty : TypeId) (a b c d : Value) : Builtin.min_ ats ty #[a, b, c, d] = (Builtin.min2 a b >>= fun s => Builtin.min2 s c >>= fun s => Builtin.min2 s d >>= fun s => pure s) := by simp only [Builtin.min_, List.foldlM_cons, List.foldlM_nil]
attribute [local go_sem] max2_int min2_int max_two min_two max_three min_three max_four min_four
theorem Zr5 {w : World} {g : Nat} {t : TypeId} {z0 z1 z2 z3 z4 z5 z6 z7 : Value} (h : w.heap[g]? = some (.cells #[z0,z1,z2,z3,z4,z5,z6,z7] t (0,0))) (a0 a1 a2 a3 a4 a5 a6 a7 : Value) :
    ((((((((w.setCell ⟨g,0,none⟩ a0).setCell ⟨g,1,none⟩ a1).setCell ⟨g,2,none⟩ a2).setCell ⟨g,3,none⟩ a3).setCell ⟨g,4,none⟩ a4).setCell ⟨g,5,none⟩ a5).setCell ⟨g,6,none⟩ a6).setCell ⟨g,7,none⟩ a7).heap[g]? = some (.cells #[a0,a1,a2,a3,a4,a5,a6,a7] t (0,0)) := by
  refine Zo (cs := #[a0,a1,a2,a3,a4,a5,a6,z7]) ?_ 7 _ rfl
  refine Zo (cs := #[a0,a1,a2,a3,a4,a5,z6,z7]) ?_ 6 _ rfl
  refine Zo (cs := #[a0,a1,a2,a3,a4,z5,z6,z7]) ?_ 5 _ rfl
  refine Zo (cs := #[a0,a1,a2,a3,z4,z5,z6,z7]) ?_ 4 _ rfl
  refine Zo (cs := #[a0,a1,a2,z3,z4,z5,z6,z7]) ?_ 3 _ rfl
  refine Zo (cs := #[a0,a1,z2,z3,z4,z5,z6,z7]) ?_ 2 _ rfl
  refine Zo (cs := #[a0,z1,z2,z3,z4,z5,z6,z7]) ?_ 1 _ rfl
  exact Zo h 0 _ rfl
theorem Zfs {B : Nat} {w W : World} {g : Nat} (h : Below B w W) (hg : B ≤ g) (a0 a1 a2 a3 a4 a5 a6 a7 : Value) :
    Below B w ((((((((W.setCell ⟨g,0,none⟩ a0).setCell ⟨g,1,none⟩ a1).setCell ⟨g,2,none⟩ a2).setCell ⟨g,3,none⟩ a3).setCell ⟨g,4,none⟩ a4).setCell ⟨g,5,none⟩ a5).setCell ⟨g,6,none⟩ a6).setCell ⟨g,7,none⟩ a7) :=
  (((((((h.setCell (p := ⟨g,0,none⟩) hg a0).setCell (p := ⟨g,1,none⟩) hg a1).setCell (p := ⟨g,2,none⟩) hg a2).setCell (p := ⟨g,3,none⟩) hg a3).setCell (p := ⟨g,4,none⟩) hg a4).setCell (p := ⟨g,5,none⟩) hg a5).setCell (p := ⟨g,6,none⟩) hg a6).setCell (p := ⟨g,7,none⟩) hg a7
def Ze8 (T : ByteArray → ByteArray) (ps : List ByteArray) : List UInt8 := ps.flatMap fun p => (T p).data.toList
def jl (P : Xx → List ByteArray) (T : ByteArray → ByteArray) (l : List Xx) : List UInt8 := l.flatMap fun s => Ze8 T (P s)
theorem Zr6 (s : ByteArray) : Lib.strCells s = Lib.byteCells s.data.toList := rfl
theorem Zs5 (a b : List UInt8) : Lib.byteCells (a ++ b) = Lib.byteCells a ++ Lib.byteCells b := by simp [Lib.byteCells]
theorem Zs6 (a : List UInt8) : (Lib.byteCells a).length = a.length := by simp [Lib.byteCells]
def Jf2 (r0 : List Int) (r1 : Int) (w : World) (e : Ending) (w' : World) : Prop :=
  ∃ v,e = .returned (.tuple #[v,.int .i64 r1]) ∧ Kd.V (Kd.int .u8) 5 w' w.heap.size (fun k_ => w.heap.size ≤ k_) v r0 ∧ Below w.heap.size w w'
theorem Jkt {W W1 : World} {base g c : Nat} {L : List UInt8} (hg : base ≤ g) (hlt : g < W.heap.size) (hc : L.length ≤ c) (hm : L.length ≤ 9223372036854775807) (hcell : ∀ (j : Nat),j < L.length → W.cell? ⟨g,j,none⟩ = some (.int .u8 (L.getD j 0).toNat)) (e : Nat) :
    Kd.V (Kd.int .u8) e W base (fun k_ => base ≤ k_) (.slice (some ⟨g,0,none⟩) L.length c) (L.map fun c => (c.toNat : Int)) := by
  refine ⟨some ⟨g,0,none⟩,c,by rw [List.length_map],by rw [List.length_map];exact hc,fun W' hW => ?_⟩
  refine ⟨rfl,by rw [List.length_map];exact hm,fun hn => ⟨_,rfl,fun j p hp => ?_⟩⟩
  rw [List.getElem?_map] at hp
  obtain ⟨b,hb,rfl⟩ := Option.map_eq_some_iff.1 hp
  have hj : j < L.length := (List.getElem?_eq_some_iff.1 hb).1
  refine ⟨[.int .u8 b.toNat],rfl,rfl,fun i u hu => ?_⟩
  obtain ⟨rfl,rfl⟩ : i = 0 ∧ u = .int .u8 b.toNat := by
    cases i with
    | zero => simpa using hu.symm
    | succ i => simp at hu
  have h1 := hcell j hj
  have h2 : W'.cell? ⟨g,j,none⟩ = W.cell? ⟨g,j,none⟩ := World.cell?_of_block (hW g hg hlt)
  rw [show j * (Kd.int IntKind.u8).sz + 0 = j from by show j * 1 + 0 = j;omega,add_plain,h2,h1]
  have : L.getD j 0 = b := by rw [List.getD_eq_getElem?_getD,hb];rfl
  rw [this]
set_option maxHeartbeats 4000000 in
set_option maxRecDepth 100000 in
theorem Z1m (A : Option Addr) (c : Nat) (l : List Xx) (w : World) (hn : 4096 < l.length) (hm : l.length ≤ 9223372036854775807) :
    Calls Tryz.prog 14 #[.slice A l.length c] w (Jf2 [] 4 w) := by
  have n1 : decide ((4096 : Int) < (l.length : Int)) = true := decide_eq_true (by omega)
  go_enter Tryz.func14,Tryz.ntmps14
  go_wp2
  go_ret2
  exact ⟨_,rfl,Kd.Jdp _ _ _ _ _,Below.refl _ _⟩
theorem Jcf (s : ByteArray) : s.size = s.data.toList.length := Lib.size_eq s
theorem row_of {W : World} {base : Nat} {v : Value} {xs : List ByteArray} (h : Kd.R Kd.string 9 W base (fun _ => True) v xs) (hn : 0 < xs.length) :
    ∃ g cap cur,v = .slice (some ⟨g,0,none⟩) xs.length cap ∧ W.heap[g]? = some (.cells cur 9 (0,0)) ∧ xs.length ≤ cap ∧ base ≤ g ∧ ∀ (j : Nat) (h : j < xs.length),cur[j]? = some (.string xs[j]) := by
  obtain ⟨A,c,rfl⟩ := Kd.Dw h
  have ho := Kd.Jc9 h
  obtain ⟨-,h2⟩ := ho
  rcases h2 with ⟨_,h0⟩ | ⟨g,cap,cur,hv,hb,hg,hc,_,_,ht⟩
  · omega
  · refine ⟨g,cap,cur,hv,hg,hc,hb,fun j hj => ?_⟩
    rw [Nat.mul_one] at ht
    have := congrArg (·[j]?) ht
    simp only [List.getElem?_take,hj,if_true,encs,List.getElem?_map] at this
    rw [List.getElem?_eq_getElem hj] at this
    rw [← Array.getElem?_toList]
    exact this
theorem Jcg (T : ByteArray → ByteArray) (ps : List ByteArray) (j : Nat) (h : j < ps.length) : Ze8 T (ps.take (j + 1)) = Ze8 T (ps.take j) ++ (T ps[j]).data.toList := by
  unfold Ze8
  rw [List.take_succ_eq_append_getElem h,List.flatMap_append,List.flatMap_singleton]
theorem Zt3 (P : Xx → List ByteArray) (T : ByteArray → ByteArray) (l : List Xx) (i : Nat) (h : i < l.length) : jl P T (l.take (i + 1)) = jl P T (l.take i) ++ Ze8 T (P l[i]) := by
  unfold jl
  rw [List.take_succ_eq_append_getElem h,List.flatMap_append,List.flatMap_singleton]
theorem Jku (T : ByteArray → ByteArray) (ps : List ByteArray) (j : Nat) : (Ze8 T (ps.take j)).length ≤ (Ze8 T ps).length := by
  have : Ze8 T ps = Ze8 T (ps.take j) ++ Ze8 T (ps.drop j) := by
    unfold Ze8
    rw [← List.flatMap_append,List.take_append_drop]
  rw [this]
  simp
theorem Jkv (P : Xx → List ByteArray) (T : ByteArray → ByteArray) (l : List Xx) (i : Nat) : (jl P T (l.take i)).length ≤ (jl P T l).length := by
  have : jl P T l = jl P T (l.take i) ++ jl P T (l.drop i) := by
    unfold jl
    rw [← List.flatMap_append,List.take_append_drop]
  rw [this]
  simp
theorem Jp9 (P : Xx → List ByteArray) (T : ByteArray → ByteArray) (l : List Xx) (i j : Nat) (h : i < l.length) : (jl P T (l.take i)).length + (Ze8 T ((P l[i]).take j)).length ≤ (jl P T l).length := by
  have h1 := Jku T (P l[i]) j
  have h2 := Jkv P T l (i + 1)
  rw [Zt3 P T l i h,List.length_append] at h2
  omega
def Jxe (T : ByteArray → ByteArray) (acc : List UInt8) (ps : List ByteArray) (w : World) (q : Nat) (cur : Array Value) (g j : Nat) (w' : World) : Prop :=
  g + j = ps.length ∧ w'.heap[q]? = some (.cells cur 9 (0,0)) ∧ BF w.heap.size w.heap.size (Lib.byteCells (acc ++ Ze8 T (ps.take j))) w' ∧ Below w.heap.size w w'
def Jqa (R : Xx → Bool) (P : Xx → List ByteArray) (T : ByteArray → ByteArray) (l : List Xx) (w : World) (g i : Nat) (w' : World) : Prop :=
  g + i = l.length ∧ (l.take i).all R = true ∧ BF w.heap.size w.heap.size (Lib.byteCells (jl P T (l.take i))) w' ∧ Below w.heap.size w w'
set_option maxHeartbeats 8000000 in
set_option maxRecDepth 100000 in
theorem Z38 (A : Option Addr) (c : Nat) (l : List Xx) (w : World) (hr : Kd.C k29 w A l.length l) (hc : l.length ≤ c) (hn : l.length ≤ 4096) (k : Nat) (R : Xx → Bool) (P : Xx → List ByteArray) (T : ByteArray → ByteArray)
    (hR : ∀ s ∈ l,Zk.f k s.f0 s.f1 s.f2 s.f3 s.f4 s.f5 s.f6 s.f7 = some (R s))
    (hP : ∀ s ∈ l,R s = true → Z9.f k s.f0 s.f1 s.f2 s.f3 s.f4 s.f5 s.f6 s.f7 = some (P s) ∧ 0 < (P s).length ∧ (P s).length ≤ 1000000)
    (hT : ∀ s ∈ l,R s = true → ∀ p ∈ P s,H5.f p = some (T p))
    (hz : (jl P T l).length ≤ 1000000) (HT : Dt w) (HP : Yg w) (HE : Qs w)
    (r0 : List Int) (r1 : Int) (hyes : l.all R = true → r0 = (jl P T l).map (fun c => (c.toNat : Int)) ∧ r1 = 0) (hno : l.all R = false → r0 = [] ∧ r1 = 1) :
    Calls Tryz.prog 14 #[.slice A l.length c] w (Jf2 r0 r1 w) := by
  have n1 : decide ((4096 : Int) < (l.length : Int)) = false := decide_eq_false (by omega)
  have n2 : (l.length : Int) ≤ 4096 := by omega
  have HR := Lib.hid hR
  have HPP := Lib.hid hP
  have HTT := Lib.hid hT
  have HZ := Lib.hid hz
  have HC := Lib.hid hr
  have HYES := Lib.hid hyes
  have HNO := Lib.hid hno
  clear hR hP hT hz hr hyes hno
  go_enter Tryz.func14,Tryz.ntmps14
  go_wp2
  go_loopg [14] l.length (fun g v14 w' => ∃ i : Nat,v14 = .int .i64 i ∧ Jqa R P T l w g i w')
  case atStart => exact ⟨0,rfl,by omega,by simp,BF.new w,Z4 (Below.refl _ _) _⟩
  case round =>
    obtain ⟨i,rfl,hg,hall,hb0,hb1⟩ := hrel
    by_cases hi : i < l.length
    · have hx : Ze l (i : Int) = l[i] := by simp [Ze,List.getD,hi]
      have hmem : l[i] ∈ l := List.getElem_mem hi
      obtain ⟨ad,A4,c4,A7,c7,rfl,x0,x1,x2,x3,x4,x5,x6,x7,l4,i4,l7,i7⟩ := jb HC.out (i : Int) (by omega) (by omega)
      simp only [Int.toNat_natCast] at x0 x1 x2 x3 x4 x5 x6 x7
      rw [hx] at x0 x1 x2 x3 x4 x5 x6 x7 l4 i4 l7 i7
      replace x0 := (hb1.cell (World.block_lt_of_cell? w _ x0)).trans x0
      replace x1 := (hb1.cell (World.block_lt_of_cell? w _ x1)).trans x1
      replace x2 := (hb1.cell (World.block_lt_of_cell? w _ x2)).trans x2
      replace x3 := (hb1.cell (World.block_lt_of_cell? w _ x3)).trans x3
      replace x4 := (hb1.cell (World.block_lt_of_cell? w _ x4)).trans x4
      replace x5 := (hb1.cell (World.block_lt_of_cell? w _ x5)).trans x5
      replace x6 := (hb1.cell (World.block_lt_of_cell? w _ x6)).trans x6
      replace x7 := (hb1.cell (World.block_lt_of_cell? w _ x7)).trans x7
      have I4 := Lib.hid i4
      have I7 := Lib.hid i7
      have L4 := Lib.hid l4
      have L7 := Lib.hid l7
      have HX := Lib.hid hx
      have HG := Lib.hid hg
      have HALL := Lib.hid hall
      have HB0 := Lib.hid hb0
      have HB1 := Lib.hid hb1
      have HI := Lib.hid hi
      have HM := Lib.hid hmem
      clear i4 i7 l4 l7 hx hg hall hb0 hb1 hmem
      have q0 : decide ((i : Int) < (l.length : Int)) = true := decide_eq_true (by omega)
      have q1 : (0 : Int) ≤ (i : Int) := by omega
      have q2 : (i : Int) < (l.length : Int) := by omega
      have hx2 : l[i] = l[i] := rfl
      generalize hx3 : l[i] = x at *
      have HX2 := Lib.hid hx3
      clear hx2 hx3
      go_upto_region 7 with (first | ((with_reducible refine Jg (N := 6) rfl ?_);(try (refine Jr (by rfl) ?_;dsimp only));refine Je ?hg (N := 6) ?hd (cs := #[.int .i64 0,.string (⟨#[]⟩ : ByteArray),.string (⟨#[]⟩ : ByteArray),.bool false,.slice none 0 0,.string (⟨#[]⟩ : ByteArray),.string (⟨#[]⟩ : ByteArray),.slice none 0 0]) (t := 29) ?hr ?_;(case hd => rfl);(case hg => rfl);(case hr => first | (go_simp;done) | (go_simp;rfl));intro gb hg W1 hbox hb;have hfz0 := Zj hbox 0;have hfz1 := Zj hbox 1;have hfz2 := Zj hbox 2;have hfz3 := Zj hbox 3;have hfz4 := Zj hbox 4;have hfz5 := Zj hbox 5;have hfz6 := Zj hbox 6;have hfz7 := Zj hbox 7;have hc0 := Zd hbox 0;have hc1 := Zd hbox 1;have hc2 := Zd hbox 2;have hc3 := Zd hbox 3;have hc4 := Zd hbox 4;have hc5 := Zd hbox 5;have hc6 := Zd hbox 6;have hc7 := Zd hbox 7;have HBX := Lib.hid hbox;have HBB := Lib.hid hb;have HGB := Lib.hid hg;clear hbox hb hg))
      have hgb : gb = wr.heap.size := HGB.out
      have BK := Zr5 HBX.out (.int .i64 x.f0) (.string x.f1) (.string x.f2) (.bool x.f3) (.slice A4 x.f4.length c4) (.string x.f5) (.string x.f6) (.slice A7 x.f7.length c7)
      have HS := Zfs HBB.out (by omega : wr.heap.size ≤ gb) (.int .i64 x.f0) (.string x.f1) (.string x.f2) (.bool x.f3) (.slice A4 x.f4.length c4) (.string x.f5) (.string x.f6) (.slice A7 x.f7.length c7)
      generalize ((((((((W1.setCell ⟨gb,0,none⟩ (.int .i64 x.f0)).setCell ⟨gb,1,none⟩ (.string x.f1)).setCell ⟨gb,2,none⟩ (.string x.f2)).setCell ⟨gb,3,none⟩ (.bool x.f3)).setCell ⟨gb,4,none⟩ (.slice A4 x.f4.length c4)).setCell ⟨gb,5,none⟩ (.string x.f5)).setCell ⟨gb,6,none⟩ (.string x.f6)).setCell ⟨gb,7,none⟩ (.slice A7 x.f7.length c7)) = W2 at BK HS ⊢
      have hF2 := BF.below HB0.out HS
      have hB2 := Zm HB1.out HS
      clear hgb hfz0 hfz1 hfz2 hfz3 hfz4 hfz5 hfz6 hfz7 hc0 hc1 hc2 hc3 hc4 hc5 hc6 hc7 HBX HBB HGB HS x0 x1 x2 x3 x4 x5 x6 x7
      have y0 := Zd BK 0
      have y1 := Zd BK 1
      have y2 := Zd BK 2
      have y3 := Zd BK 3
      have y4 := Zd BK 4
      have y5 := Zd BK 5
      have y6 := Zd BK 6
      have y7 := Zd BK 7
      have cR := Zk.calls k x.f0 x.f1 x.f2 x.f3 A4 c4 x.f4 x.f5 x.f6 A7 c7 x.f7 (R x) W2 (Kd.Vl I4.out hB2) L4.out (Kd.Vl I7.out hB2) L7.out (HR.out x HM.out) (Dt.step HT hB2) (Yg.step HP hB2) (Qs.step HE hB2)
      have BK2 := Lib.hid BK
      have HF2 := Lib.hid hF2
      have HB2 := Lib.hid hB2
      clear BK hF2 hB2
      by_cases hRx : R x = true
      · rw [hRx] at cR
        go_upto_region 9 with ((go_at_call 11;refine cR.mono ?_;rintro e W3 ⟨rfl,b3⟩;have BK3 := Zw BK2.out b3;have z0 := Zd BK3 0;have z1 := Zd BK3 1;have z2 := Zd BK3 2;have z3 := Zd BK3 3;have z4 := Zd BK3 4;have z5 := Zd BK3 5;have z6 := Zd BK3 6;have z7 := Zd BK3 7;have HB3 := Lib.hid (Zm HB2.out b3);have HF3 := Lib.hid (BF.below HF2.out b3);clear b3 BK3))
        clear cR y0 y1 y2 y3 y4 y5 y6 y7 BK2 HF2 HB2
        obtain ⟨hp1,hp2,hp3⟩ := HPP.out x HM.out hRx
        have cP := Z9.calls k x.f0 x.f1 x.f2 x.f3 A4 c4 x.f4 x.f5 x.f6 A7 c7 x.f7 (P x) W3 (Kd.Vl I4.out HB3.out) L4.out (Kd.Vl I7.out HB3.out) L7.out hp1 (Yg.step HP HB3.out)
        clear hp1
        have hp4 : ((P x).length : Int) ≤ 1000000 := by omega
        go_wp2_with ((go_at_call 21;refine cP.mono ?_;rintro e W4 ⟨v0,rfl,ho,b4⟩;obtain ⟨q,cap,cur,rfl,hq,hqc,hqb,hqx⟩ := row_of ho hp2;have HQ := Lib.hid hq;have HQX := Lib.hid hqx;have HB4 := Lib.hid (Zm HB3.out b4);have HF4 := Lib.hid (BF.below HF3.out b4);clear b4 hq hqx ho))
        clear cP z0 z1 z2 z3 z4 z5 z6 z7
        have hqne : q ≠ w.heap.size := by have := BF.lt HF3.out;omega
        obtain ⟨g1,hgg⟩ : ∃ g1,gk = g1 + 1 := ⟨gk - 1,by have := HG.out;have := HI.out;omega⟩
        subst hgg
        go_loopg [24] (P x).length (fun g2 v24 w' => ∃ j : Nat,v24 = .int .i64 j ∧ Jxe T (jl P T (l.take i)) (P x) w q cur g2 j w')
        case atStart => exact ⟨0,rfl,by omega,HQ.out,by simpa [Ze8] using HF4.out,HB4.out⟩
        case round =>
          obtain ⟨j,rfl,hg2,hq2,hf2,hb2⟩ := hrel
          by_cases hj : j < (P x).length
          · have hc8 : wr.cell? ⟨q,j,none⟩ = some (.string (P x)[j]) := (Zd hq2 j).trans (HQX.out j hj)
            have cT := H5.calls (P x)[j] (T (P x)[j]) wr (HTT.out x HM.out hRx _ (List.getElem_mem hj)) (Yg.step HP hb2)
            have hsz : (jl P T (l.take i)).length + (Ze8 T ((P x).take (j + 1))).length ≤ 1000000 := by
              have h1 := Jp9 P T l i (j + 1) HI.out
              have h2 : l[i]'HI.out = x := HX2.out
              rw [h2] at h1
              exact Nat.le_trans h1 HZ.out
            have hsn := Jcg T (P x) j hj
            rw [hsn,List.length_append] at hsz
            generalize (P x)[j] = p at *
            have HSN := Lib.hid hsn
            have HJ := Lib.hid hj
            have HG2 := Lib.hid hg2
            have HSZ := Lib.hid hsz
            have HQ2 := Lib.hid hq2
            have HF5 := Lib.hid hf2
            have HB5 := Lib.hid hb2
            have j0 : decide ((j : Int) < ((P x).length : Int)) = true := decide_eq_true (by omega)
            have j1 : (0 : Int) ≤ (j : Int) := by omega
            have j2 : (j : Int) < ((P x).length : Int) := by omega
            clear hsn hj hg2 hsz hq2 hf2 hb2
            go_wp2_with (first
              | (go_at_call 23;refine cT.mono ?_;rintro e W5 ⟨rfl,b5⟩;have HQ3 := Lib.hid (Zw HQ2.out b5);have HF6 := Lib.hid (BF.below HF5.out b5);have HB6 := Lib.hid (Zm HB5.out b5);clear b5)
              | (go_at_call 22;refine (Zmp w.heap.size w.heap.size _ (T p) _ HF6.out (by have := HSZ.out;rw [Zs6,List.length_append,Jcf];omega) HB6.out.size).mono ?_;rintro e W6 ⟨rfl,h6,b6,k6⟩;have HQ4 := Lib.hid (Z37 k6 HQ3.out hqne (by decide));have HF7 := Lib.hid h6;have HB7 := Lib.hid (HB6.out.trans (b6.mono (Nat.le_refl _)));clear h6 b6 k6))
            obtain ⟨k2,hk2⟩ : ∃ k2,gk = k2 + 1 := ⟨gk - 1,by have := HG2.out;have := HJ.out;omega⟩
            subst hk2
            go_roundg k2
            case measure => omega
            case rel =>
              refine ⟨j + 1,by go_num,by have := HG2.out;omega,HQ4.out,?_,HB7.out⟩
              rw [HSN.out,← List.append_assoc,Zs5,← Zr6]
              exact .inr HF7.out
          · have hjn : j = (P x).length := by omega
            subst hjn
            have HF5 := Lib.hid hf2
            have HB5 := Lib.hid hb2
            clear hg2 hq2 hf2 hb2 hj
            go_wp2
            go_roundg g1
            case measure => omega
            case rel =>
              have hi := HI.out
              have h2 : l[i]'hi = x := HX2.out
              refine ⟨i + 1,by go_num,by have := HG.out;omega,?_,?_,HB5.out⟩
              · rw [List.take_succ_eq_append_getElem hi,List.all_append,HALL.out,h2]
                simpa using hRx
              · rw [Zt3 P T l i hi,h2]
                have := HF5.out
                rw [List.take_length] at this
                exact this
      · have hRf : R x = false := by simpa using hRx
        rw [hRf] at cR
        obtain ⟨rfl,rfl⟩ := HNO.out (List.all_eq_false.2 ⟨x,HM.out,by rw [hRf];decide⟩)
        go_wp2_with ((go_at_call 11;refine cR.mono ?_;rintro e W3 ⟨rfl,b3⟩;have HB3 := Lib.hid (Zm HB2.out b3);clear b3))
        go_ret2
        exact ⟨_,rfl,Kd.Jdp _ _ _ _ _,HB3.out⟩
    · have hin : i = l.length := by omega
      subst hin
      rw [List.take_length] at hall hb0
      obtain ⟨hr0,rfl⟩ := HYES.out hall
      have HR0 := Lib.hid hr0
      have HF5 := Lib.hid hb0
      have HB5 := Lib.hid hb1
      have HZL := Lib.hid HZ.out
      have hcv := fun w => Lib.run_convert_string_bytes (P := Tryz.prog) w 9 32 5 ⟨(jl P T l).toArray⟩ Tryz.underlying9 Tryz.underlying32 Tryz.underlying5
      clear hg hall hb0 hb1 hr0 hi
      go_wp2_with (first
        | (go_at_call 24;refine (Tryz.Builder_String_any_f w.heap.size w.heap.size _ _ HF5.out HB5.out.size).mono ?_;rintro e W6 ⟨rfl,h6,b6⟩;have HB7 := Lib.hid (HB5.out.trans (b6.mono (Nat.le_refl _)));clear h6 b6))
      go_ret2
      have hsz : (⟨(jl P T l).toArray⟩ : ByteArray).size = (jl P T l).length := by simp [ByteArray.size]
      rw [HR0.out]
      refine ⟨_,rfl,Jkt (W1 := W6) (L := jl P T l) (HB7.out.size) ?_ (grownCap_ge _ _ _ _) (by have := HZL.out;omega) ?_ _,?_⟩
      · rw [Lib.bytesWorld_size]
        omega
      · intro j hj
        exact Lib.bytesWorld_cell W6 5 ⟨(jl P T l).toArray⟩ j (by rw [hsz];exact hj)
      · exact HB7.out.trans ((Lib.bytesWorld_below W6 5 _).mono HB7.out.size)
end Go.Proofs.YtdhpcofnddkcaaaGreatDoor.S
namespace Go.Proofs.YtdhpcofnddkcaaaGreatDoor.S
open Go.RowKit Go.Proofs.YtdhpcofnddkcaaaGreatDoor.G Go.Proofs.YtdhpcofnddkcaaaGreatDoorW.PrintWords Go.Proofs.YtdhpcofnddkcaaaGreatDoorW.PrintLast Go.Proofs.YtdhpcofnddkcaaaGreatDoorW.PrintMore
set_option linter.unusedVariables false
set_option linter.unusedSimpArgs false
attribute [local go_sem] max2_int min2_int max_two min_two max_three min_three max_four min_four
def Zp (w0 W : World) (g : Nat) (f0 : ByteArray) (f1 : Int) (f2 : Bool) : Prop := W.heap[g]? = some (.cells #[.string f0,.int .i64 f1,.bool f2] 71 (0,0)) ∧ w0.heap.size ≤ g
theorem Zp.grown {w0 W : World} {g : Nat} {f0 : ByteArray} {f1 : Int} {f2 : Bool} {W1 : World} {row : Option Nat} (h : Zp w0 W g f0 f1 f2) (hw : W.grownBy W1 row) (hne : some g ≠ row) : Zp w0 W1 g f0 f1 f2 := by
  obtain ⟨hb,hg⟩ := h
  exact ⟨Us hb hw hne,hg⟩
theorem Zp.kept {w0 W : World} {g : Nat} {f0 : ByteArray} {f1 : Int} {f2 : Bool} {W1 : World} {S : Nat → Prop} (h : Zp w0 W g f0 f1 f2) (hk : Kept W W1 S) (hne : ¬ S g) : Zp w0 W1 g f0 f1 f2 := by
  obtain ⟨hb,hg⟩ := h
  exact ⟨Jdl hb hk hne,hg⟩
theorem Zp.below {w0 W : World} {g : Nat} {f0 : ByteArray} {f1 : Int} {f2 : Bool} {W1 : World} (h : Zp w0 W g f0 f1 f2) (hw : Below W.heap.size W W1) : Zp w0 W1 g f0 f1 f2 := h.grown (Zbe hw none) (by simp)
theorem Zp.alloc {w0 W : World} {g : Nat} {f0 : ByteArray} {f1 : Int} {f2 : Bool} (h : Zp w0 W g f0 f1 f2) (o : Obj) : Zp w0 (W.alloc o) g f0 f1 f2 := h.below (Z4 (Below.refl _ _) o)
theorem Zp.drewN {w0 W : World} {g : Nat} {f0 : ByteArray} {f1 : Int} {f2 : Bool} (h : Zp w0 W g f0 f1 f2) (m : Nat) : Zp w0 (W.drewN m) g f0 f1 f2 := h
theorem Zp.drew {w0 W : World} {g : Nat} {f0 : ByteArray} {f1 : Int} {f2 : Bool} (h : Zp w0 W g f0 f1 f2) : Zp w0 W.drew g f0 f1 f2 := h
theorem Zp.at_ {w0 W : World} {g : Nat} {f0 : ByteArray} {f1 : Int} {f2 : Bool} {w' : World} {m : Nat} (hq : W.drewN m = w') (h : Zp w0 W g f0 f1 f2) : Zp w0 w' g f0 f1 f2 := by subst hq;exact Zp.drewN h m
theorem Zp.apart {w0 W : World} {g : Nat} {f0 : ByteArray} {f1 : Int} {f2 : Bool} {α : Type} {d : Kd α} {e : Nat} {base : Nat} {ok : Nat → Prop} {v : Value} {xs : List α} (h : Zp w0 W g f0 f1 f2) (ho : d.R e W base ok v xs) (ht : ∀ q,q ∈ e :: d.E → q ≠ 71) : d.R e W base (fun k => ok k ∧ k ≠ g) v xs := by
  obtain ⟨hb,hg⟩ := h
  exact Kd.jy ho hb ht
theorem Zp.own_ne {w0 W : World} {g : Nat} {f0 : ByteArray} {f1 : Int} {f2 : Bool} {α : Type} {d : Kd α} {e : Nat} {base : Nat} {ok : Nat → Prop} {v : Value} {xs : List α} (h : Zp w0 W g f0 f1 f2) (ho : d.R e W base ok v xs) (ht : e ≠ 71) : some g ≠ v.ownBlock := by
  obtain ⟨hb,hg⟩ := h
  exact Kd.Zpt ho hb ht
theorem Zp.Jkw {w0 W : World} {g : Nat} {f0 : ByteArray} {f1 : Int} {f2 : Bool} {α : Type} {d : Kd α} {e : Nat} {base : Nat} {ok : Nat → Prop} {v : Value} {xs : List α} (h : Zp w0 W g f0 f1 f2) (ho : d.S e W base ok v xs) (ht : e ≠ 71) : some g ≠ v.ownBlock := by
  obtain ⟨hb,hg⟩ := h
  exact Kd.Vav ho hb ht
theorem Zp.lt {w0 W : World} {g : Nat} {f0 : ByteArray} {f1 : Int} {f2 : Bool} (h : Zp w0 W g f0 f1 f2) : g < W.heap.size := by
  obtain ⟨hb,hg⟩ := h
  exact Y3 hb
theorem Zp.ge {w0 W : World} {g : Nat} {f0 : ByteArray} {f1 : Int} {f2 : Bool} (h : Zp w0 W g f0 f1 f2) : w0.heap.size ≤ g := by
  obtain ⟨hb,hg⟩ := h
  exact hg
theorem Zp.far {w0 W : World} {g : Nat} {f0 : ByteArray} {f1 : Int} {f2 : Bool} {p : Addr} (h : Zp w0 W g f0 f1 f2) (hne : g ≠ p.block) (u : Value) : Zp w0 (W.setCell p u) g f0 f1 f2 := by
  obtain ⟨hb,hg⟩ := h
  exact ⟨Jl hb hne u,hg⟩
theorem Xg {W : World} {g : Nat} {f0 : ByteArray} {f1 : Int} {f2 : Bool} (h : W.heap[g]? = some (.cells #[.string f0,.int .i64 f1,.bool f2] 71 (0,0))) : W.cell? ⟨g,0,none⟩ = some (.string f0) := (Zd h 0).trans rfl
theorem Zp.Y9 {w0 W : World} {g : Nat} {f0 : ByteArray} {f1 : Int} {f2 : Bool} (h : Zp w0 W g f0 f1 f2) (x : ByteArray) : Zp w0 (W.setCell ⟨g,0,none⟩ (.string x)) g x f1 f2 := by
  obtain ⟨hb,hg⟩ := h
  exact ⟨by simpa using Zmr hb 0 (.string x),hg⟩
theorem Xh {W : World} {g : Nat} {f0 : ByteArray} {f1 : Int} {f2 : Bool} (h : W.heap[g]? = some (.cells #[.string f0,.int .i64 f1,.bool f2] 71 (0,0))) : W.cell? ⟨g,1,none⟩ = some (.int .i64 f1) := (Zd h 1).trans rfl
theorem Zp.Y6 {w0 W : World} {g : Nat} {f0 : ByteArray} {f1 : Int} {f2 : Bool} (h : Zp w0 W g f0 f1 f2) (x : Int) : Zp w0 (W.setCell ⟨g,1,none⟩ (.int .i64 x)) g f0 x f2 := by
  obtain ⟨hb,hg⟩ := h
  exact ⟨by simpa using Zmr hb 1 (.int .i64 x),hg⟩
theorem Xi {W : World} {g : Nat} {f0 : ByteArray} {f1 : Int} {f2 : Bool} (h : W.heap[g]? = some (.cells #[.string f0,.int .i64 f1,.bool f2] 71 (0,0))) : W.cell? ⟨g,2,none⟩ = some (.bool f2) := (Zd h 2).trans rfl
theorem Zp.Y7 {w0 W : World} {g : Nat} {f0 : ByteArray} {f1 : Int} {f2 : Bool} (h : Zp w0 W g f0 f1 f2) (x : Bool) : Zp w0 (W.setCell ⟨g,2,none⟩ (.bool x)) g f0 f1 x := by
  obtain ⟨hb,hg⟩ := h
  exact ⟨by simpa using Zmr hb 2 (.bool x),hg⟩
theorem Zp.new (w0 W : World) (f0 : ByteArray) (f1 : Int) (f2 : Bool) (hB : Below w0.heap.size w0 W) : Zp w0 (W.alloc (.cells #[.string f0,.int .i64 f1,.bool f2] 71)) W.heap.size f0 f1 f2 := ⟨by simpa using heap_alloc_new W _,hB.size⟩
end Go.Proofs.YtdhpcofnddkcaaaGreatDoor.S
namespace Go.Proofs.YtdhpcofnddkcaaaGreatDoor.S
open Go.RowKit Go.Proofs.YtdhpcofnddkcaaaGreatDoor.G Go.Proofs.YtdhpcofnddkcaaaGreatDoorW.PrintWords Go.Proofs.YtdhpcofnddkcaaaGreatDoorW.PrintLast Go.Proofs.YtdhpcofnddkcaaaGreatDoorW.PrintMore
set_option linter.unusedVariables false
set_option linter.unusedSimpArgs false
attribute [local go_sem] max2_int min2_int max_two min_two max_three min_three max_four min_four
theorem Jch (s p : ByteArray) (w : World) (hs : s.size < 4294967281) (h : Dt w) :
    Calls Tryz.prog 39 #[.string s,.string p] w fun e w' => e = .returned (.tuple #[.string ⟨(Lib.cut s.data.toList p.data.toList).1.toArray⟩,.string ⟨(Lib.cut s.data.toList p.data.toList).2.1.toArray⟩,.bool (Lib.cut s.data.toList p.data.toList).2.2]) ∧ ∃ n,w' = w.drewN n := by
  obtain ⟨m,hm⟩ := h
  exact Tryz.strings_Cut s p m w hs hm
def Zi3 (g : Nat) (r s : ByteArray) (a : Int) (no : Bool) (w0 w : World) (e : Ending) (w' : World) : Prop :=
  e = .returned (.string r) ∧ Zp w0 w' g s a no ∧ Below w0.heap.size w0 w' ∧ Ja w w' g none
set_option maxHeartbeats 4000000 in
set_option maxRecDepth 100000 in
theorem Jkx (g : Nat) (s D E : ByteArray) (a q : Nat) (no okk b : Bool) (v : Int) (w0 w : World) (hI : Zp w0 w g s (a : Int) no) (hB : Below w0.heap.size w0 w) (hs : s.size ≤ 1000000) (ha : a ≤ s.size)
    (hq : (if (a : Int) + 8 < (s.size : Int) then (a : Int) + 8 else (s.size : Int)) = (q : Int)) (q1 : (a : Int) ≤ q) (q2 : (q : Int) ≤ s.size)
    (cutC : ∀ n : Nat,Calls Tryz.prog 39 #[.string (s.extract a q),.string ⟨#[58]⟩] (w.drewN n) fun e w' => e = .returned (.tuple #[.string D,.string E,.bool okk]) ∧ ∃ m,w' = w.drewN m)
    (cntC : ∀ n : Nat,Calls Tryz.prog 48 #[.string D] (w.drewN n) fun e w' => e = .returned (.tuple #[.int .i64 v,.bool b]) ∧ Below w.heap.size w w')
    (hD : D.size ≤ 8)
    (hc : no = true ∨ (no = false ∧ okk = false) ∨ (no = false ∧ okk = true ∧ b = false) ∨ (no = false ∧ okk = true ∧ b = true ∧ 0 ≤ v ∧ v ≤ 262144 ∧ (s.size : Int) ≤ (a : Int) + D.size + 1 + v) ∨
      (no = false ∧ okk = true ∧ b = true ∧ 0 ≤ v ∧ v ≤ 262144 ∧ (a : Int) + D.size + 1 + v < s.size ∧ ∃ hlt : ((a : Int) + D.size + 1 + v).toNat < s.size,(((s[((a : Int) + D.size + 1 + v).toNat]'hlt).toNat : Int) != 44) = true)) :
    Calls Tryz.prog 35 #[.pointer (some ⟨g,0,none⟩)] w (Zi3 g ⟨#[]⟩ s a true w0 w) := by
  have g0 : w.cell? ⟨g,0,none⟩ = some (.string s) := Xg hI.1
  have g1 : w.cell? ⟨g,1,none⟩ = some (.int .i64 a) := Xh hI.1
  have g2 : w.cell? ⟨g,2,none⟩ = some (.bool no) := Xi hI.1
  have HI := Lib.hid hI
  have HB := Lib.hid hB
  clear hI hB
  have m1 : ((s.size : Int)) ≤ 1000000 := by omega
  have m2 : ((a : Int)) ≤ s.size := by omega
  have m3 : (0 : Int) ≤ (D.size : Int) := by omega
  have m4 : (D.size : Int) ≤ 8 := by omega
  have x1 : IntKind.i64.wrap ((a : Int) + 8) = (a : Int) + 8 := IntWalk.i64_in _ (by omega)
  rcases hc with rfl | ⟨rfl,rfl⟩ | ⟨rfl,rfl,rfl⟩ | ⟨rfl,rfl,rfl,v0,v1,v2⟩ | ⟨rfl,rfl,rfl,v0,v1,v2,hlt,hcc⟩
  all_goals
    go_enter Tryz.func35,Tryz.ntmps35
    go_wp2
    go_quiet ((go_at_call 39;exact cutC _))
    go_wp2_with ((go_at_call 48;refine (cntC _).mono ?_;rintro e w1 ⟨rfl,b1⟩;have hI1 := HI.out.below b1;have k0 := Xg hI1.1;have k1 := Xh hI1.1;have k2 := Xi hI1.1;have f0 := Zj hI1.1 0;have f1 := Zj hI1.1 1;have f2 := Zj hI1.1 2;have HI1 := Lib.hid hI1;clear hI1;have B1 := Lib.hid b1;clear b1))
    go_ret
    exact ⟨rfl,Zp.Y7 HI1.out true,Z8 (Zm HB.out B1.out) (Zp.ge HI.out),Ja.Za9 (Ja.of_below B1.out g none) _ _⟩
set_option maxHeartbeats 4000000 in
set_option maxRecDepth 100000 in
theorem Jf3 (g : Nat) (s D E : ByteArray) (a q : Nat) (v : Int) (w0 w : World) (hI : Zp w0 w g s (a : Int) false) (hB : Below w0.heap.size w0 w) (hs : s.size ≤ 1000000) (ha : a ≤ s.size)
    (hq : (if (a : Int) + 8 < (s.size : Int) then (a : Int) + 8 else (s.size : Int)) = (q : Int)) (q1 : (a : Int) ≤ q) (q2 : (q : Int) ≤ s.size)
    (cutC : ∀ n : Nat,Calls Tryz.prog 39 #[.string (s.extract a q),.string ⟨#[58]⟩] (w.drewN n) fun e w' => e = .returned (.tuple #[.string D,.string E,.bool true]) ∧ ∃ m,w' = w.drewN m)
    (cntC : ∀ n : Nat,Calls Tryz.prog 48 #[.string D] (w.drewN n) fun e w' => e = .returned (.tuple #[.int .i64 v,.bool true]) ∧ Below w.heap.size w w')
    (hD : D.size ≤ 8) (v0 : 0 ≤ v) (v1 : v ≤ 262144) (v2 : (a : Int) + D.size + 1 + v < s.size) (hlt : ((a : Int) + D.size + 1 + v).toNat < s.size) (hcc : (((s[((a : Int) + D.size + 1 + v).toNat]'hlt).toNat : Int) != 44) = false) :
    Calls Tryz.prog 35 #[.pointer (some ⟨g,0,none⟩)] w (Zi3 g (s.extract (a + D.size + 1) (a + D.size + 1 + v.toNat)) s ((a : Int) + D.size + 1 + v + 1) false w0 w) := by
  have g0 : w.cell? ⟨g,0,none⟩ = some (.string s) := Xg hI.1
  have g1 : w.cell? ⟨g,1,none⟩ = some (.int .i64 a) := Xh hI.1
  have g2 : w.cell? ⟨g,2,none⟩ = some (.bool false) := Xi hI.1
  have HI := Lib.hid hI
  have HB := Lib.hid hB
  clear hI hB
  have m1 : ((s.size : Int)) ≤ 1000000 := by omega
  have m2 : ((a : Int)) ≤ s.size := by omega
  have m3 : (0 : Int) ≤ (D.size : Int) := by omega
  have m4 : (D.size : Int) ≤ 8 := by omega
  have x1 : IntKind.i64.wrap ((a : Int) + 8) = (a : Int) + 8 := IntWalk.i64_in _ (by omega)
  go_enter Tryz.func35,Tryz.ntmps35
  go_wp2
  go_quiet ((go_at_call 39;exact cutC _))
  go_wp2_with ((go_at_call 48;refine (cntC _).mono ?_;rintro e w1 ⟨rfl,b1⟩;have hI1 := HI.out.below b1;have k0 := Xg hI1.1;have k1 := Xh hI1.1;have k2 := Xi hI1.1;have f0 := Zj hI1.1 0;have f1 := Zj hI1.1 1;have f2 := Zj hI1.1 2;have HI1 := Lib.hid hI1;clear hI1;have B1 := Lib.hid b1;clear b1))
  go_ret
  have e1 : ((a : Int) + D.size + 1 + v).toNat = a + D.size + 1 + v.toNat := by omega
  exact ⟨congrArg (fun k => Ending.returned (.string (s.extract (a + D.size + 1) k))) e1,Zp.Y6 HI1.out _,Z8 (Zm HB.out B1.out) (Zp.ge HI.out),Ja.Za9 (Ja.of_below B1.out g none) _ _⟩
theorem jm (s : ByteArray) : s.size = s.data.toList.length := Lib.size_eq s
theorem Z72 (s : ByteArray) (i : Nat) (h : i < s.size) (c : UInt8) : (((s[i]'h).toNat : Int) != c.toNat) = false ↔ s.data.toList[i]? = some c := by
  have e : s.data.toList[i]? = some (s[i]'h) := by
    rw [List.getElem?_eq_getElem (by simpa using h)]
    rfl
  rw [e,bne_eq_false_iff_eq,Option.some.injEq]
  constructor
  · intro h
    exact UInt8.toNat_inj.1 (by omega)
  · intro h
    rw [h]
theorem Zq.calls (g : Nat) (Yh : ByteArray) (Du : Int) (Dv : Bool) (r1 : ByteArray) (r2 : ByteArray) (r3 : Int) (r4 : Bool) (w0 w : World) (hI : Zp w0 w g Yh Du Dv) (hB : Below w0.heap.size w0 w) (h : Zq.f Yh Du Dv = some (r1,r2,r3,r4))
    (Gw : Dt w0 := by first | exact Gw | exact Dt.step Gw (by repeat (first | (with_reducible first | exact HB.out | apply Z4 | apply Zr | apply Zz | refine Z8 ?_ (Za.out (by assumption))) | exact HB.out)))
    (Ue : Yg w0 := by first | exact Ue | exact Yg.step Ue (by repeat (first | (with_reducible first | exact HB.out | apply Z4 | apply Zr | apply Zz | refine Z8 ?_ (Za.out (by assumption))) | exact HB.out)))
    (Hf : Qs w0 := by first | exact Hf | exact Qs.step Hf (by repeat (first | (with_reducible first | exact HB.out | apply Z4 | apply Zr | apply Zz | refine Z8 ?_ (Za.out (by assumption))) | exact HB.out))) :
    Calls Tryz.prog 35 #[.pointer (some ⟨g,0,none⟩)] w fun e w' => e = .returned (.string r1) ∧ Zp w0 w' g r2 r3 r4 ∧ Below w0.heap.size w0 w' ∧ Ja w w' g none := by
  show Calls Tryz.prog 35 #[.pointer (some ⟨g,0,none⟩)] w (Zi3 g r1 r2 r3 r4 w0 w)
  replace Gw := Dt.step Gw hB
  replace Ue := Yg.step Ue hB
  replace Hf := Qs.step Hf hB
  unfold Zq.f at h
  by_cases hs : Yh.size ≤ 1000000 ∧ 0 ≤ Du ∧ Du ≤ Yh.size
  · rw [if_pos hs] at h
    obtain ⟨s1,s2,s3⟩ := hs
    obtain ⟨a,rfl⟩ := Int.eq_ofNat_of_zero_le s2
    have ha : a ≤ Yh.size := by omega
    clear s2 s3
    obtain ⟨q,hq⟩ : ∃ q : Nat,q = min Yh.size (a + 8) := ⟨_,rfl⟩
    have q0 : (if (a : Int) + 8 < (Yh.size : Int) then (a : Int) + 8 else (Yh.size : Int)) = (q : Int) := by split <;> omega
    have q1 : (a : Int) ≤ q := by omega
    have q2 : (q : Int) ≤ Yh.size := by omega
    have hl : (Yh.extract a q).data.toList = ((Net.lb Yh).drop a).take 8 := by
      rw [Lib.extract_data]
      show ((Net.lb Yh).drop a).take (q - a) = _
      by_cases c : a + 8 ≤ Yh.size
      · rw [show q - a = 8 by omega]
      · have : ((Net.lb Yh).drop a).length ≤ 7 := by
          rw [List.length_drop]
          have := jm Yh
          show Yh.data.toList.length - a ≤ 7
          omega
        have hz : ((Net.lb Yh).drop a).length = q - a := by
          rw [List.length_drop]
          have := jm Yh
          show Yh.data.toList.length - a = _
          omega
        rw [List.take_of_length_le (by omega),List.take_of_length_le (by omega)]
    obtain ⟨E,hE⟩ : ∃ E : ByteArray,E = ⟨(Lib.cut (Yh.extract a q).data.toList [58]).2.1.toArray⟩ := ⟨_,rfl⟩
    obtain ⟨D,hD⟩ : ∃ D : ByteArray,D = ⟨(Lib.cut (Yh.extract a q).data.toList [58]).1.toArray⟩ := ⟨_,rfl⟩
    obtain ⟨k,hk⟩ : ∃ k : Bool,k = (Lib.cut (Yh.extract a q).data.toList [58]).2.2 := ⟨_,rfl⟩
    have hDl : D.data.toList = (Lib.cut (((Net.lb Yh).drop a).take 8) [58]).1 := by rw [hD,hl]
    have hkl : k = (Lib.cut (((Net.lb Yh).drop a).take 8) [58]).2.2 := by rw [hk,hl]
    have hDs : D.size = (Lib.cut (((Net.lb Yh).drop a).take 8) [58]).1.length := by rw [jm,hDl]
    have hD8 : D.size ≤ 8 := by
      rw [hDs]
      have h1 : (Lib.cut (((Net.lb Yh).drop a).take 8) [58]).1.length ≤ (((Net.lb Yh).drop a).take 8).length := by
        unfold Lib.cut
        split
        · simp only [List.length_take]
          omega
        · exact Nat.le_refl _
      have h2 : (((Net.lb Yh).drop a).take 8).length ≤ 8 := List.length_take_le _ _
      omega
    have cutC : ∀ n : Nat,Calls Tryz.prog 39 #[.string (Yh.extract a q),.string ⟨#[58]⟩] (w.drewN n) fun e w' => e = .returned (.tuple #[.string D,.string E,.bool k]) ∧ ∃ m,w' = w.drewN m := by
      intro n
      have hz : (Yh.extract a q).size < 4294967281 := by
        rw [jm,hl]
        have : (((Net.lb Yh).drop a).take 8).length ≤ 8 := List.length_take_le _ _
        omega
      have := Jch (Yh.extract a q) ⟨#[58]⟩ (w.drewN n) hz (Dt.step Gw (Zr (Below.refl _ _) n))
      rw [hD,hE,hk]
      exact Calls.quiet_of this
    clear hD hE hk
    obtain ⟨v,b,hv,hvb⟩ := Zkf D (by omega)
    have cntC : ∀ n : Nat,Calls Tryz.prog 48 #[.string D] (w.drewN n) fun e w' => e = .returned (.tuple #[.int .i64 v,.bool b]) ∧ Below w.heap.size w w' := by
      intro n
      exact (Xe.calls D v b (w.drewN n) hv (Yg.step Ue (Zr (Below.refl _ _) n)) (Qs.step Hf (Zr (Below.refl _ _) n))).mono fun e w' ⟨h1,h2⟩ => ⟨h1,Zm (Zr (Below.refl _ _) n) h2⟩
    rw [hDl] at hvb
    have NO := Jkx g Yh D E a q Dv k b v w0 w hI hB s1 ha q0 q1 q2 cutC cntC hD8
    cases Dv with
    | true =>
      rw [if_pos rfl] at h
      simp only [Option.some.injEq,Prod.mk.injEq] at h
      obtain ⟨rfl,rfl,rfl,rfl⟩ := h
      exact NO (Or.inl rfl)
    | false =>
      rw [if_neg (by decide)] at h
      have fin : (some ((⟨#[]⟩ : ByteArray),Yh,(a : Int),true) = some (r1,r2,r3,r4)) → Calls Tryz.prog 35 #[.pointer (some ⟨g,0,none⟩)] w (Zi3 g ⟨#[]⟩ Yh a true w0 w) → Calls Tryz.prog 35 #[.pointer (some ⟨g,0,none⟩)] w (Zi3 g r1 r2 r3 r4 w0 w) := by
        intro h c
        simp only [Option.some.injEq,Prod.mk.injEq] at h
        obtain ⟨rfl,rfl,rfl,rfl⟩ := h
        exact c
      unfold Net.Ph Net.rd at h
      rw [Int.toNat_natCast] at h
      cases hc : Net.cnt (Lib.cut (((Net.lb Yh).drop a).take 8) [58]).1 with
      | none =>
        rw [hc] at h hvb
        refine fin h (NO ?_)
        have hb : b = false := hvb
        cases k with
        | false => exact Or.inr (Or.inl ⟨rfl,rfl⟩)
        | true => exact Or.inr (Or.inr (Or.inl ⟨rfl,rfl,hb⟩))
      | some n =>
        rw [hc] at h hvb
        obtain ⟨hv1,hb⟩ : v = (n : Int) ∧ b = true := hvb
        subst hv1 hb
        have hn := (Net.zz hc).1
        rw [← hDs,← hkl] at h
        have hlen : ((Net.lb Yh).drop a).length = Yh.size - a := by
          rw [List.length_drop,jm]
        by_cases cc : k = true ∧ D.size + 1 + n < ((Net.lb Yh).drop a).length ∧ ((Net.lb Yh).drop a)[D.size + 1 + n]? = some 44
        · simp only [if_pos cc] at h
          obtain ⟨ck,c1,c2⟩ := cc
          subst ck
          simp only [Option.some.injEq,Prod.mk.injEq] at h
          obtain ⟨rfl,rfl,rfl,rfl⟩ := h
          rw [List.getElem?_drop] at c2
          have hj : ((a : Int) + D.size + 1 + n).toNat = a + (D.size + 1 + n) := by omega
          have hlt : ((a : Int) + D.size + 1 + n).toNat < Yh.size := by omega
          have YES := Jf3 g Yh D E a q n w0 w hI hB s1 ha q0 q1 q2 cutC cntC hD8 (by omega) (by omega) (by omega) hlt (by
            have := (Z72 Yh _ hlt 44).2 (by rw [hj];exact c2)
            exact this)
          have e1 : Yh.extract (a + D.size + 1) (a + D.size + 1 + (n : Int).toNat) = Net.bs ((((Net.lb Yh).drop a).drop (D.size + 1)).take n) := by
            rw [Lib.extract_eq,List.drop_drop,Int.toNat_natCast,show a + D.size + 1 + n - (a + D.size + 1) = n by omega,show a + (D.size + 1) = a + D.size + 1 by omega]
            rfl
          have e2 : (a : Int) + D.size + 1 + n + 1 = ((a + (D.size + 1 + n + 1) : Nat) : Int) := by omega
          rw [e1,e2] at YES
          exact YES
        · simp only [if_neg cc] at h
          refine fin h (NO ?_)
          cases k with
          | false => exact Or.inr (Or.inl ⟨rfl,rfl⟩)
          | true =>
            right;right;right
            by_cases c1 : (Yh.size : Int) ≤ (a : Int) + D.size + 1 + n
            · exact Or.inl ⟨rfl,rfl,rfl,by omega,by omega,c1⟩
            · refine Or.inr ⟨rfl,rfl,rfl,by omega,by omega,by omega,by omega,?_⟩
              have hj : ((a : Int) + D.size + 1 + n).toNat = a + (D.size + 1 + n) := by omega
              have hlt : ((a : Int) + D.size + 1 + n).toNat < Yh.size := by omega
              cases hx : (((Yh[((a : Int) + D.size + 1 + n).toNat]'hlt).toNat : Int) != 44) with
              | true => rfl
              | false =>
                exfalso
                have := (Z72 Yh _ hlt 44).1 hx
                rw [hj] at this
                exact cc ⟨rfl,by omega,by rw [List.getElem?_drop];exact this⟩
  · rw [if_neg hs] at h
    exact absurd h (by simp)
end Go.Proofs.YtdhpcofnddkcaaaGreatDoor.S
namespace Go.Proofs.YtdhpcofnddkcaaaGreatDoor.S
open Go.RowKit Go.Proofs.YtdhpcofnddkcaaaGreatDoor.G Go.Proofs.YtdhpcofnddkcaaaGreatDoorW.PrintWords Go.Proofs.YtdhpcofnddkcaaaGreatDoorW.PrintLast Go.Proofs.YtdhpcofnddkcaaaGreatDoorW.PrintMore
set_option linter.unusedVariables false
set_option linter.unusedSimpArgs false
attribute [local go_sem] max2_int min2_int max_two min_two max_three min_three max_four min_four
def Jv.f (Yh : ByteArray) (Du : Int) (Dv : Bool) : Option (Int × ByteArray × Int × Bool) := (Zq.f Yh Du Dv).bind fun M7 => ((Xe.f M7.1).bind fun Zl9 => (if Zl9.2 = true then (if M7.2.2.2 = true then (some (0,M7.2.1,M7.2.2.1,true)) else (some (Zl9.1,M7.2.1,M7.2.2.1,M7.2.2.2))) else (some (0,M7.2.1,M7.2.2.1,true))))
set_option maxHeartbeats 8000000 in
set_option maxRecDepth 100000 in
theorem Jv.calls (g : Nat) (Yh : ByteArray) (Du : Int) (Dv : Bool) (r1 : Int) (r2 : ByteArray) (r3 : Int) (r4 : Bool) (w0 w : World) (hI : Zp w0 w g Yh Du Dv) (hB : Below w0.heap.size w0 w) (h : Jv.f Yh Du Dv = some (r1,r2,r3,r4)) (Gw : Dt w0 := by first | exact Gw | exact Dt.step Gw (by repeat (first | (with_reducible first | exact HB.out | apply Z4 | apply Zr | apply Zz | refine Z8 ?_ (Za.out (by assumption))) | exact HB.out))) (Ue : Yg w0 := by first | exact Ue | exact Yg.step Ue (by repeat (first | (with_reducible first | exact HB.out | apply Z4 | apply Zr | apply Zz | refine Z8 ?_ (Za.out (by assumption))) | exact HB.out))) (Hf : Qs w0 := by first | exact Hf | exact Qs.step Hf (by repeat (first | (with_reducible first | exact HB.out | apply Z4 | apply Zr | apply Zz | refine Z8 ?_ (Za.out (by assumption))) | exact HB.out))) :
    Calls Tryz.prog 36 #[.pointer (some ⟨g,0,none⟩)] w fun e w' => e = .returned (.int .i64 r1) ∧ Zp w0 w' g r2 r3 r4 ∧ Below w0.heap.size w0 w' ∧ Ja w w' g none := by
  have HI0 := Za.mk hI
  have HK := Za.mk (Ja.refl w g none)
  have HL := Za.mk hB.size
  clear hI
  have HW0 := Za.mk hB.size
  have HB := Za.mk hB
  clear hB
  have H : ((Zq.f Yh Du Dv).bind fun M7 => ((Xe.f M7.1).bind fun Zl9 => (if Zl9.2 = true then (if M7.2.2.2 = true then (some (0,M7.2.1,M7.2.2.1,true)) else (some (Zl9.1,M7.2.1,M7.2.2.1,M7.2.2.2))) else (some (0,M7.2.1,M7.2.2.1,true))))) = some (r1,r2,r3,r4) := h
  clear h
  replace H := Option.bind_eq_some_iff.mp H
  obtain ⟨⟨Zs7,Zi4,Zi5,Z1n⟩,A20,H⟩ := H
  replace H : ((Xe.f Zs7).bind fun Zl9 => (if Zl9.2 = true then (if Z1n = true then (some (0,Zi4,Zi5,true)) else (some (Zl9.1,Zi4,Zi5,Z1n))) else (some (0,Zi4,Zi5,true)))) = some (r1,r2,r3,r4) := H
  have A2 := Za.mk A20
  clear A20
  replace H := Option.bind_eq_some_iff.mp H
  obtain ⟨⟨Jci,Jxf⟩,A30,H⟩ := H
  replace H : (if Jxf = true then (if Z1n = true then (some (0,Zi4,Zi5,true)) else (some (Jci,Zi4,Zi5,Z1n))) else (some (0,Zi4,Zi5,true))) = some (r1,r2,r3,r4) := H
  have A3 := Za.mk A30
  clear A30
  by_cases c4 : Jxf = true
  · subst c4
    have H1 : (if Z1n = true then (some (0,Zi4,Zi5,true)) else (some (Jci,Zi4,Zi5,Z1n))) = some (r1,r2,r3,r4) := by rw [if_pos rfl] at H;exact H
    clear H
    have H := H1
    clear H1
    by_cases c5 : Z1n = true
    · subst c5
      have H1 : (some (0,Zi4,Zi5,true)) = some (r1,r2,r3,r4) := by rw [if_pos rfl] at H;exact H
      clear H
      have H := H1
      clear H1
      simp only [Option.some.injEq,Prod.mk.injEq] at H
      obtain ⟨rfl,rfl,rfl,rfl⟩ := H
      go_enter Tryz.func36,Tryz.ntmps36
      go_wp2_with (first | ((with_reducible refine Z7 (f := 35) rfl ?_);refine Ju (some 7) rfl rfl Tryz.func35 (by kernel_rfl) rfl #[.pointer (some ⟨g,0,none⟩)] rfl (by (try simp only [List.map_toArray,List.map_cons,List.map_nil]);first | done | rfl | (simp only [List.length_drop,List.length_take];rfl)) ?_;(with_reducible refine (Zq.calls g Yh Du Dv Zs7 Zi4 Zi5 true w0 _ ?side1 ?side2 A2.out).mono ?_);(case side1 => repeat (first | (with_reducible first | exact HI0.out | apply Zp.alloc | apply Zp.drewN | apply Zp.drew | apply Zp.Y9 | apply Zp.Y6 | apply Zp.Y7) | exact HI0.out));(case side2 => repeat (first | (with_reducible first | exact HB.out | apply Z4 | apply Zr | apply Zz | refine Z8 ?_ (Zp.ge HI0.out)) | exact HB.out));rintro e w6 ⟨rfl,hi,hb,hk⟩;refine ⟨_,rfl,?_⟩;have Gt := Za.mk (Ja.trans (by repeat (first | (with_reducible first | exact HK.out | apply Ja.Za9 | apply Xp | apply X5 | apply Xq) | exact HK.out)) hk (.inl rfl));have Hy := Za.mk (hb);have n2_ := Za.mk (hi);clear HK;clear HB;clear HI0;have HK := Gt;have HB := Hy;have HI0 := n2_;clear Gt Hy n2_;(try clear hb);(try clear hb2);(try clear hk);(try clear hi)) | ((with_reducible refine Z7 (f := 48) rfl ?_);refine Ju (some 8) rfl rfl Tryz.func48 (by kernel_rfl) rfl #[.string Zs7] rfl (by (try simp only [List.map_toArray,List.map_cons,List.map_nil]);first | done | rfl | (simp only [List.length_drop,List.length_take];rfl)) ?_;(with_reducible refine (Xe.calls Zs7 Jci true _ A3.out).mono ?_);rintro e w7 ⟨rfl,hb⟩;refine ⟨_,rfl,?_⟩;have Gt := Za.mk (Zp.below (by repeat (first | (with_reducible first | exact HI0.out | apply Zp.alloc | apply Zp.drewN | apply Zp.drew | apply Zp.Y9 | apply Zp.Y6 | apply Zp.Y7) | exact HI0.out)) hb);have Hy := Za.mk (Ja.trans (by repeat (first | (with_reducible first | exact HK.out | apply Ja.Za9 | apply Xp | apply X5 | apply Xq) | exact HK.out)) (Ja.of_below hb g none) (.inl rfl));have n2_ := Za.mk (Zm (by repeat (first | (with_reducible first | exact HB.out | apply Z4 | apply Zr | apply Zz | refine Z8 ?_ (Zp.ge HI0.out)) | exact HB.out)) hb);clear HI0;clear HK;clear HB;have HI0 := Gt;have HK := Hy;have HB := n2_;clear Gt Hy n2_;(try clear hb);(try clear hb2);(try clear hk);(try clear hi);obtain ⟨HGz8,hgz8⟩ := HI0.out;have Jo8 := Xg HGz8;have Jo9 := Xh HGz8;have Jpa := Xi HGz8;have Jpb := Zj HGz8 0;have Jpc := Zj HGz8 1;have Jpd := Zj HGz8 2;clear HGz8 hgz8))
      go_ret
      exact ⟨by first | rfl | (simp [Vd,Ve] <;> rfl) | (simp [*,Vd,Ve] <;> rfl),by repeat (first | (with_reducible first | exact HI0.out | apply Zp.alloc | apply Zp.drewN | apply Zp.drew | apply Zp.Y9 | apply Zp.Y6 | apply Zp.Y7) | exact HI0.out),by repeat (first | (with_reducible first | exact HB.out | apply Z4 | apply Zr | apply Zz | refine Z8 ?_ (Zp.ge HI0.out)) | exact HB.out),by repeat (first | (with_reducible first | exact HK.out | apply Ja.Za9 | apply Xp | apply X5 | apply Xq) | exact HK.out)⟩
    · replace c5 := Bool.eq_false_iff.mpr c5
      subst c5
      have H1 : (some (Jci,Zi4,Zi5,false)) = some (r1,r2,r3,r4) := by rw [if_neg (show ¬ (false = true) by decide)] at H;exact H
      clear H
      have H := H1
      clear H1
      simp only [Option.some.injEq,Prod.mk.injEq] at H
      obtain ⟨rfl,rfl,rfl,rfl⟩ := H
      go_enter Tryz.func36,Tryz.ntmps36
      go_wp2_with (first | ((with_reducible refine Z7 (f := 35) rfl ?_);refine Ju (some 7) rfl rfl Tryz.func35 (by kernel_rfl) rfl #[.pointer (some ⟨g,0,none⟩)] rfl (by (try simp only [List.map_toArray,List.map_cons,List.map_nil]);first | done | rfl | (simp only [List.length_drop,List.length_take];rfl)) ?_;(with_reducible refine (Zq.calls g Yh Du Dv Zs7 Zi4 Zi5 false w0 _ ?side1 ?side2 A2.out).mono ?_);(case side1 => repeat (first | (with_reducible first | exact HI0.out | apply Zp.alloc | apply Zp.drewN | apply Zp.drew | apply Zp.Y9 | apply Zp.Y6 | apply Zp.Y7) | exact HI0.out));(case side2 => repeat (first | (with_reducible first | exact HB.out | apply Z4 | apply Zr | apply Zz | refine Z8 ?_ (Zp.ge HI0.out)) | exact HB.out));rintro e w9 ⟨rfl,hi,hb,hk⟩;refine ⟨_,rfl,?_⟩;have Gt := Za.mk (Ja.trans (by repeat (first | (with_reducible first | exact HK.out | apply Ja.Za9 | apply Xp | apply X5 | apply Xq) | exact HK.out)) hk (.inl rfl));have Hy := Za.mk (hb);have n2_ := Za.mk (hi);clear HK;clear HB;clear HI0;have HK := Gt;have HB := Hy;have HI0 := n2_;clear Gt Hy n2_;(try clear hb);(try clear hb2);(try clear hk);(try clear hi)) | ((with_reducible refine Z7 (f := 48) rfl ?_);refine Ju (some 8) rfl rfl Tryz.func48 (by kernel_rfl) rfl #[.string Zs7] rfl (by (try simp only [List.map_toArray,List.map_cons,List.map_nil]);first | done | rfl | (simp only [List.length_drop,List.length_take];rfl)) ?_;(with_reducible refine (Xe.calls Zs7 Jci true _ A3.out).mono ?_);rintro e w10 ⟨rfl,hb⟩;refine ⟨_,rfl,?_⟩;have Gt := Za.mk (Zp.below (by repeat (first | (with_reducible first | exact HI0.out | apply Zp.alloc | apply Zp.drewN | apply Zp.drew | apply Zp.Y9 | apply Zp.Y6 | apply Zp.Y7) | exact HI0.out)) hb);have Hy := Za.mk (Ja.trans (by repeat (first | (with_reducible first | exact HK.out | apply Ja.Za9 | apply Xp | apply X5 | apply Xq) | exact HK.out)) (Ja.of_below hb g none) (.inl rfl));have n2_ := Za.mk (Zm (by repeat (first | (with_reducible first | exact HB.out | apply Z4 | apply Zr | apply Zz | refine Z8 ?_ (Zp.ge HI0.out)) | exact HB.out)) hb);clear HI0;clear HK;clear HB;have HI0 := Gt;have HK := Hy;have HB := n2_;clear Gt Hy n2_;(try clear hb);(try clear hb2);(try clear hk);(try clear hi);obtain ⟨Zr7,Jxg⟩ := HI0.out;have vo := Xg Zr7;have vv := Xh Zr7;have vw := Xi Zr7;have vz := Zj Zr7 0;have yc := Zj Zr7 1;have yf := Zj Zr7 2;clear Zr7 Jxg))
      go_ret
      exact ⟨by first | rfl | (simp [Vd,Ve] <;> rfl) | (simp [*,Vd,Ve] <;> rfl),by repeat (first | (with_reducible first | exact HI0.out | apply Zp.alloc | apply Zp.drewN | apply Zp.drew | apply Zp.Y9 | apply Zp.Y6 | apply Zp.Y7) | exact HI0.out),by repeat (first | (with_reducible first | exact HB.out | apply Z4 | apply Zr | apply Zz | refine Z8 ?_ (Zp.ge HI0.out)) | exact HB.out),by repeat (first | (with_reducible first | exact HK.out | apply Ja.Za9 | apply Xp | apply X5 | apply Xq) | exact HK.out)⟩
  · replace c4 := Bool.eq_false_iff.mpr c4
    subst c4
    have H1 : (some (0,Zi4,Zi5,true)) = some (r1,r2,r3,r4) := by rw [if_neg (show ¬ (false = true) by decide)] at H;exact H
    clear H
    have H := H1
    clear H1
    simp only [Option.some.injEq,Prod.mk.injEq] at H
    obtain ⟨rfl,rfl,rfl,rfl⟩ := H
    go_enter Tryz.func36,Tryz.ntmps36
    go_wp2_with (first | ((with_reducible refine Z7 (f := 35) rfl ?_);refine Ju (some 7) rfl rfl Tryz.func35 (by kernel_rfl) rfl #[.pointer (some ⟨g,0,none⟩)] rfl (by (try simp only [List.map_toArray,List.map_cons,List.map_nil]);first | done | rfl | (simp only [List.length_drop,List.length_take];rfl)) ?_;(with_reducible refine (Zq.calls g Yh Du Dv Zs7 Zi4 Zi5 Z1n w0 _ ?side1 ?side2 A2.out).mono ?_);(case side1 => repeat (first | (with_reducible first | exact HI0.out | apply Zp.alloc | apply Zp.drewN | apply Zp.drew | apply Zp.Y9 | apply Zp.Y6 | apply Zp.Y7) | exact HI0.out));(case side2 => repeat (first | (with_reducible first | exact HB.out | apply Z4 | apply Zr | apply Zz | refine Z8 ?_ (Zp.ge HI0.out)) | exact HB.out));rintro e w12 ⟨rfl,hi,hb,hk⟩;refine ⟨_,rfl,?_⟩;have Gt := Za.mk (Ja.trans (by repeat (first | (with_reducible first | exact HK.out | apply Ja.Za9 | apply Xp | apply X5 | apply Xq) | exact HK.out)) hk (.inl rfl));have Hy := Za.mk (hb);have n2_ := Za.mk (hi);clear HK;clear HB;clear HI0;have HK := Gt;have HB := Hy;have HI0 := n2_;clear Gt Hy n2_;(try clear hb);(try clear hb2);(try clear hk);(try clear hi)) | ((with_reducible refine Z7 (f := 48) rfl ?_);refine Ju (some 8) rfl rfl Tryz.func48 (by kernel_rfl) rfl #[.string Zs7] rfl (by (try simp only [List.map_toArray,List.map_cons,List.map_nil]);first | done | rfl | (simp only [List.length_drop,List.length_take];rfl)) ?_;(with_reducible refine (Xe.calls Zs7 Jci false _ A3.out).mono ?_);rintro e w13 ⟨rfl,hb⟩;refine ⟨_,rfl,?_⟩;have Gt := Za.mk (Zp.below (by repeat (first | (with_reducible first | exact HI0.out | apply Zp.alloc | apply Zp.drewN | apply Zp.drew | apply Zp.Y9 | apply Zp.Y6 | apply Zp.Y7) | exact HI0.out)) hb);have Hy := Za.mk (Ja.trans (by repeat (first | (with_reducible first | exact HK.out | apply Ja.Za9 | apply Xp | apply X5 | apply Xq) | exact HK.out)) (Ja.of_below hb g none) (.inl rfl));have n2_ := Za.mk (Zm (by repeat (first | (with_reducible first | exact HB.out | apply Z4 | apply Zr | apply Zz | refine Z8 ?_ (Zp.ge HI0.out)) | exact HB.out)) hb);clear HI0;clear HK;clear HB;have HI0 := Gt;have HK := Hy;have HB := n2_;clear Gt Hy n2_;(try clear hb);(try clear hb2);(try clear hk);(try clear hi);obtain ⟨Zr8,Jxh⟩ := HI0.out;have Zgc := Xg Zr8;have Zgd := Xh Zr8;have Zge := Xi Zr8;have Zgf := Zj Zr8 0;have Zgg := Zj Zr8 1;have Zgh := Zj Zr8 2;clear Zr8 Jxh))
    go_ret
    exact ⟨by first | rfl | (simp [Vd,Ve] <;> rfl) | (simp [*,Vd,Ve] <;> rfl),by repeat (first | (with_reducible first | exact HI0.out | apply Zp.alloc | apply Zp.drewN | apply Zp.drew | apply Zp.Y9 | apply Zp.Y6 | apply Zp.Y7) | exact HI0.out),by repeat (first | (with_reducible first | exact HB.out | apply Z4 | apply Zr | apply Zz | refine Z8 ?_ (Zp.ge HI0.out)) | exact HB.out),by repeat (first | (with_reducible first | exact HK.out | apply Ja.Za9 | apply Xp | apply X5 | apply Xq) | exact HK.out)⟩
end Go.Proofs.YtdhpcofnddkcaaaGreatDoor.S
