/- A number is meant by each way of writing it, and by no other number; for every input. (Text 2 of 5: what the law's proof rests on, joined; walks printed by the kit's print over given contracts, walks and plain laws by hand.) -/
import Derived.Shelf.Bytes.String
import Derived.Shelf.Bytes.WriteByte
import Derived.Shelf.Bytes.WriteString
import Derived.Shelf.Lays
import Derived.Shelf.LaysM
import Derived.Shelf.Slices.Turned
import Derived.Shelf.Small.Wraps
import Derived.Shelf.Strings.Cut
import Derived.Shelf.Strings.Fields
import Derived.Shelf.Strings.Repeat
import Derived.Shelf.Strings.Trim
import Derived.Test.YtgjboghnnhcgiaaGreatDoorProg
import Derived.Shelf.Strings.SlTrimAscii
import Derived.Lib.AppendIntMem
import Derived.IntWalk
import Derived.Lib.Hide
import Derived.Outline
import Derived.Deep.LoopGhost
import Derived.Deep.RegionHeld3
import Derived.Deep.DrawnRows
import Derived.Handy
import Derived.Lib.OthersKept
import Derived.Lib.Index
import Derived.Lib.ValidLaws
import Derived.MapKept
import Derived.WideKeyEntry
import Derived.Tactics2
import Derived.Defers
import Derived.Laws.Pointers
import Derived.Laws.LoneSync
import Derived.Laws.NewBlocks
import Derived.RegionTactic
import Derived.RegionCalls
import Derived.ChangeAlike
import Derived.Maps.Range
import Derived.Test.YtgjboghnnhcgiaaGreatDoorVsm0
namespace Go.Proofs
open Go.Shelf
def Tryz.lays161_ren : Go.Shelf.Ren := ⟨fun | 161 => 48 | 231 => 84 | 227 => 86 | 233 => 87 | 235 => 89 | 228 => 119 | 197 => 120 | 151 => 121 | 260 => 142 | 152 => 143 | 137 => 159 | 119 => 160 | 224 => 140 | 225 => 139 | 217 => 138 | 266 => 157 | n => n, fun | 9 => 9 | 4 => 4 | 3 => 3 | 5 => 5 | 117 => 140 | 116 => 139 | 0 => 0 | 124 => 143 | 105 => 168 | 21 => 21 | 119 => 146 | 46 => 114 | 139 => 213 | 138 => 212 | n => n, fun | 3 => 5 | 4 => 6 | n => n⟩
theorem Tryz.lays161 : Go.Proofs.Lays.n161 Tryz.prog Tryz.lays161_ren := {
  mixed := by kernel_rfl
  f119 := Tryz.func160.trans (congrArg some (by kernel_rfl))
  f137 := Tryz.func159.trans (congrArg some (by kernel_rfl))
  f151 := Tryz.func121.trans (congrArg some (by kernel_rfl))
  f152 := Tryz.func143.trans (congrArg some (by kernel_rfl))
  f161 := Tryz.func48.trans (congrArg some (by kernel_rfl))
  f197 := Tryz.func120.trans (congrArg some (by kernel_rfl))
  f217 := Tryz.func138.trans (congrArg some (by kernel_rfl))
  f224 := Tryz.func140.trans (congrArg some (by kernel_rfl))
  f225 := Tryz.func139.trans (congrArg some (by kernel_rfl))
  f227 := Tryz.func86.trans (congrArg some (by kernel_rfl))
  f228 := Tryz.func119.trans (congrArg some (by kernel_rfl))
  f231 := Tryz.func84.trans (congrArg some (by kernel_rfl))
  f233 := Tryz.func87.trans (congrArg some (by kernel_rfl))
  f235 := Tryz.func89.trans (congrArg some (by kernel_rfl))
  f260 := Tryz.func142.trans (congrArg some (by kernel_rfl))
  f266 := Tryz.func157.trans (congrArg some (by kernel_rfl))
  t0 := Tryz.underlying0
  a0 := Tryz.isAgg0
  z0 := Tryz.sizeOf0
  v0 := Tryz.zeroValue0
  t3 := Tryz.underlying3
  a3 := Tryz.isAgg3
  z3 := Tryz.sizeOf3
  v3 := Tryz.zeroValue3
  t4 := Tryz.underlying4
  a4 := Tryz.isAgg4
  z4 := Tryz.sizeOf4
  v4 := Tryz.zeroValue4
  t5 := Tryz.underlying5
  a5 := Tryz.isAgg5
  z5 := Tryz.sizeOf5
  v5 := Tryz.zeroValue5
  t9 := Tryz.underlying9
  a9 := Tryz.isAgg9
  z9 := Tryz.sizeOf9
  v9 := Tryz.zeroValue9
  t21 := Tryz.underlying21
  a21 := Tryz.isAgg21
  z21 := Tryz.sizeOf21
  v21 := Tryz.zeroValue21
  t46 := Tryz.underlying114
  a46 := Tryz.isAgg114
  z46 := Tryz.sizeOf114
  v46 := Tryz.zeroValue114
  t105 := Tryz.underlying168
  a105 := Tryz.isAgg168
  z105 := Tryz.sizeOf168
  v105 := Tryz.zeroValue168
  t116 := Tryz.underlying139
  a116 := Tryz.isAgg139
  z116 := Tryz.sizeOf139
  t117 := Tryz.underlying140
  a117 := Tryz.isAgg140
  z117 := Tryz.sizeOf140
  v117 := Tryz.zeroValue140
  t119 := Tryz.underlying146
  a119 := Tryz.isAgg146
  z119 := Tryz.sizeOf146
  t124 := Tryz.underlying143
  a124 := Tryz.isAgg143
  z124 := Tryz.sizeOf143
  v124 := Tryz.zeroValue143
  t138 := Tryz.underlying212
  a138 := Tryz.isAgg212
  z138 := Tryz.sizeOf212
  v138 := Tryz.zeroValue212
  t139 := Tryz.underlying213
  a139 := Tryz.isAgg213
  z139 := Tryz.sizeOf213
  v139 := Tryz.zeroValue213
  g3 := by kernel_rfl
  g4 := by kernel_rfl }
open Go.RowKit in
theorem Tryz.strings_TrimLeft_one (s : ByteArray) (c : UInt8) (hc : c.toNat < 128) (w : World) :
    Calls Tryz.prog 48 #[.string s, .string ⟨#[c]⟩] w fun e w' => e = .returned (.string ⟨(Lib.trimLeftB s.data.toList c).toArray⟩) ∧ w' = w := Any.strings_TrimLeft_one Tryz.lays161 s c hc w
def Tryz.lays160_ren : Go.Shelf.Ren := ⟨fun | 160 => 47 | 232 => 85 | 231 => 84 | 227 => 86 | 234 => 88 | 233 => 87 | 236 => 90 | 235 => 89 | 228 => 119 | 271 => 122 | 151 => 121 | 197 => 120 | 120 => 144 | 152 => 143 | 260 => 142 | 137 => 159 | 119 => 160 | 224 => 140 | 225 => 139 | 217 => 138 | 266 => 157 | n => n, fun | 9 => 9 | 4 => 4 | 3 => 3 | 5 => 5 | 117 => 140 | 116 => 139 | 0 => 0 | 124 => 143 | 21 => 21 | 105 => 168 | 46 => 114 | 119 => 146 | 139 => 213 | 138 => 212 | n => n, fun | 3 => 5 | 4 => 6 | n => n⟩
theorem Tryz.lays160 : Go.Proofs.Lays.n160 Tryz.prog Tryz.lays160_ren := {
  mixed := by kernel_rfl
  f119 := Tryz.func160.trans (congrArg some (by kernel_rfl))
  f120 := Tryz.func144.trans (congrArg some (by kernel_rfl))
  f137 := Tryz.func159.trans (congrArg some (by kernel_rfl))
  f151 := Tryz.func121.trans (congrArg some (by kernel_rfl))
  f152 := Tryz.func143.trans (congrArg some (by kernel_rfl))
  f160 := Tryz.func47.trans (congrArg some (by kernel_rfl))
  f197 := Tryz.func120.trans (congrArg some (by kernel_rfl))
  f217 := Tryz.func138.trans (congrArg some (by kernel_rfl))
  f224 := Tryz.func140.trans (congrArg some (by kernel_rfl))
  f225 := Tryz.func139.trans (congrArg some (by kernel_rfl))
  f227 := Tryz.func86.trans (congrArg some (by kernel_rfl))
  f228 := Tryz.func119.trans (congrArg some (by kernel_rfl))
  f231 := Tryz.func84.trans (congrArg some (by kernel_rfl))
  f232 := Tryz.func85.trans (congrArg some (by kernel_rfl))
  f233 := Tryz.func87.trans (congrArg some (by kernel_rfl))
  f234 := Tryz.func88.trans (congrArg some (by kernel_rfl))
  f235 := Tryz.func89.trans (congrArg some (by kernel_rfl))
  f236 := Tryz.func90.trans (congrArg some (by kernel_rfl))
  f260 := Tryz.func142.trans (congrArg some (by kernel_rfl))
  f266 := Tryz.func157.trans (congrArg some (by kernel_rfl))
  f271 := Tryz.func122.trans (congrArg some (by kernel_rfl))
  t0 := Tryz.underlying0
  a0 := Tryz.isAgg0
  z0 := Tryz.sizeOf0
  v0 := Tryz.zeroValue0
  t3 := Tryz.underlying3
  a3 := Tryz.isAgg3
  z3 := Tryz.sizeOf3
  v3 := Tryz.zeroValue3
  t4 := Tryz.underlying4
  a4 := Tryz.isAgg4
  z4 := Tryz.sizeOf4
  v4 := Tryz.zeroValue4
  t5 := Tryz.underlying5
  a5 := Tryz.isAgg5
  z5 := Tryz.sizeOf5
  v5 := Tryz.zeroValue5
  t9 := Tryz.underlying9
  a9 := Tryz.isAgg9
  z9 := Tryz.sizeOf9
  v9 := Tryz.zeroValue9
  t21 := Tryz.underlying21
  a21 := Tryz.isAgg21
  z21 := Tryz.sizeOf21
  v21 := Tryz.zeroValue21
  t46 := Tryz.underlying114
  a46 := Tryz.isAgg114
  z46 := Tryz.sizeOf114
  v46 := Tryz.zeroValue114
  t105 := Tryz.underlying168
  a105 := Tryz.isAgg168
  z105 := Tryz.sizeOf168
  v105 := Tryz.zeroValue168
  t116 := Tryz.underlying139
  a116 := Tryz.isAgg139
  z116 := Tryz.sizeOf139
  t117 := Tryz.underlying140
  a117 := Tryz.isAgg140
  z117 := Tryz.sizeOf140
  v117 := Tryz.zeroValue140
  t119 := Tryz.underlying146
  a119 := Tryz.isAgg146
  z119 := Tryz.sizeOf146
  t124 := Tryz.underlying143
  a124 := Tryz.isAgg143
  z124 := Tryz.sizeOf143
  v124 := Tryz.zeroValue143
  t138 := Tryz.underlying212
  a138 := Tryz.isAgg212
  z138 := Tryz.sizeOf212
  v138 := Tryz.zeroValue212
  t139 := Tryz.underlying213
  a139 := Tryz.isAgg213
  z139 := Tryz.sizeOf213
  v139 := Tryz.zeroValue213
  g3 := by kernel_rfl
  g4 := by kernel_rfl }
open Go.RowKit in
theorem Tryz.strings_Trim_one (s : ByteArray) (c : UInt8) (hc : c.toNat < 128) (w : World) (hs : s.size ≤ 9223372036854775807) :
    Calls Tryz.prog 47 #[.string s, .string ⟨#[c]⟩] w fun e w' => e = .returned (.string ⟨(Lib.trimB s.data.toList c).toArray⟩) ∧ (w' = w ∨ w' = w.drew) := Any.strings_Trim_one Tryz.lays160 s c hc w hs
def Tryz.lays103_ren : Go.Shelf.Ren := ⟨fun | 103 => 43 | 210 => 82 | 206 => 106 | n => n, fun | 9 => 9 | 4 => 4 | 24 => 90 | 3 => 3 | n => n, fun | n => n⟩
theorem Tryz.lays103 : Go.Proofs.Lays.n103 Tryz.prog Tryz.lays103_ren := {
  mixed := by kernel_rfl
  f103 := Tryz.func43.trans (congrArg some (by kernel_rfl))
  f206 := Tryz.func106.trans (congrArg some (by kernel_rfl))
  f210 := Tryz.func82.trans (congrArg some (by kernel_rfl))
  t3 := Tryz.underlying3
  a3 := Tryz.isAgg3
  z3 := Tryz.sizeOf3
  v3 := Tryz.zeroValue3
  t4 := Tryz.underlying4
  a4 := Tryz.isAgg4
  z4 := Tryz.sizeOf4
  v4 := Tryz.zeroValue4
  t9 := Tryz.underlying9
  a9 := Tryz.isAgg9
  z9 := Tryz.sizeOf9
  v9 := Tryz.zeroValue9
  t24 := Tryz.underlying90
  a24 := Tryz.isAgg90
  z24 := Tryz.sizeOf90
  v24 := Tryz.zeroValue90 }
open Go.RowKit in
theorem Tryz.strings_CutPrefix (s p : ByteArray) (w : World) :
    Calls Tryz.prog 43 #[.string s, .string p] w fun e w' => e = .returned (.tuple #[.string ⟨(Lib.trimPrefix s.data.toList p.data.toList).toArray⟩, .bool (Lib.hasPrefix s.data.toList p.data.toList)]) ∧ w' = w := Any.strings_CutPrefix Tryz.lays103 s p w
def Tryz.lays122_ren : Go.Shelf.Ren := ⟨fun | 122 => 50 | 215 => 91 | n => n, fun | 3 => 3 | 4 => 4 | n => n, fun | n => n⟩
theorem Tryz.lays122 : Go.Proofs.Lays.n122 Tryz.prog Tryz.lays122_ren := {
  mixed := by kernel_rfl
  f122 := Tryz.func50.trans (congrArg some (by kernel_rfl))
  f215 := Tryz.func91.trans (congrArg some (by kernel_rfl))
  t3 := Tryz.underlying3
  a3 := Tryz.isAgg3
  z3 := Tryz.sizeOf3
  v3 := Tryz.zeroValue3
  t4 := Tryz.underlying4
  a4 := Tryz.isAgg4
  z4 := Tryz.sizeOf4
  v4 := Tryz.zeroValue4 }
open Go.RowKit in
theorem Tryz.cmp_Compare_int (x y : Int) (w : World) :
    Calls Tryz.prog 50 #[.int .i64 x, .int .i64 y] w fun e w' => e = .returned (.int .i64 (Lib.compareInt x y)) ∧ w' = w := Any.cmp_Compare_int Tryz.lays122 x y w
open Go.RowKit in
def Tryz.laysM179_ren : Go.Shelf.Ren := ⟨fun | 179 => 72 | 251 => 112 | 252 => 113 | 181 => 131 | 184 => 132 | 290 => 133 | 324 => 151 | n => n, fun | 130 => 160 | 5 => 5 | 75 => 123 | 0 => 0 | 93 => 132 | 91 => 130 | 3 => 3 | 131 => 161 | 4 => 4 | 37 => 118 | 20 => 20 | 80 => 34 | 9 => 9 | n => n, fun | 14 => 2 | n => n⟩
theorem Tryz.laysM179 : Go.Proofs.LaysM.n179 Tryz.prog Tryz.laysM179_ren := {
  mixed := by kernel_rfl
  f179 := Tryz.func72.trans (congrArg some (by kernel_rfl))
  f181 := Tryz.func131.trans (congrArg some (by kernel_rfl))
  f184 := Tryz.func132.trans (congrArg some (by kernel_rfl))
  f251 := Tryz.func112.trans (congrArg some (by kernel_rfl))
  f252 := Tryz.func113.trans (congrArg some (by kernel_rfl))
  f290 := Tryz.func133.trans (congrArg some (by kernel_rfl))
  f324 := Tryz.func151.trans (congrArg some (by kernel_rfl))
  t0 := Tryz.underlying0
  a0 := Tryz.isAgg0
  z0 := Tryz.sizeOf0
  v0 := Tryz.zeroValue0
  t3 := Tryz.underlying3
  a3 := Tryz.isAgg3
  z3 := Tryz.sizeOf3
  v3 := Tryz.zeroValue3
  t4 := Tryz.underlying4
  a4 := Tryz.isAgg4
  z4 := Tryz.sizeOf4
  v4 := Tryz.zeroValue4
  t5 := Tryz.underlying5
  a5 := Tryz.isAgg5
  z5 := Tryz.sizeOf5
  v5 := Tryz.zeroValue5
  t20 := Tryz.underlying20
  a20 := Tryz.isAgg20
  z20 := Tryz.sizeOf20
  v20 := Tryz.zeroValue20
  t37 := Tryz.underlying118
  a37 := Tryz.isAgg118
  z37 := Tryz.sizeOf118
  v37 := Tryz.zeroValue118
  t75 := Tryz.underlying123
  a75 := Tryz.isAgg123
  z75 := Tryz.sizeOf123
  v75 := Tryz.zeroValue123
  t91 := Tryz.underlying130
  a91 := Tryz.isAgg130
  z91 := Tryz.sizeOf130
  v91 := Tryz.zeroValue130
  t93 := Tryz.underlying132
  a93 := Tryz.isAgg132
  z93 := Tryz.sizeOf132
  v93 := Tryz.zeroValue132
  t130 := Tryz.underlying160
  a130 := Tryz.isAgg160
  z130 := Tryz.sizeOf160
  v130 := Tryz.zeroValue160
  t131 := Tryz.underlying161
  a131 := Tryz.isAgg161
  z131 := Tryz.sizeOf161
  v131 := Tryz.zeroValue161
  g14 := by kernel_rfl
  t9 := Tryz.underlying9
  a9 := Tryz.isAgg9
  z9 := Tryz.sizeOf9
  v9 := Tryz.zeroValue9
  t80 := Tryz.underlying34
  a80 := Tryz.isAgg34
  z80 := Tryz.sizeOf34
  v80 := Tryz.zeroValue34
  i0 := by kernel_rfl
  i3 := by kernel_rfl
  i4 := by kernel_rfl
  i5 := by kernel_rfl
  i9 := by kernel_rfl
  i20 := by kernel_rfl
  i37 := by kernel_rfl
  i75 := by kernel_rfl
  i80 := by kernel_rfl
  i91 := by kernel_rfl
  i93 := by kernel_rfl
  i130 := by kernel_rfl
  i131 := by kernel_rfl
  m14 := by kernel_rfl }
open Go.RowKit in
theorem Tryz.Buffer_WriteByte (B b : Nat) (bs : List Value) (c : Int) (w : World) (h : Lib.IsBuffer 132 5 B b bs w) (hBw : B ≤ w.heap.size) (h1 : ∀ v ∈ bs, v.oneCell' = true) (hlim : bs.length + 1 ≤ 140737488355328) :
    Calls Tryz.prog 72 #[.pointer (some ⟨b, 0, none⟩), .int .u8 c] w fun e w' => e = .returned .nilIface ∧ Lib.IsBuffer 132 5 B b (bs ++ [.int .u8 c]) w' ∧ Below B w w' := Any.Buffer_WriteByte Tryz.laysM179 B b bs c w h hBw h1 hlim
def Tryz.laysM178_ren : Go.Shelf.Ren := ⟨fun | 178 => 71 | 251 => 112 | 252 => 113 | 181 => 131 | 184 => 132 | 290 => 133 | 324 => 151 | n => n, fun | 130 => 160 | 9 => 9 | 3 => 3 | 75 => 123 | 0 => 0 | 93 => 132 | 91 => 130 | 131 => 161 | 4 => 4 | 37 => 118 | 20 => 20 | 80 => 34 | 5 => 5 | n => n, fun | 14 => 2 | n => n⟩
theorem Tryz.laysM178 : Go.Proofs.LaysM.n178 Tryz.prog Tryz.laysM178_ren := {
  mixed := by kernel_rfl
  f178 := Tryz.func71.trans (congrArg some (by kernel_rfl))
  f181 := Tryz.func131.trans (congrArg some (by kernel_rfl))
  f184 := Tryz.func132.trans (congrArg some (by kernel_rfl))
  f251 := Tryz.func112.trans (congrArg some (by kernel_rfl))
  f252 := Tryz.func113.trans (congrArg some (by kernel_rfl))
  f290 := Tryz.func133.trans (congrArg some (by kernel_rfl))
  f324 := Tryz.func151.trans (congrArg some (by kernel_rfl))
  t0 := Tryz.underlying0
  a0 := Tryz.isAgg0
  z0 := Tryz.sizeOf0
  v0 := Tryz.zeroValue0
  t3 := Tryz.underlying3
  a3 := Tryz.isAgg3
  z3 := Tryz.sizeOf3
  v3 := Tryz.zeroValue3
  t4 := Tryz.underlying4
  a4 := Tryz.isAgg4
  z4 := Tryz.sizeOf4
  v4 := Tryz.zeroValue4
  t9 := Tryz.underlying9
  a9 := Tryz.isAgg9
  z9 := Tryz.sizeOf9
  v9 := Tryz.zeroValue9
  t20 := Tryz.underlying20
  a20 := Tryz.isAgg20
  z20 := Tryz.sizeOf20
  v20 := Tryz.zeroValue20
  t37 := Tryz.underlying118
  a37 := Tryz.isAgg118
  z37 := Tryz.sizeOf118
  v37 := Tryz.zeroValue118
  t75 := Tryz.underlying123
  a75 := Tryz.isAgg123
  z75 := Tryz.sizeOf123
  v75 := Tryz.zeroValue123
  t91 := Tryz.underlying130
  a91 := Tryz.isAgg130
  z91 := Tryz.sizeOf130
  v91 := Tryz.zeroValue130
  t93 := Tryz.underlying132
  a93 := Tryz.isAgg132
  z93 := Tryz.sizeOf132
  v93 := Tryz.zeroValue132
  t130 := Tryz.underlying160
  a130 := Tryz.isAgg160
  z130 := Tryz.sizeOf160
  v130 := Tryz.zeroValue160
  t131 := Tryz.underlying161
  a131 := Tryz.isAgg161
  z131 := Tryz.sizeOf161
  v131 := Tryz.zeroValue161
  g14 := by kernel_rfl
  t5 := Tryz.underlying5
  a5 := Tryz.isAgg5
  z5 := Tryz.sizeOf5
  v5 := Tryz.zeroValue5
  t80 := Tryz.underlying34
  a80 := Tryz.isAgg34
  z80 := Tryz.sizeOf34
  v80 := Tryz.zeroValue34
  i0 := by kernel_rfl
  i3 := by kernel_rfl
  i4 := by kernel_rfl
  i5 := by kernel_rfl
  i9 := by kernel_rfl
  i20 := by kernel_rfl
  i37 := by kernel_rfl
  i75 := by kernel_rfl
  i80 := by kernel_rfl
  i91 := by kernel_rfl
  i93 := by kernel_rfl
  i130 := by kernel_rfl
  i131 := by kernel_rfl
  m14 := by kernel_rfl }
open Go.RowKit in
theorem Tryz.Buffer_WriteString (B b : Nat) (bs : List Value) (s : ByteArray) (w : World) (h : Lib.IsBuffer 132 5 B b bs w) (hBw : B ≤ w.heap.size) (h1 : ∀ v ∈ bs, v.oneCell' = true) (hlim : bs.length + s.size ≤ 140737488355328) :
    Calls Tryz.prog 71 #[.pointer (some ⟨b, 0, none⟩), .string s] w fun e w' => e = .returned (.tuple #[.int .i64 s.size, .nilIface]) ∧ Lib.IsBuffer 132 5 B b (bs ++ Lib.byteCells s.data.toList) w' ∧ Below B w w' := Any.Buffer_WriteString Tryz.laysM178 B b bs s w h hBw h1 hlim
def Tryz.laysM182_ren : Go.Shelf.Ren := ⟨fun | 182 => 73 | n => n, fun | 130 => 160 | 9 => 9 | 4 => 4 | 0 => 0 | 93 => 132 | 37 => 118 | 3 => 3 | 91 => 130 | 5 => 5 | n => n, fun | n => n⟩
theorem Tryz.laysM182 : Go.Proofs.LaysM.n182 Tryz.prog Tryz.laysM182_ren := {
  mixed := by kernel_rfl
  f182 := Tryz.func73.trans (congrArg some (by kernel_rfl))
  t0 := Tryz.underlying0
  a0 := Tryz.isAgg0
  z0 := Tryz.sizeOf0
  v0 := Tryz.zeroValue0
  t3 := Tryz.underlying3
  a3 := Tryz.isAgg3
  z3 := Tryz.sizeOf3
  v3 := Tryz.zeroValue3
  t4 := Tryz.underlying4
  a4 := Tryz.isAgg4
  z4 := Tryz.sizeOf4
  v4 := Tryz.zeroValue4
  t9 := Tryz.underlying9
  a9 := Tryz.isAgg9
  z9 := Tryz.sizeOf9
  v9 := Tryz.zeroValue9
  t37 := Tryz.underlying118
  a37 := Tryz.isAgg118
  z37 := Tryz.sizeOf118
  v37 := Tryz.zeroValue118
  t93 := Tryz.underlying132
  a93 := Tryz.isAgg132
  z93 := Tryz.sizeOf132
  v93 := Tryz.zeroValue132
  t130 := Tryz.underlying160
  a130 := Tryz.isAgg160
  z130 := Tryz.sizeOf160
  v130 := Tryz.zeroValue160
  t5 := Tryz.underlying5
  a5 := Tryz.isAgg5
  z5 := Tryz.sizeOf5
  v5 := Tryz.zeroValue5
  t91 := Tryz.underlying130
  a91 := Tryz.isAgg130
  z91 := Tryz.sizeOf130
  v91 := Tryz.zeroValue130
  i0 := by kernel_rfl
  i3 := by kernel_rfl
  i4 := by kernel_rfl
  i5 := by kernel_rfl
  i9 := by kernel_rfl
  i37 := by kernel_rfl
  i91 := by kernel_rfl
  i93 := by kernel_rfl
  i130 := by kernel_rfl }
open Go.RowKit in
theorem Tryz.Buffer_String (B b : Nat) (l : List UInt8) (w : World) (h : Lib.IsBuffer 132 5 B b (Lib.byteCells l) w) :
    Calls Tryz.prog 73 #[.pointer (some ⟨b, 0, none⟩)] w fun e w' => e = .returned (.string ⟨l.toArray⟩) ∧ ∃ n, w' = w.drewN n := Any.Buffer_String Tryz.laysM182 B b l w h
def Tryz.lays145_ren : Go.Shelf.Ren := ⟨fun | 145 => 44 | 220 => 83 | 219 => 118 | 217 => 138 | 225 => 139 | 224 => 140 | 267 => 141 | 266 => 157 | 314 => 158 | n => n, fun | 9 => 9 | 4 => 4 | 59 => 92 | 3 => 3 | 5 => 5 | 46 => 114 | 146 => 150 | 51 => 48 | n => n, fun | 1 => 3 | n => n⟩
theorem Tryz.lays145 : Go.Proofs.Lays.n145 Tryz.prog Tryz.lays145_ren := {
  mixed := by kernel_rfl
  f145 := Tryz.func44.trans (congrArg some (by kernel_rfl))
  f217 := Tryz.func138.trans (congrArg some (by kernel_rfl))
  f219 := Tryz.func118.trans (congrArg some (by kernel_rfl))
  f220 := Tryz.func83.trans (congrArg some (by kernel_rfl))
  f224 := Tryz.func140.trans (congrArg some (by kernel_rfl))
  f225 := Tryz.func139.trans (congrArg some (by kernel_rfl))
  f266 := Tryz.func157.trans (congrArg some (by kernel_rfl))
  f267 := Tryz.func141.trans (congrArg some (by kernel_rfl))
  f314 := Tryz.func158.trans (congrArg some (by kernel_rfl))
  t3 := Tryz.underlying3
  a3 := Tryz.isAgg3
  z3 := Tryz.sizeOf3
  v3 := Tryz.zeroValue3
  t4 := Tryz.underlying4
  a4 := Tryz.isAgg4
  z4 := Tryz.sizeOf4
  v4 := Tryz.zeroValue4
  t5 := Tryz.underlying5
  a5 := Tryz.isAgg5
  z5 := Tryz.sizeOf5
  v5 := Tryz.zeroValue5
  t9 := Tryz.underlying9
  a9 := Tryz.isAgg9
  z9 := Tryz.sizeOf9
  v9 := Tryz.zeroValue9
  t46 := Tryz.underlying114
  a46 := Tryz.isAgg114
  z46 := Tryz.sizeOf114
  v46 := Tryz.zeroValue114
  t51 := Tryz.underlying48
  a51 := Tryz.isAgg48
  z51 := Tryz.sizeOf48
  v51 := Tryz.zeroValue48
  t59 := Tryz.underlying92
  a59 := Tryz.isAgg92
  z59 := Tryz.sizeOf92
  v59 := Tryz.zeroValue92
  t146 := Tryz.underlying150
  a146 := Tryz.isAgg150
  z146 := Tryz.sizeOf150
  v146 := Tryz.zeroValue150
  g1 := by kernel_rfl }
open Go.RowKit Go.Lib in
theorem Tryz.strings_Cut (s sep : ByteArray) (m : Int) (w : World) (hs : s.size < 4294967281) (hm : w.cell? ⟨3, 0, none⟩ = some (.int .i64 m)) :
    Calls Tryz.prog 44 #[.string s, .string sep] w fun e w' => e = .returned (.tuple #[.string ⟨(Lib.cut s.data.toList sep.data.toList).1.toArray⟩, .string ⟨(Lib.cut s.data.toList sep.data.toList).2.1.toArray⟩, .bool (Lib.cut s.data.toList sep.data.toList).2.2]) ∧ ∃ n, w' = w.drewN n := Any.strings_Cut Tryz.lays145 s sep m w hs hm
def Tryz.laysM145_ren : Go.Shelf.Ren := ⟨fun | 145 => 44 | 220 => 83 | 219 => 118 | 217 => 138 | 225 => 139 | 224 => 140 | 267 => 141 | 266 => 157 | 314 => 158 | n => n, fun | 9 => 9 | 4 => 4 | 59 => 92 | 3 => 3 | 5 => 5 | 46 => 114 | 146 => 150 | 51 => 48 | n => n, fun | 1 => 3 | n => n⟩
theorem Tryz.laysM145 : Go.Proofs.LaysM.n145 Tryz.prog Tryz.laysM145_ren := {
  mixed := by kernel_rfl
  f145 := Tryz.func44.trans (congrArg some (by kernel_rfl))
  f217 := Tryz.func138.trans (congrArg some (by kernel_rfl))
  f219 := Tryz.func118.trans (congrArg some (by kernel_rfl))
  f220 := Tryz.func83.trans (congrArg some (by kernel_rfl))
  f224 := Tryz.func140.trans (congrArg some (by kernel_rfl))
  f225 := Tryz.func139.trans (congrArg some (by kernel_rfl))
  f266 := Tryz.func157.trans (congrArg some (by kernel_rfl))
  f267 := Tryz.func141.trans (congrArg some (by kernel_rfl))
  f314 := Tryz.func158.trans (congrArg some (by kernel_rfl))
  t3 := Tryz.underlying3
  a3 := Tryz.isAgg3
  z3 := Tryz.sizeOf3
  v3 := Tryz.zeroValue3
  t4 := Tryz.underlying4
  a4 := Tryz.isAgg4
  z4 := Tryz.sizeOf4
  v4 := Tryz.zeroValue4
  t5 := Tryz.underlying5
  a5 := Tryz.isAgg5
  z5 := Tryz.sizeOf5
  v5 := Tryz.zeroValue5
  t9 := Tryz.underlying9
  a9 := Tryz.isAgg9
  z9 := Tryz.sizeOf9
  v9 := Tryz.zeroValue9
  t46 := Tryz.underlying114
  a46 := Tryz.isAgg114
  z46 := Tryz.sizeOf114
  v46 := Tryz.zeroValue114
  t51 := Tryz.underlying48
  a51 := Tryz.isAgg48
  z51 := Tryz.sizeOf48
  v51 := Tryz.zeroValue48
  t59 := Tryz.underlying92
  a59 := Tryz.isAgg92
  z59 := Tryz.sizeOf92
  v59 := Tryz.zeroValue92
  t146 := Tryz.underlying150
  a146 := Tryz.isAgg150
  z146 := Tryz.sizeOf150
  v146 := Tryz.zeroValue150
  g1 := by kernel_rfl
  i3 := by kernel_rfl
  i4 := by kernel_rfl
  i5 := by kernel_rfl
  i9 := by kernel_rfl
  i46 := by kernel_rfl
  i51 := by kernel_rfl
  i59 := by kernel_rfl
  i146 := by kernel_rfl
  m1 := by kernel_rfl
  s1_3 := fun w h => Go.Proofs.cell_of_shapedOpen_int (zero := #[.int .i64 0]) (t := 3) h (of_decide_eq_true (by kernel_rfl)) (by kernel_rfl) rfl (by kernel_rfl) (by kernel_rfl) Tryz.underlying3 }
open Go.RowKit Go.Lib in
def Tryz.lays157_ren : Go.Shelf.Ren := ⟨fun | 157 => 54 | 229 => 101 | 199 => 102 | 261 => 124 | 311 => 145 | 312 => 146 | n => n, fun | 9 => 9 | 31 => 70 | 3 => 3 | 5 => 5 | 4 => 4 | 119 => 146 | 0 => 0 | 40 => 148 | 152 => 172 | 21 => 21 | 154 => 174 | 51 => 48 | 141 => 176 | 196 => 195 | 193 => 192 | 198 => 198 | 49 => 196 | 194 => 193 | 201 => 201 | 226 => 214 | 46 => 114 | 227 => 215 | n => n, fun | 0 => 0 | 6 => 1 | n => n⟩
theorem Tryz.lays157 : Go.Proofs.Lays.n157 Tryz.prog Tryz.lays157_ren := {
  mixed := by kernel_rfl
  f157 := Tryz.func54.trans (congrArg some (by kernel_rfl))
  f199 := Tryz.func102.trans (congrArg some (by kernel_rfl))
  f229 := Tryz.func101.trans (congrArg some (by kernel_rfl))
  f261 := Tryz.func124.trans (congrArg some (by kernel_rfl))
  f311 := Tryz.func145.trans (congrArg some (by kernel_rfl))
  f312 := Tryz.func146.trans (congrArg some (by kernel_rfl))
  t0 := Tryz.underlying0
  a0 := Tryz.isAgg0
  z0 := Tryz.sizeOf0
  v0 := Tryz.zeroValue0
  t3 := Tryz.underlying3
  a3 := Tryz.isAgg3
  z3 := Tryz.sizeOf3
  v3 := Tryz.zeroValue3
  t4 := Tryz.underlying4
  a4 := Tryz.isAgg4
  z4 := Tryz.sizeOf4
  v4 := Tryz.zeroValue4
  t5 := Tryz.underlying5
  a5 := Tryz.isAgg5
  z5 := Tryz.sizeOf5
  v5 := Tryz.zeroValue5
  t9 := Tryz.underlying9
  a9 := Tryz.isAgg9
  z9 := Tryz.sizeOf9
  v9 := Tryz.zeroValue9
  t21 := Tryz.underlying21
  a21 := Tryz.isAgg21
  z21 := Tryz.sizeOf21
  v21 := Tryz.zeroValue21
  t31 := Tryz.underlying70
  a31 := Tryz.isAgg70
  z31 := Tryz.sizeOf70
  v31 := Tryz.zeroValue70
  t40 := Tryz.underlying148
  a40 := Tryz.isAgg148
  z40 := Tryz.sizeOf148
  v40 := Tryz.zeroValue148
  t46 := Tryz.underlying114
  a46 := Tryz.isAgg114
  z46 := Tryz.sizeOf114
  v46 := Tryz.zeroValue114
  t49 := Tryz.underlying196
  a49 := Tryz.isAgg196
  z49 := Tryz.sizeOf196
  v49 := Tryz.zeroValue196
  t51 := Tryz.underlying48
  a51 := Tryz.isAgg48
  z51 := Tryz.sizeOf48
  v51 := Tryz.zeroValue48
  t119 := Tryz.underlying146
  a119 := Tryz.isAgg146
  z119 := Tryz.sizeOf146
  t141 := Tryz.underlying176
  a141 := Tryz.isAgg176
  z141 := Tryz.sizeOf176
  v141 := Tryz.zeroValue176
  t152 := Tryz.underlying172
  a152 := Tryz.isAgg172
  z152 := Tryz.sizeOf172
  v152 := Tryz.zeroValue172
  t154 := Tryz.underlying174
  a154 := Tryz.isAgg174
  z154 := Tryz.sizeOf174
  v154 := Tryz.zeroValue174
  t193 := Tryz.underlying192
  a193 := Tryz.isAgg192
  z193 := Tryz.sizeOf192
  v193 := Tryz.zeroValue192
  t194 := Tryz.underlying193
  a194 := Tryz.isAgg193
  z194 := Tryz.sizeOf193
  v194 := Tryz.zeroValue193
  t196 := Tryz.underlying195
  a196 := Tryz.isAgg195
  z196 := Tryz.sizeOf195
  v196 := Tryz.zeroValue195
  t198 := Tryz.underlying198
  a198 := Tryz.isAgg198
  z198 := Tryz.sizeOf198
  v198 := Tryz.zeroValue198
  t201 := Tryz.underlying201
  a201 := Tryz.isAgg201
  z201 := Tryz.sizeOf201
  v201 := Tryz.zeroValue201
  t226 := Tryz.underlying214
  a226 := Tryz.isAgg214
  z226 := Tryz.sizeOf214
  v226 := Tryz.zeroValue214
  t227 := Tryz.underlying215
  a227 := Tryz.isAgg215
  z227 := Tryz.sizeOf215
  v227 := Tryz.zeroValue215
  g0 := by kernel_rfl
  g6 := by kernel_rfl }
open Go.RowKit Go.Lib in
theorem Tryz.strings_Fields (s : ByteArray) (w : World) (hs : s.size < 4294967281) (hascii : ∀ (j : Nat) b, s.data.toList[j]? = some b → b.toNat < 128) (htab : Lib.TabIs Tryz.prog w "strings.asciiSpace" .u8 Lib.asciiSpaceTab) :
    Calls Tryz.prog 54 #[.string s] w fun e w' =>
      e = .returned (.slice (some ⟨w.heap.size, 0, none⟩) (Lib.fields s.data.toList).length (Lib.fields s.data.toList).length) ∧ w' = w.alloc (.cells ((Lib.fields s.data.toList).map fun l => Value.string ⟨l.toArray⟩).toArray 9) := Any.strings_Fields Tryz.lays157 (by kernel_rfl) (by kernel_rfl) s w hs hascii htab
def Tryz.lays105_ren : Go.Shelf.Ren := ⟨fun | 105 => 34 | 212 => 62 | 99 => 63 | 165 => 64 | 166 => 65 | 170 => 66 | 169 => 67 | 263 => 104 | 264 => 105 | 206 => 106 | 240 => 107 | 241 => 108 | 276 => 125 | 277 => 126 | n => n, fun | 9 => 9 | 3 => 3 | 4 => 4 | 20 => 20 | 0 => 0 | 46 => 114 | 109 => 115 | 5 => 5 | 72 => 120 | 76 => 124 | 51 => 48 | 146 => 150 | 53 => 152 | 148 => 153 | 70 => 117 | 37 => 118 | 75 => 123 | 127 => 155 | 164 => 177 | 80 => 34 | n => n, fun | n => n⟩
theorem Tryz.lays105 : Go.Proofs.Lays.n105 Tryz.prog Tryz.lays105_ren := {
  mixed := by kernel_rfl
  f99 := Tryz.func63.trans (congrArg some (by kernel_rfl))
  f105 := Tryz.func34.trans (congrArg some (by kernel_rfl))
  f165 := Tryz.func64.trans (congrArg some (by kernel_rfl))
  f166 := Tryz.func65.trans (congrArg some (by kernel_rfl))
  f169 := Tryz.func67.trans (congrArg some (by kernel_rfl))
  f170 := Tryz.func66.trans (congrArg some (by kernel_rfl))
  f206 := Tryz.func106.trans (congrArg some (by kernel_rfl))
  f212 := Tryz.func62.trans (congrArg some (by kernel_rfl))
  f240 := Tryz.func107.trans (congrArg some (by kernel_rfl))
  f241 := Tryz.func108.trans (congrArg some (by kernel_rfl))
  f263 := Tryz.func104.trans (congrArg some (by kernel_rfl))
  f264 := Tryz.func105.trans (congrArg some (by kernel_rfl))
  f276 := Tryz.func125.trans (congrArg some (by kernel_rfl))
  f277 := Tryz.func126.trans (congrArg some (by kernel_rfl))
  t0 := Tryz.underlying0
  a0 := Tryz.isAgg0
  z0 := Tryz.sizeOf0
  v0 := Tryz.zeroValue0
  t3 := Tryz.underlying3
  a3 := Tryz.isAgg3
  z3 := Tryz.sizeOf3
  v3 := Tryz.zeroValue3
  t4 := Tryz.underlying4
  a4 := Tryz.isAgg4
  z4 := Tryz.sizeOf4
  v4 := Tryz.zeroValue4
  t5 := Tryz.underlying5
  a5 := Tryz.isAgg5
  z5 := Tryz.sizeOf5
  v5 := Tryz.zeroValue5
  t9 := Tryz.underlying9
  a9 := Tryz.isAgg9
  z9 := Tryz.sizeOf9
  v9 := Tryz.zeroValue9
  t20 := Tryz.underlying20
  a20 := Tryz.isAgg20
  z20 := Tryz.sizeOf20
  v20 := Tryz.zeroValue20
  t37 := Tryz.underlying118
  a37 := Tryz.isAgg118
  z37 := Tryz.sizeOf118
  v37 := Tryz.zeroValue118
  t46 := Tryz.underlying114
  a46 := Tryz.isAgg114
  z46 := Tryz.sizeOf114
  v46 := Tryz.zeroValue114
  t51 := Tryz.underlying48
  a51 := Tryz.isAgg48
  z51 := Tryz.sizeOf48
  v51 := Tryz.zeroValue48
  t53 := Tryz.underlying152
  a53 := Tryz.isAgg152
  z53 := Tryz.sizeOf152
  v53 := Tryz.zeroValue152
  t70 := Tryz.underlying117
  a70 := Tryz.isAgg117
  z70 := Tryz.sizeOf117
  v70 := Tryz.zeroValue117
  t72 := Tryz.underlying120
  a72 := Tryz.isAgg120
  z72 := Tryz.sizeOf120
  v72 := Tryz.zeroValue120
  t75 := Tryz.underlying123
  a75 := Tryz.isAgg123
  z75 := Tryz.sizeOf123
  v75 := Tryz.zeroValue123
  t76 := Tryz.underlying124
  a76 := Tryz.isAgg124
  z76 := Tryz.sizeOf124
  v76 := Tryz.zeroValue124
  t109 := Tryz.underlying115
  a109 := Tryz.isAgg115
  z109 := Tryz.sizeOf115
  v109 := Tryz.zeroValue115
  t127 := Tryz.underlying155
  a127 := Tryz.isAgg155
  z127 := Tryz.sizeOf155
  v127 := Tryz.zeroValue155
  t146 := Tryz.underlying150
  a146 := Tryz.isAgg150
  z146 := Tryz.sizeOf150
  v146 := Tryz.zeroValue150
  t148 := Tryz.underlying153
  a148 := Tryz.isAgg153
  z148 := Tryz.sizeOf153
  v148 := Tryz.zeroValue153
  t164 := Tryz.underlying177
  a164 := Tryz.isAgg177
  z164 := Tryz.sizeOf177
  v164 := Tryz.zeroValue177 }
theorem Tryz.Builder_Extra_105 : Builder.Extra Tryz.prog Tryz.lays105_ren := {
  sizeBuilder := by kernel_rfl
  liesBuilder := by kernel_rfl
  t5 := Tryz.underlying5
  a5 := Tryz.isAgg5
  z5 := Tryz.sizeOf5
  v5 := Tryz.zeroValue5
  infoByte := by kernel_rfl
  cellsByte := by kernel_rfl
  sizeByte := by kernel_rfl
  neB5 := by decide }
open Go.RowKit Go.Lib in
theorem Tryz.strings_Repeat (s : ByteArray) (c : Nat) (w : World) (hc : c ≤ 9223372036854775807) (hlen : s.size * c ≤ 140737488355328) :
    Calls Tryz.prog 34 #[.string s, .int .i64 c] w fun e w' => e = .returned (.string ⟨(Lib.repeatL s.data.toList c).toArray⟩) ∧ Below w.heap.size w w' := Any.strings_Repeat Tryz.lays105 Tryz.Builder_Extra_105 s c w hc hlen
def Tryz.lays110_ren : Go.Shelf.Ren := ⟨fun | 110 => 53 | 109 => 100 | n => n, fun | 31 => 70 | 9 => 9 | 4 => 4 | 3 => 3 | 0 => 0 | n => n, fun | n => n⟩
theorem Tryz.lays110 : Go.Proofs.Lays.n110 Tryz.prog Tryz.lays110_ren := {
  mixed := by kernel_rfl
  f109 := Tryz.func100.trans (congrArg some (by kernel_rfl))
  f110 := Tryz.func53.trans (congrArg some (by kernel_rfl))
  t0 := Tryz.underlying0
  a0 := Tryz.isAgg0
  z0 := Tryz.sizeOf0
  v0 := Tryz.zeroValue0
  t3 := Tryz.underlying3
  a3 := Tryz.isAgg3
  z3 := Tryz.sizeOf3
  v3 := Tryz.zeroValue3
  t4 := Tryz.underlying4
  a4 := Tryz.isAgg4
  z4 := Tryz.sizeOf4
  v4 := Tryz.zeroValue4
  t9 := Tryz.underlying9
  a9 := Tryz.isAgg9
  z9 := Tryz.sizeOf9
  v9 := Tryz.zeroValue9
  t31 := Tryz.underlying70
  a31 := Tryz.isAgg70
  z31 := Tryz.sizeOf70
  v31 := Tryz.zeroValue70 }
open Go.Lib in
theorem Tryz.slices_Contains_string (b off n c : Nat) (zs : List ByteArray) (x : ByteArray) (w : World) (hz : n ≤ zs.length) (hbig : n ≤ 9223372036854775807) (hc : ∀ j, j < zs.length → w.cell? ⟨b, off + j, none⟩ = some (.string (zs.getD j ByteArray.empty))) :
    Calls Tryz.prog 53 #[.slice (some ⟨b, off, none⟩) n c, .string x] w fun e w' => e = .returned (.bool (Lib.containsS (zs.take n) x)) ∧ w' = w := Any.slices_Contains_string Tryz.lays110 b off n c zs x w hz hbig hc
end Go.Proofs
namespace Go.Proofs.YtgjboghnnhcgiaaGreatDoor.G
open Go.RowKit Go.Proofs.YtgjboghnnhcgiaaGreatDoorW.PrintWords
set_option linter.unusedVariables false
def Tab_ (w : World) : Prop := ∃ m, w.cell? ⟨3, 0, none⟩ = some (.int .i64 m)
theorem Tab_.step {w W : World} (h : Tab_ w) (b : Below w.heap.size w W) : Tab_ W := by
  obtain ⟨m, h⟩ := h
  exact ⟨m, (b.cell (p := ⟨3, 0, none⟩) (World.block_lt_of_cell? _ _ h)).trans h⟩
def TabP_ (w : World) : Prop := Lib.TabIs Tryz.prog w "internal/strconv.uint64pow10" .u64 Lib.pow10Tab
theorem TabP_.step {w W : World} (h : TabP_ w) (b : Below w.heap.size w W) : TabP_ W := by
  have hg : Tryz.prog.globalNamed "internal/strconv.uint64pow10" = some 4 := by kernel_rfl
  unfold TabP_ Lib.TabIs World.var? at h ⊢
  rw [hg, Option.bind_some] at h ⊢
  by_cases hlt : 4 < w.heap.size
  · rw [b.block _ hlt]; exact h
  · rw [Array.getElem?_eq_none (by omega)] at h; cases h
def asciiB (c : ByteArray) : Bool := c.data.toList.all fun b => decide (b.toNat < 128)
theorem ascii_at {c : ByteArray} (h : asciiB c = true) : ∀ (j : Nat) b, c.data.toList[j]? = some b → b.toNat < 128 := fun j b hb => by
  have := List.all_eq_true.1 h b (List.mem_of_getElem? hb)
  simpa using this
def strings_Trim.f (s c : ByteArray) : Option ByteArray := if s.size ≤ 4611686018427387904 ∧ c.size < 1000 ∧ asciiB c = true then some ⟨(Lib.trimS s.data.toList c.data.toList).toArray⟩ else none
theorem strings_Trim.calls (s c r : ByteArray) (w : World) (h : strings_Trim.f s c = some r) :
    Calls Tryz.prog 47 #[.string s, .string c] w fun e w' => e = .returned (.string r) ∧ Below w.heap.size w w' := by
  unfold strings_Trim.f at h
  by_cases hs : s.size ≤ 4611686018427387904 ∧ c.size < 1000 ∧ asciiB c = true
  · rw [if_pos hs] at h
    obtain rfl := Option.some.inj h
    exact Any.strings_Trim_laid Tryz.lays160 (by kernel_rfl) s c w (by omega) (by omega) (ascii_at hs.2.2)
  · rw [if_neg hs] at h
    exact absurd h (by simp)
def strings_TrimLeft.f (s c : ByteArray) : Option ByteArray := if c.size < 1000 ∧ asciiB c = true then some ⟨(Lib.trimLeftS s.data.toList c.data.toList).toArray⟩ else none
theorem strings_TrimLeft.calls (s c r : ByteArray) (w : World) (h : strings_TrimLeft.f s c = some r) :
    Calls Tryz.prog 48 #[.string s, .string c] w fun e w' => e = .returned (.string r) ∧ Below w.heap.size w w' := by
  unfold strings_TrimLeft.f at h
  by_cases hs : c.size < 1000 ∧ asciiB c = true
  · rw [if_pos hs] at h
    obtain rfl := Option.some.inj h
    exact Any.strings_TrimLeft_laid Tryz.lays161 (by kernel_rfl) s c w (by omega) (ascii_at hs.2)
  · rw [if_neg hs] at h
    exact absurd h (by simp)
def strings_Cut.f (s p : ByteArray) : Option (ByteArray × ByteArray × Bool) := if s.size < 4294967281 then some (⟨(Lib.cut s.data.toList p.data.toList).1.toArray⟩, ⟨(Lib.cut s.data.toList p.data.toList).2.1.toArray⟩, (Lib.cut s.data.toList p.data.toList).2.2) else none
theorem strings_Cut.calls (s p r0 r1 : ByteArray) (r2 : Bool) (w : World) (h : strings_Cut.f s p = some (r0, r1, r2)) (HT0_ : Tab_ w := by exact Tab_.step HT0_ (by repeat (first | (with_reducible first | exact HB.out | apply below_alloc | apply pw_below_drewN | apply below_drew1 | refine below_set ?_ (Aside0.out (by assumption))) | exact HB.out))) :
    Calls Tryz.prog 44 #[.string s, .string p] w fun e w' => e = .returned (.tuple #[.string r0, .string r1, .bool r2]) ∧ Below w.heap.size w w' := by
  unfold strings_Cut.f at h
  by_cases hs : s.size < 4294967281
  · rw [if_pos hs] at h
    obtain ⟨rfl, h2⟩ := Prod.mk.inj (Option.some.inj h)
    obtain ⟨rfl, rfl⟩ := Prod.mk.inj h2
    obtain ⟨m, hm⟩ := HT0_
    exact (Tryz.strings_Cut s p m w hs hm).mono fun e w' ⟨he, n, hw⟩ => ⟨he, by subst hw; exact pw_below_drewN (Below.refl _ _) n⟩
  · rw [if_neg hs] at h
    exact absurd h (by simp)
def strings_CutPrefix.f (s p : ByteArray) : Option (ByteArray × Bool) := some (⟨(Lib.trimPrefix s.data.toList p.data.toList).toArray⟩, Lib.hasPrefix s.data.toList p.data.toList)
theorem strings_CutPrefix.calls (s p r0 : ByteArray) (r1 : Bool) (w : World) (h : strings_CutPrefix.f s p = some (r0, r1)) :
    Calls Tryz.prog 43 #[.string s, .string p] w fun e w' => e = .returned (.tuple #[.string r0, .bool r1]) ∧ Below w.heap.size w w' := by
  obtain ⟨rfl, rfl⟩ := Prod.mk.inj (Option.some.inj h)
  exact (Tryz.strings_CutPrefix s p w).mono fun e w' ⟨he, hw⟩ => ⟨he, by subst hw; exact Below.refl _ _⟩
def strings_Repeat.f (s : ByteArray) (n : Int) : Option ByteArray := if 0 ≤ n ∧ n ≤ 9223372036854775807 ∧ s.size * n.toNat ≤ 140737488355328 then some ⟨(Lib.repeatL s.data.toList n.toNat).toArray⟩ else none
theorem strings_Repeat.calls (s : ByteArray) (n : Int) (r : ByteArray) (w : World) (h : strings_Repeat.f s n = some r) :
    Calls Tryz.prog 34 #[.string s, .int .i64 n] w fun e w' => e = .returned (.string r) ∧ Below w.heap.size w w' := by
  unfold strings_Repeat.f at h
  by_cases hs : 0 ≤ n ∧ n ≤ 9223372036854775807 ∧ s.size * n.toNat ≤ 140737488355328
  · rw [if_pos hs] at h
    obtain rfl := Option.some.inj h
    have := Tryz.strings_Repeat s n.toNat w (by omega) hs.2.2
    rw [Int.toNat_of_nonneg hs.1] at this
    exact this
  · rw [if_neg hs] at h
    exact absurd h (by simp)
end Go.Proofs.YtgjboghnnhcgiaaGreatDoor.G
namespace Go.Proofs.YtgjboghnnhcgiaaGreatDoor
open Go.RowKit
open Go.Proofs.YtgjboghnnhcgiaaGreatDoorW.PrintWords Go.Proofs.YtgjboghnnhcgiaaGreatDoorW.PrintLast Go.Proofs.YtgjboghnnhcgiaaGreatDoorW.PrintMore
set_option linter.unusedVariables false
set_option linter.unusedSimpArgs false
def zs (m : Nat) : ByteArray := ⟨(List.replicate m (48 : UInt8)).toArray⟩
theorem zs_size (m : Nat) : (zs m).size = m := by simp [zs, ByteArray.size]
theorem zs_zero (d : ByteArray) : d ++ zs 0 = d := by
  apply ByteArray.ext
  rw [ByteArray.data_append]
  simp [zs]
theorem repeat_one : ∀ m, Lib.repeatL [(48 : UInt8)] m = List.replicate m 48
  | 0 => rfl
  | m + 1 => by
    show [48] ++ Lib.repeatL [48] m = _
    rw [repeat_one m, List.replicate_succ]
    rfl
theorem rep_any (m : Nat) (hm : m ≤ 1000) (w : World) : Calls Tryz.prog 34 #[.string ⟨#[48]⟩, .int .i64 (m : Int)] w fun e w' => e = .returned (.string (zs m)) ∧ Below w.heap.size w w' := by
  refine G.strings_Repeat.calls ⟨#[48]⟩ m (zs m) w ?_
  have h1 : (⟨#[48]⟩ : ByteArray).size = 1 := rfl
  unfold G.strings_Repeat.f
  rw [if_pos (by rw [h1]; omega), Int.toNat_natCast]
  show some (⟨(Lib.repeatL [(48 : UInt8)] m).toArray⟩ : ByteArray) = _
  rw [repeat_one]
  rfl
attribute [local go_sem] min2_int min_two
set_option maxRecDepth 100000 in
set_option maxHeartbeats 4000000 in
theorem pad_any (n : Bool) (D : ByteArray) (k m : Nat) (w : World) (hk : k < D.size) (hs : D.size ≤ 900) (hm : m ≤ 40) :
    Calls Tryz.prog 13 #[decV n D k, .int .i64 (m : Int)] w fun e w' => e = .returned (decV n (D ++ zs (m - k)) ((k : Int) + (m - k : Nat))) ∧ Below w.heap.size w w' := by
  have hS := Dc.start w n D k
  unfold decV
  go_enter Tryz.func13, Tryz.ntmps13
  have q2 := hS.c2
  have hm2 : (if (40 : Int) < m then (40 : Int) else m) = m := if_neg (by omega)
  have hm3 : (if (m : Int) < 40 then (m : Int) else 40) = m := by split <;> omega
  by_cases h : k < m
  · have g1 : decide ((m : Int) - k > 0) = true := decide_eq_true (by omega)
    go_wp2
    refine pad_round w n D (zs (m - k)) k (m - k) (by omega) (by rw [zs_size]; omega) (by omega) (by omega) (fun W => rep_any (m - k) (by omega) W) _ rfl (by rw [show ((m - k : Nat) : Int) = (m : Int) - k by omega]; rfl) rfl _ hS.drew _ ?_
    intro a9 w9 h9 ha9 hd9
    have h8 : Dc w n (D ++ zs (m - k)) ((k : Int) + (m - k : Nat)) w9 := h9
    rw [ha9]
    simp only [putSel, if_true, Act.put, List.setIfInBounds_toArray, List.set_cons_zero, List.set_cons_succ]
    clear ha9 hd9 h9 hS q2
    generalize hE : D ++ zs (m - k) = E at *
    generalize hz : (k : Int) + (m - k : Nat) = z at *
    have q0 := h8.c0
    have q1 := h8.c1
    have q2 := h8.c2
    have y0 : w9.cell? ⟨w.heap.size + 1, 0, none⟩ = some (.bool false) := (Lib.cell_of_heap h8.res 0).trans rfl
    have y1 : w9.cell? ⟨w.heap.size + 1, 1, none⟩ = some (.string ⟨#[]⟩) := (Lib.cell_of_heap h8.res 1).trans rfl
    have y2 : w9.cell? ⟨w.heap.size + 1, 2, none⟩ = some (.int .i64 0) := (Lib.cell_of_heap h8.res 2).trans rfl
    have z0 := Lib.frozen_of_heap h8.res 0
    have z1 := Lib.frozen_of_heap h8.res 1
    have z2 := Lib.frozen_of_heap h8.res 2
    have bel := h8.ends (.bool n) (.string E) (.int .i64 z)
    obtain ⟨t0, t1, t2⟩ := res3 h8.res (.bool n) (.string E) (.int .i64 z)
    go_wp2
    refine bodyPost_ret (v := .agg #[.bool n, .string E, .int .i64 z]) (by simp [results, Tryz.results13, go_sem, t0, t1, t2]) rfl ?_
    exact ⟨by rw [hE, hz], bel⟩
  · have g1 : decide ((m : Int) - k > 0) = false := decide_eq_false (by omega)
    have bel := hS.bel
    rw [show m - k = 0 by omega, zs_zero]
    go_wp2
    go_returns
    exact ⟨by simp, ((Below.refl _ _).alloc (Nat.le_refl _) _).alloc (by simp) _⟩
end Go.Proofs.YtgjboghnnhcgiaaGreatDoor
namespace Go.Proofs.YtgjboghnnhcgiaaGreatDoor
open Go.RowKit
set_option linter.unusedVariables false
set_option linter.unusedSimpArgs false
def optV (mi mf xf : Int) (pl rk : Bool) : Value := .agg #[.int .i64 mi, .int .i64 mf, .int .i64 xf, .bool pl, .bool rk]
structure Sh (w : World) (mi mf xf : Int) (pl rk : Bool) (n : Bool) (D : ByteArray) (k : Int) (n' : Bool) (D' : ByteArray) (k' : Int) (W : World) : Prop where
  opt : W.heap[w.heap.size]? = some (.cells #[.int .i64 mi, .int .i64 mf, .int .i64 xf, .bool pl, .bool rk] 28 (0, 0))
  blk : W.heap[w.heap.size + 1]? = some (.cells #[.bool n, .string D, .int .i64 k] 23 (0, 0))
  res : W.heap[w.heap.size + 1 + 1]? = some (.cells #[.bool n', .string D', .int .i64 k'] 23 (0, 0))
  bel : Below w.heap.size w W
section
variable {w W : World} {mi mf xf : Int} {pl rk n n' : Bool} {D D' : ByteArray} {k k' : Int}
theorem Sh.step {W1 : World} (h : Sh w mi mf xf pl rk n D k n' D' k' W) (c : Below W.heap.size W W1) : Sh w mi mf xf pl rk n D k n' D' k' W1 :=
  ⟨below_blockOf c (Nat.le_refl _) h.opt, below_blockOf c (Nat.le_refl _) h.blk, below_blockOf c (Nat.le_refl _) h.res, below_on h.bel c h.bel.size⟩
theorem Sh.drew (h : Sh w mi mf xf pl rk n D k n' D' k' W) : Sh w mi mf xf pl rk n D k n' D' k' W.drew := h.step ((Below.refl _ _).drew)
theorem Sh.get (h : Sh w mi mf xf pl rk n D k n' D' k' W) : W.cell? ⟨w.heap.size, 0, none⟩ = some (.int .i64 mi) ∧ W.cell? ⟨w.heap.size, 1, none⟩ = some (.int .i64 mf) ∧ W.cell? ⟨w.heap.size, 2, none⟩ = some (.int .i64 xf) ∧
    W.cell? ⟨w.heap.size + 1, 0, none⟩ = some (.bool n) ∧ W.cell? ⟨w.heap.size + 1, 1, none⟩ = some (.string D) ∧ W.cell? ⟨w.heap.size + 1, 2, none⟩ = some (.int .i64 k) :=
  ⟨(Lib.cell_of_heap h.opt 0).trans rfl, (Lib.cell_of_heap h.opt 1).trans rfl, (Lib.cell_of_heap h.opt 2).trans rfl, (Lib.cell_of_heap h.blk 0).trans rfl, (Lib.cell_of_heap h.blk 1).trans rfl, (Lib.cell_of_heap h.blk 2).trans rfl⟩
theorem Sh.getr (h : Sh w mi mf xf pl rk n D k n' D' k' W) : W.cell? ⟨w.heap.size + 1 + 1, 0, none⟩ = some (.bool n') ∧ W.cell? ⟨w.heap.size + 1 + 1, 1, none⟩ = some (.string D') ∧ W.cell? ⟨w.heap.size + 1 + 1, 2, none⟩ = some (.int .i64 k') :=
  ⟨(Lib.cell_of_heap h.res 0).trans rfl, (Lib.cell_of_heap h.res 1).trans rfl, (Lib.cell_of_heap h.res 2).trans rfl⟩
theorem Sh.fz (h : Sh w mi mf xf pl rk n D k n' D' k' W) (i : Nat) : W.frozen? ⟨w.heap.size + 1, i, none⟩ = false := Lib.frozen_of_heap h.blk i
theorem Sh.fr (h : Sh w mi mf xf pl rk n D k n' D' k' W) (i : Nat) : W.frozen? ⟨w.heap.size + 1 + 1, i, none⟩ = false := Lib.frozen_of_heap h.res i
theorem Sh.put (h : Sh w mi mf xf pl rk n D k n' D' k' W) (n1 : Bool) (D1 : ByteArray) (k1 : Int) :
    Sh w mi mf xf pl rk n1 D1 k1 n' D' k' (((W.setCell ⟨w.heap.size + 1, 0, none⟩ (.bool n1)).setCell ⟨w.heap.size + 1, 1, none⟩ (.string D1)).setCell ⟨w.heap.size + 1, 2, none⟩ (.int .i64 k1)) :=
  ⟨((dc_far (by omega)).trans ((dc_far (by omega)).trans (dc_far (by omega)))).trans h.opt, (dc_set (dc_set (dc_set h.blk))).trans rfl, ((dc_far (by omega)).trans ((dc_far (by omega)).trans (dc_far (by omega)))).trans h.res,
    ((h.bel.setCell (by show w.heap.size ≤ w.heap.size + 1; omega) _).setCell (by show w.heap.size ≤ w.heap.size + 1; omega) _).setCell (by show w.heap.size ≤ w.heap.size + 1; omega) _⟩
theorem Sh.putr (h : Sh w mi mf xf pl rk n D k n' D' k' W) (n1 : Bool) (D1 : ByteArray) (k1 : Int) :
    Sh w mi mf xf pl rk n D k n1 D1 k1 (((W.setCell ⟨w.heap.size + 1 + 1, 0, none⟩ (.bool n1)).setCell ⟨w.heap.size + 1 + 1, 1, none⟩ (.string D1)).setCell ⟨w.heap.size + 1 + 1, 2, none⟩ (.int .i64 k1)) :=
  ⟨((dc_far (by omega)).trans ((dc_far (by omega)).trans (dc_far (by omega)))).trans h.opt, ((dc_far (by omega)).trans ((dc_far (by omega)).trans (dc_far (by omega)))).trans h.blk, (dc_set (dc_set (dc_set h.res))).trans rfl,
    ((h.bel.setCell (by show w.heap.size ≤ w.heap.size + 1 + 1; omega) _).setCell (by show w.heap.size ≤ w.heap.size + 1 + 1; omega) _).setCell (by show w.heap.size ≤ w.heap.size + 1 + 1; omega) _⟩
theorem Sh.start (w : World) (mi mf xf : Int) (pl rk n : Bool) (D : ByteArray) (k : Int) :
    Sh w mi mf xf pl rk n D k false ⟨#[]⟩ 0 (((w.alloc (.cells #[.int .i64 mi, .int .i64 mf, .int .i64 xf, .bool pl, .bool rk] 28)).alloc (.cells #[.bool n, .string D, .int .i64 k] 23)).alloc (.cells #[.bool false, .string ⟨#[]⟩, .int .i64 0] 23)) := by
  have m1 := heap_alloc_new w (.cells #[.int .i64 mi, .int .i64 mf, .int .i64 xf, .bool pl, .bool rk] 28)
  have z1 : (w.alloc (.cells #[.int .i64 mi, .int .i64 mf, .int .i64 xf, .bool pl, .bool rk] 28)).heap.size = w.heap.size + 1 := by simp
  have b1 := (Below.refl w.heap.size w).alloc (Nat.le_refl _) (.cells #[.int .i64 mi, .int .i64 mf, .int .i64 xf, .bool pl, .bool rk] 28)
  generalize w.alloc (.cells #[.int .i64 mi, .int .i64 mf, .int .i64 xf, .bool pl, .bool rk] 28) = U at *
  have m2 := heap_alloc_new U (.cells #[.bool n, .string D, .int .i64 k] 23)
  have m3 := heap_alloc_new (U.alloc (.cells #[.bool n, .string D, .int .i64 k] 23)) (.cells #[.bool false, .string ⟨#[]⟩, .int .i64 0] 23)
  have z2 : (U.alloc (.cells #[.bool n, .string D, .int .i64 k] 23)).heap.size = w.heap.size + 1 + 1 := by simp [z1]
  rw [z1] at m2
  rw [z2] at m3
  exact ⟨((Below.heap_alloc _ _ w.heap.size (by rw [z2]; omega)).trans (Below.heap_alloc _ _ w.heap.size (by rw [z1]; omega))).trans m1, (Below.heap_alloc _ _ (w.heap.size + 1) (by rw [z2]; omega)).trans m2, m3, (b1.alloc (by rw [z1]; omega) _).alloc (by rw [z2]; omega) _⟩
end
end Go.Proofs.YtgjboghnnhcgiaaGreatDoor
namespace Go.Proofs.YtgjboghnnhcgiaaGreatDoor
open Go.RowKit
set_option linter.unusedVariables false
set_option linter.unusedSimpArgs false
theorem whole_any (n : Bool) (d : ByteArray) (k : Nat) (w : World) (hk : k ≤ d.size) (hs : d.size ≤ 4611686018427387904) :
    Calls Tryz.prog 26 #[decV n d k] w fun e w' => e = .returned (.string (d.extract 0 (d.size - k))) ∧ Below w.heap.size w w' := by
  unfold decV
  have bA := (Below.refl w.heap.size w).alloc (Nat.le_refl _) (.cells #[.bool n, .string d, .int .i64 k] 23)
  have h1 : ((d.size : Int) - k).toNat = d.size - k := by omega
  go_enter Tryz.func26, Tryz.ntmps26
  go_wp2
  go_ret
  exact ⟨rfl, bA⟩
theorem part_any (n : Bool) (d : ByteArray) (k : Nat) (w : World) (hk : k ≤ d.size) (hs : d.size ≤ 4611686018427387904) :
    Calls Tryz.prog 27 #[decV n d k] w fun e w' => e = .returned (.string (d.extract (d.size - k) d.size)) ∧ Below w.heap.size w w' := by
  unfold decV
  have bA := (Below.refl w.heap.size w).alloc (Nat.le_refl _) (.cells #[.bool n, .string d, .int .i64 k] 23)
  have h1 : ((d.size : Int) - k).toNat = d.size - k := by omega
  go_enter Tryz.func27, Tryz.ntmps27
  go_wp2
  go_ret
  exact ⟨rfl, bA⟩
theorem trim0 (d : ByteArray) (w : World) (hs : d.size ≤ 4611686018427387904) :
    Calls Tryz.prog 47 #[.string d, .string ⟨#[48]⟩] w fun e w' => e = .returned (.string ⟨(Lib.trimB d.data.toList 48).toArray⟩) ∧ Below w.heap.size w w' :=
  (Tryz.strings_Trim_one d 48 (by decide) w (by omega)).mono fun e w' ⟨he, hw⟩ => ⟨he, by rcases hw with rfl | rfl; exact Below.refl _ _; exact (Below.refl _ _).drew⟩
theorem trimL0 (d : ByteArray) (w : World) :
    Calls Tryz.prog 48 #[.string d, .string ⟨#[48]⟩] w fun e w' => e = .returned (.string ⟨(Lib.trimLeftB d.data.toList 48).toArray⟩) ∧ Below w.heap.size w w' :=
  (Tryz.strings_TrimLeft_one d 48 (by decide) w).mono fun e w' ⟨he, hw⟩ => ⟨he, by subst hw; exact Below.refl _ _⟩
theorem zero_any (n : Bool) (d : ByteArray) (k : Int) (w : World) (hs : d.size ≤ 4611686018427387904) :
    Calls Tryz.prog 28 #[decV n d k] w fun e w' => e = .returned (.bool (Lib.trimB d.data.toList 48).isEmpty) ∧ Below w.heap.size w w' := by
  unfold decV
  have bA := (Below.refl w.heap.size w).alloc (Nat.le_refl _) (.cells #[.bool n, .string d, .int .i64 k] 23)
  have hsz := bA.size
  obtain ⟨L, hL⟩ : ∃ L, Lib.trimB d.data.toList 48 = L := ⟨_, rfl⟩
  have cT := fun w => trim0 d w hs
  rw [hL] at cT ⊢
  clear hL
  go_enter Tryz.func28, Tryz.ntmps28
  go_wp2_with (go_at_call 47; refine (cT _).mono ?_; rintro e W1 ⟨rfl, b1⟩)
  go_ret
  exact ⟨rfl, bA.trans (b1.mono hsz)⟩
end Go.Proofs.YtgjboghnnhcgiaaGreatDoor
namespace Go.Proofs.YtgjboghnnhcgiaaGreatDoor
open Go.RowKit
set_option linter.unusedVariables false
set_option linter.unusedSimpArgs false
def numV (L : List UInt8) (v : Int) (b : Bool) : Value := .agg #[.string ⟨L.toArray⟩, .int .i64 v, .bool b]
def got (w : World) (a : Addr) : Value := (w.cell? a).getD (.bool false)
theorem got_of {w : World} {a : Addr} (h : (w.cell? a).isSome = true) : w.cell? a = some (got w a) := by
  obtain ⟨v, hv⟩ := Option.isSome_iff_exists.1 h
  simp [got, hv]
theorem got_below {W W1 : World} {B : Nat} {a : Addr} (b : Below B W W1) (hB : W.heap.size ≤ B) (h : W.cell? a = some (got W a)) : W1.cell? a = some (got W1 a) :=
  got_of (by rw [below_cellOf b hB h]; rfl)
theorem below_frozenOf {W W1 : World} {B : Nat} {a : Addr} {v : Value} {z : Bool} (b : Below B W W1) (hB : W.heap.size ≤ B) (hc : W.cell? a = some v) (h : W.frozen? a = z) : W1.frozen? a = z :=
  (b.frozen (Nat.lt_of_lt_of_le (World.block_lt_of_cell? _ _ hc) hB)).trans h
theorem got_set {W : World} {a b : Addr} {v : Value} (h : W.cell? b = some (got W b)) : (W.setCell a v).cell? b = some (got (W.setCell a v) b) := by
  refine got_of ?_
  by_cases e : a = b
  · subst e; rw [World.cell?_setCell_same W a v h]; rfl
  · rw [World.cell?_setCell_other W a b v e, h]; rfl
theorem far_set {W : World} {a b : Addr} {v x : Value} (h : W.cell? b = some x) (hne : a.block ≠ b.block) : (W.setCell a v).cell? b = some x := by rw [World.cell?_setCell_far W a b v hne]; exact h
theorem fro_set {W : World} {a b : Addr} {v : Value} (h : W.frozen? b = false) : (W.setCell a v).frozen? b = false := by rw [World.frozen?_setCell]; exact h
theorem held3 {w W W1 : World} {B : Nat} {a0 a1 a2 r0 r1 r2 : Addr} {v0 v1 v2 : Value} (b : Below B W W1) (hB : W.heap.size ≤ B)
    (h : W.cell? a0 = some v0 ∧ W.cell? a1 = some v1 ∧ W.cell? a2 = some v2 ∧ W.cell? r0 = some (got W r0) ∧ W.cell? r1 = some (got W r1) ∧ W.cell? r2 = some (got W r2) ∧ W.frozen? r0 = false ∧ W.frozen? r1 = false ∧ W.frozen? r2 = false ∧ Below w.heap.size w W) :
    W1.cell? a0 = some v0 ∧ W1.cell? a1 = some v1 ∧ W1.cell? a2 = some v2 ∧ W1.cell? r0 = some (got W1 r0) ∧ W1.cell? r1 = some (got W1 r1) ∧ W1.cell? r2 = some (got W1 r2) ∧ W1.frozen? r0 = false ∧ W1.frozen? r1 = false ∧ W1.frozen? r2 = false ∧ Below w.heap.size w W1 :=
  ⟨below_cellOf b hB h.1, below_cellOf b hB h.2.1, below_cellOf b hB h.2.2.1, got_below b hB h.2.2.2.1, got_below b hB h.2.2.2.2.1, got_below b hB h.2.2.2.2.2.1, below_frozenOf b hB h.2.2.2.1 h.2.2.2.2.2.2.1, below_frozenOf b hB h.2.2.2.2.1 h.2.2.2.2.2.2.2.1, below_frozenOf b hB h.2.2.2.2.2.1 h.2.2.2.2.2.2.2.2.1, below_on h.2.2.2.2.2.2.2.2.2 b (Nat.le_trans h.2.2.2.2.2.2.2.2.2.size hB)⟩
theorem held3_set {w W : World} {i0 i1 i2 : Nat} {v0 v1 v2 x y z : Value}
    (h : W.cell? ⟨w.heap.size, 0, none⟩ = some v0 ∧ W.cell? ⟨w.heap.size, 1, none⟩ = some v1 ∧ W.cell? ⟨w.heap.size, 2, none⟩ = some v2 ∧ W.cell? ⟨w.heap.size + 1, 0, none⟩ = some (got W ⟨w.heap.size + 1, 0, none⟩) ∧ W.cell? ⟨w.heap.size + 1, 1, none⟩ = some (got W ⟨w.heap.size + 1, 1, none⟩) ∧ W.cell? ⟨w.heap.size + 1, 2, none⟩ = some (got W ⟨w.heap.size + 1, 2, none⟩) ∧ W.frozen? ⟨w.heap.size + 1, 0, none⟩ = false ∧ W.frozen? ⟨w.heap.size + 1, 1, none⟩ = false ∧ W.frozen? ⟨w.heap.size + 1, 2, none⟩ = false ∧ Below w.heap.size w W) :
    let W1 := ((W.setCell ⟨w.heap.size + 1, i0, none⟩ x).setCell ⟨w.heap.size + 1, i1, none⟩ y).setCell ⟨w.heap.size + 1, i2, none⟩ z
    W1.cell? ⟨w.heap.size, 0, none⟩ = some v0 ∧ W1.cell? ⟨w.heap.size, 1, none⟩ = some v1 ∧ W1.cell? ⟨w.heap.size, 2, none⟩ = some v2 ∧ W1.cell? ⟨w.heap.size + 1, 0, none⟩ = some (got W1 ⟨w.heap.size + 1, 0, none⟩) ∧ W1.cell? ⟨w.heap.size + 1, 1, none⟩ = some (got W1 ⟨w.heap.size + 1, 1, none⟩) ∧ W1.cell? ⟨w.heap.size + 1, 2, none⟩ = some (got W1 ⟨w.heap.size + 1, 2, none⟩) ∧ W1.frozen? ⟨w.heap.size + 1, 0, none⟩ = false ∧ W1.frozen? ⟨w.heap.size + 1, 1, none⟩ = false ∧ W1.frozen? ⟨w.heap.size + 1, 2, none⟩ = false ∧ Below w.heap.size w W1 :=
  have hne : w.heap.size + 1 ≠ w.heap.size := Nat.succ_ne_self _
  ⟨far_set (far_set (far_set h.1 hne) hne) hne, far_set (far_set (far_set h.2.1 hne) hne) hne, far_set (far_set (far_set h.2.2.1 hne) hne) hne, got_set (got_set (got_set h.2.2.2.1)), got_set (got_set (got_set h.2.2.2.2.1)), got_set (got_set (got_set h.2.2.2.2.2.1)), fro_set (fro_set (fro_set h.2.2.2.2.2.2.1)), fro_set (fro_set (fro_set h.2.2.2.2.2.2.2.1)), fro_set (fro_set (fro_set h.2.2.2.2.2.2.2.2.1)), ((h.2.2.2.2.2.2.2.2.2.setCell (Nat.le_succ _) x).setCell (Nat.le_succ _) y).setCell (Nat.le_succ _) z⟩
theorem got_same {W : World} {a : Addr} {v u : Value} (h : W.cell? a = some u) : got (W.setCell a v) a = v := by unfold got; rw [World.cell?_setCell_same W a v h]; rfl
theorem got_other {W : World} {a b : Addr} {v : Value} (h : a ≠ b) : got (W.setCell a v) b = got W b := by unfold got; rw [World.cell?_setCell_other W a b v h]
theorem held3_ret {w W : World} {v0 v1 v2 x y z : Value}
    (h : W.cell? ⟨w.heap.size, 0, none⟩ = some v0 ∧ W.cell? ⟨w.heap.size, 1, none⟩ = some v1 ∧ W.cell? ⟨w.heap.size, 2, none⟩ = some v2 ∧ W.cell? ⟨w.heap.size + 1, 0, none⟩ = some (got W ⟨w.heap.size + 1, 0, none⟩) ∧ W.cell? ⟨w.heap.size + 1, 1, none⟩ = some (got W ⟨w.heap.size + 1, 1, none⟩) ∧ W.cell? ⟨w.heap.size + 1, 2, none⟩ = some (got W ⟨w.heap.size + 1, 2, none⟩) ∧ W.frozen? ⟨w.heap.size + 1, 0, none⟩ = false ∧ W.frozen? ⟨w.heap.size + 1, 1, none⟩ = false ∧ W.frozen? ⟨w.heap.size + 1, 2, none⟩ = false ∧ Below w.heap.size w W) :
    let W1 := ((W.setCell ⟨w.heap.size + 1, 0, none⟩ x).setCell ⟨w.heap.size + 1, 1, none⟩ y).setCell ⟨w.heap.size + 1, 2, none⟩ z
    Ending.returned (.agg #[got W1 ⟨w.heap.size + 1, 0, none⟩, got W1 ⟨w.heap.size + 1, 1, none⟩, got W1 ⟨w.heap.size + 1, 2, none⟩]) = .returned (.agg #[x, y, z]) ∧ Below w.heap.size w W1 := by
  intro W1
  have e0 : got W1 ⟨w.heap.size + 1, 0, none⟩ = x := by rw [got_other (by simp), got_other (by simp)]; exact got_same h.2.2.2.1
  have e1 : got W1 ⟨w.heap.size + 1, 1, none⟩ = y := by rw [got_other (by simp)]; exact got_same (got_set h.2.2.2.2.1)
  have e2 : got W1 ⟨w.heap.size + 1, 2, none⟩ = z := got_same (got_set (got_set h.2.2.2.2.2.1))
  rw [e0, e1, e2]
  exact ⟨rfl, (held3_set h).2.2.2.2.2.2.2.2.2⟩
theorem of_any (n : Bool) (d : ByteArray) (k : Nat) (w : World) (hk : k ≤ d.size) (hs : d.size ≤ 4611686018427387904) :
    Calls Tryz.prog 55 #[decV n d k] w fun e w' => e = .returned (numV (Lib.trimLeftB (d.data.toList.take (d.size - k)) 48) k (Lib.trimB (d.data.toList.drop (d.size - k)) 48).isEmpty) ∧ Below w.heap.size w w' := by
  have cW := fun w => whole_any n d k w hk hs
  have cP := fun w => part_any n d k w hk hs
  have e1 : (d.extract 0 (d.size - k)).data.toList = d.data.toList.take (d.size - k) := by simp
  have e2 : (d.extract (d.size - k) d.size).data.toList = d.data.toList.drop (d.size - k) := by
    have := Lib.size_eq d
    simp
    rw [List.take_of_length_le (by rw [List.length_drop]; omega)]
  have cL := fun w => trimL0 (d.extract 0 (d.size - k)) w
  have cT := fun w => trim0 (d.extract (d.size - k) d.size) w (by simp; omega)
  rw [e1] at cL
  rw [e2] at cT
  clear e1 e2
  unfold numV
  generalize d.extract 0 (d.size - k) = x1 at *
  generalize d.extract (d.size - k) d.size = x2 at *
  generalize Lib.trimLeftB (d.data.toList.take (d.size - k)) 48 = x3 at *
  generalize Lib.trimB (d.data.toList.drop (d.size - k)) 48 = x4 at *
  unfold decV at *
  have bA := ((Below.refl w.heap.size w).alloc (Nat.le_refl _) (.cells #[.bool n, .string d, .int .i64 k] 23)).alloc (by simp) (.cells #[.string ⟨#[]⟩, .int .i64 0, .bool false] 107)
  have bAd := bA.drew
  go_enter Tryz.func55, Tryz.ntmps55
  go_wp2
  go_region_held3 (fun w' => w'.cell? ⟨w.heap.size, 0, none⟩ = some (.bool n) ∧ w'.cell? ⟨w.heap.size, 1, none⟩ = some (.string d) ∧ w'.cell? ⟨w.heap.size, 2, none⟩ = some (.int .i64 k) ∧ w'.cell? ⟨w.heap.size + 1, 0, none⟩ = some (got w' ⟨w.heap.size + 1, 0, none⟩) ∧ w'.cell? ⟨w.heap.size + 1, 1, none⟩ = some (got w' ⟨w.heap.size + 1, 1, none⟩) ∧ w'.cell? ⟨w.heap.size + 1, 2, none⟩ = some (got w' ⟨w.heap.size + 1, 2, none⟩) ∧ w'.frozen? ⟨w.heap.size + 1, 0, none⟩ = false ∧ w'.frozen? ⟨w.heap.size + 1, 1, none⟩ = false ∧ w'.frozen? ⟨w.heap.size + 1, 2, none⟩ = false ∧ Below w.heap.size w w')
   (first | exact ⟨by go_keep, by go_keep, by go_keep, got_of (by go_keep), got_of (by go_keep), got_of (by go_keep), by go_keep, by go_keep, by go_keep, bAd⟩ | exact h10 | exact held3_set h10)
   (first
    | (go_at_call 26; refine (cW _).mono ?_; rintro e W1 ⟨rfl, b1⟩; have h10 := held3 b1 (Nat.le_refl _) (by assumption))
    | (go_at_call 27; refine (cP _).mono ?_; rintro e W1 ⟨rfl, b1⟩; have h10 := held3 b1 (Nat.le_refl _) (by assumption))
    | (go_at_call 48; refine (cL _).mono ?_; rintro e W1 ⟨rfl, b1⟩; have h10 := held3 b1 (Nat.le_refl _) (by assumption))
    | (go_at_call 47; refine (cT _).mono ?_; rintro e W1 ⟨rfl, b1⟩; have h10 := held3 b1 (Nat.le_refl _) (by assumption)))
  go_wp2
  refine bodyPost_ret (by simp [*, results, Tryz.results55, go_sem]; rfl) rfl ?_
  exact held3_ret h10
end Go.Proofs.YtgjboghnnhcgiaaGreatDoor
namespace Go.Proofs.YtgjboghnnhcgiaaGreatDoor
open Go.RowKit
set_option linter.unusedVariables false
set_option linter.unusedSimpArgs false
theorem held1 {w W W1 : World} {B : Nat} {a0 : Addr} {v0 : Value} (b : Below B W W1) (hB : W.heap.size ≤ B) (h : W.cell? a0 = some v0 ∧ Below w.heap.size w W) : W1.cell? a0 = some v0 ∧ Below w.heap.size w W1 :=
  ⟨below_cellOf b hB h.1, below_on h.2 b (Nat.le_trans h.2.size hB)⟩
theorem ret_int {k : IntKind} {a b : Int} (h : a = b) : Ending.returned (.int k a) = .returned (.int k b) := by rw [h]
theorem in_any (x a b : Int) (w : World) : Calls Tryz.prog 58 #[.int .i64 x, .int .i64 a, .int .i64 b] w fun e w' => e = .returned (.bool (decide (a ≤ x) && decide (x ≤ b))) ∧ w' = w := by
  by_cases h1 : a ≤ x
  · by_cases h2 : x ≤ b
    · go_enter Tryz.func58, Tryz.ntmps58
      go_wp2
      go_ret
      exact ⟨by simp [h1, h2], rfl⟩
    · go_enter Tryz.func58, Tryz.ntmps58
      go_wp2
      go_ret
      exact ⟨by simp [h1, h2], rfl⟩
  · go_enter Tryz.func58, Tryz.ntmps58
    go_wp2
    go_ret
    exact ⟨by simp; omega, rfl⟩
theorem one_any (b : Bool) (w : World) : Calls Tryz.prog 56 #[.bool b] w fun e w' => e = .returned (.int .i64 (if b then 2 else 0)) ∧ w' = w := by
  cases b with
  | true =>
    go_enter Tryz.func56, Tryz.ntmps56
    go_wp2
    go_ret
    exact ⟨rfl, rfl⟩
  | false =>
    go_enter Tryz.func56, Tryz.ntmps56
    go_wp2
    go_ret
    exact ⟨rfl, rfl⟩
theorem is_any (L c : List UInt8) (v : Int) (b : Bool) (w : World) : Calls Tryz.prog 57 #[numV L v b, .string ⟨c.toArray⟩] w fun e w' => e = .returned (.bool (L == Lib.trimLeftB c 48)) ∧ Below w.heap.size w w' := by
  unfold numV
  have bA := (Below.refl w.heap.size w).alloc (Nat.le_refl _) (.cells #[.string ⟨L.toArray⟩, .int .i64 v, .bool b] 107)
  have cL := fun w => trimL0 ⟨c.toArray⟩ w
  rw [show (⟨c.toArray⟩ : ByteArray).data.toList = c from rfl] at cL
  generalize Lib.trimLeftB c 48 = x3 at *
  go_enter Tryz.func57, Tryz.ntmps57
  go_wp2
  have bAd := bA.drew
  go_region_held3 (fun w' => w'.cell? ⟨w.heap.size, 0, none⟩ = some (.string ⟨L.toArray⟩) ∧ Below w.heap.size w w') (first | exact ⟨by go_keep, bAd⟩ | exact h10)
    (first | (go_at_call 48; refine (cL _).mono ?_; rintro e W1 ⟨rfl, b1⟩; have h10 := held1 b1 (Nat.le_refl _) (by assumption)))
  go_wp2
  go_ret
  exact ⟨rfl, h10.2⟩
def lastV (k : Nat) (L : List UInt8) : Int := (L.drop (L.length - k)).foldl (fun x c => x * 10 + ((c.toNat : Int) - 48)) 0
theorem last_any (L : List UInt8) (v : Int) (b : Bool) (k : Nat) (w : World) (hk : k ≤ 2) (hL : L.length ≤ 1000000) (hd : ∀ c ∈ L, 48 ≤ c.toNat ∧ c.toNat ≤ 57) :
    Calls Tryz.prog 59 #[numV L v b, .int .i64 k] w fun e w' => e = .returned (.int .i64 (lastV k L)) ∧ Below w.heap.size w w' := by
  unfold numV
  have bA := (Below.refl w.heap.size w).alloc (Nat.le_refl _) (.cells #[.string ⟨L.toArray⟩, .int .i64 v, .bool b] 107)
  have hsz : (⟨L.toArray⟩ : ByteArray).size = L.length := rfl
  obtain ⟨S, hS⟩ : ∃ S : ByteArray, (⟨L.toArray⟩ : ByteArray) = S := ⟨_, rfl⟩
  rw [hS] at bA hsz ⊢
  obtain ⟨R, hR⟩ : ∃ R, lastV k L = R := ⟨_, rfl⟩
  rw [hR]
  obtain ⟨T, hT⟩ : ∃ T : ByteArray, S.extract (max 0 ((L.length : Int) - k)).toNat L.length = T := ⟨_, rfl⟩
  have hTl : T.data.toList = L.drop (L.length - k) := by
    rw [← hT, ← hS]
    have e : (max 0 ((L.length : Int) - k)).toNat = L.length - k := by omega
    rw [e]
    simp
    exact List.take_of_length_le (by rw [List.length_drop]; omega)
  have hTs : T.size = min L.length k := by rw [Lib.size_eq, hTl, List.length_drop]; omega
  have hTd : ∀ j (h : j < T.size), 48 ≤ (T[j]'h).toNat ∧ (T[j]'h).toNat ≤ 57 := fun j h => hd _ (by
    have h2 : j < (L.drop (L.length - k)).length := by rw [← hTl, ← Lib.size_eq]; exact h
    have : T[j]'h = (L.drop (L.length - k))[j]'h2 := by
      have : T[j]'h = T.data.toList[j]'(by rw [← Lib.size_eq]; exact h) := rfl
      rw [this]; simp only [hTl]
    rw [this]
    exact List.mem_of_mem_drop (List.getElem_mem _))
  have hR0 : T.data.toList.foldl (fun x c => x * 10 + ((c.toNat : Int) - 48)) 0 = R := by rw [hTl]; exact hR
  have hit1 : ((w.alloc (.cells #[.string S, .int .i64 v, .bool b] 107)).iter T 0).heap[w.heap.size + 1]? = some (.stringIter T 0) := by
    have := World.iter_heap (w.alloc (.cells #[.string S, .int .i64 v, .bool b] 107)) T 0
    rw [show (w.alloc (.cells #[.string S, .int .i64 v, .bool b] 107)).heap.size = w.heap.size + 1 by simp] at this
    exact this
  have bI := bA.alloc (by simp) (.stringIter T 0)
  have HT := Lib.hid hTl; clear hTl hS hR hd
  go_enter Tryz.func59, Tryz.ntmps59
  go_wp2
  go_loopg [5] T.size (fun gk sx wx => ∃ (pos : Nat) (x : Int), sx = .int .i64 x ∧ wx.heap[w.heap.size + 1]? = some (.stringIter T pos) ∧ Below w.heap.size w wx ∧ (T.data.toList.drop pos).foldl (fun x c => x * 10 + ((c.toNat : Int) - 48)) x = R ∧ T.size ≤ pos + gk ∧ 0 ≤ x ∧ (pos = 0 → x = 0) ∧ (pos = 1 → x ≤ 9) ∧ x ≤ 99 ∧ pos ≤ T.size)
  case atStart => exact ⟨0, 0, rfl, hit1, bI, hR0, by omega, by omega, fun _ => rfl, by omega, by omega, by omega⟩
  case round =>
    obtain ⟨pos, x, rfl, hit, hbw, hacc, hfu, hx0, hp0, hp1, hx9, hpos⟩ := hrel
    clear hit1 bI bA hT
    have hsz' : w.heap.size + 1 < wr.heap.size := (Array.getElem?_eq_some_iff.1 hit).1
    by_cases hp : pos < T.size
    · obtain ⟨d1, d2⟩ := hTd pos hp
      have hnx : ∀ ty, (Instr.next (.pointer (some ⟨w.heap.size + 1, 0, none⟩)) true ty).run Tryz.prog wr = _ := fun ty => Lib.run_next_ascii_at wr (w.heap.size + 1) T pos ty hit hp (by omega)
      have hit2 := Lib.iterAt_heap wr (w.heap.size + 1) T pos (pos + 1) hit
      have hbw2 := Lib.below_iterAt hbw (k := w.heap.size + 1) (by omega) T (pos + 1)
      obtain ⟨f, rfl⟩ : ∃ f, gk = f + 1 := ⟨gk - 1, by omega⟩
      have hdr : T.data.toList.drop pos = (T[pos]'hp) :: T.data.toList.drop (pos + 1) := List.drop_eq_getElem_cons (by rw [← Lib.size_eq]; exact hp)
      rw [hdr, List.foldl_cons] at hacc
      obtain ⟨Q, hQ⟩ : ∃ Q, (T[pos]'hp).toNat = Q := ⟨_, rfl⟩
      rw [hQ] at hnx hacc d1 d2
      have hpp : pos = 0 ∨ pos = 1 := by omega
      have HA := Lib.hid hacc; clear hacc hdr
      have hxb : 0 ≤ x * 10 + ((Q : Int) - 48) ∧ (pos = 0 → x * 10 + ((Q : Int) - 48) ≤ 9) ∧ x * 10 + ((Q : Int) - 48) ≤ 99 := by omega
      go_wp2
      go_roundg f
      case measure => omega
      case rel =>
        exact ⟨pos + 1, x * 10 + ((Q : Int) - 48), rfl, hit2, hbw2, HA.out, by omega, by omega, by omega, by omega, by omega, by omega⟩
    · have hnx : ∀ ty, (Instr.next (.pointer (some ⟨w.heap.size + 1, 0, none⟩)) true ty).run Tryz.prog wr = _ := fun ty => Lib.run_next_end_at wr (w.heap.size + 1) T pos ty hit hp
      have hfin : x = R := by
        rw [List.drop_eq_nil_of_le (by rw [← Lib.size_eq]; omega)] at hacc
        exact hacc
      have HF := Lib.hid hfin; clear hfin hacc
      go_wp2
      go_ret
      exact ⟨ret_int HF.out, hbw⟩
end Go.Proofs.YtgjboghnnhcgiaaGreatDoor
namespace Go.Proofs.YtgjboghnnhcgiaaGreatDoor
open Go.RowKit
set_option linter.unusedVariables false
set_option linter.unusedSimpArgs false
def inB (x a b : Int) : Bool := decide (a ≤ x) && decide (x ≤ b)
def slavB (L : List UInt8) : Bool := inB (lastV 1 L) 2 4 && !inB (lastV 2 L) 12 14
theorem in_B (x a b : Int) (w : World) : Calls Tryz.prog 58 #[.int .i64 x, .int .i64 a, .int .i64 b] w fun e w' => e = .returned (.bool (inB x a b)) ∧ w' = w := in_any x a b w
structure Dg (L : List UInt8) : Prop where
  len : L.length ≤ 1000000
  dig : ∀ c ∈ L, 48 ≤ c.toNat ∧ c.toNat ≤ 57
theorem last1 (L : List UInt8) (v : Int) (b : Bool) (w : World) (h : Dg L) : Calls Tryz.prog 59 #[numV L v b, .int .i64 1] w fun e w' => e = .returned (.int .i64 (lastV 1 L)) ∧ Below w.heap.size w w' := last_any L v b 1 w (by omega) h.len h.dig
theorem last2 (L : List UInt8) (v : Int) (b : Bool) (w : World) (h : Dg L) : Calls Tryz.prog 59 #[numV L v b, .int .i64 2] w fun e w' => e = .returned (.int .i64 (lastV 2 L)) ∧ Below w.heap.size w w' := last_any L v b 2 w (by omega) h.len h.dig
def NAt (w : World) (L : List UInt8) (v : Int) (b : Bool) (W : World) : Prop :=
  W.cell? ⟨w.heap.size, 0, none⟩ = some (.string ⟨L.toArray⟩) ∧ W.cell? ⟨w.heap.size, 1, none⟩ = some (.int .i64 v) ∧ W.cell? ⟨w.heap.size, 2, none⟩ = some (.bool b) ∧ Below w.heap.size w W
theorem NAt.get {w W : World} {L : List UInt8} {v : Int} {b : Bool} (h : NAt w L v b W) : W.cell? ⟨w.heap.size, 0, none⟩ = some (.string ⟨L.toArray⟩) ∧ W.cell? ⟨w.heap.size, 1, none⟩ = some (.int .i64 v) ∧ W.cell? ⟨w.heap.size, 2, none⟩ = some (.bool b) := ⟨h.1, h.2.1, h.2.2.1⟩
theorem NAt.drew {w W : World} {L : List UInt8} {v : Int} {b : Bool} (h : NAt w L v b W) : NAt w L v b W.drew := ⟨by simpa using h.1, by simpa using h.2.1, by simpa using h.2.2.1, h.2.2.2.drew⟩
theorem NAt.start (w : World) (L : List UInt8) (v : Int) (b : Bool) : NAt w L v b (w.alloc (.cells #[.string ⟨L.toArray⟩, .int .i64 v, .bool b] 107)) :=
  ⟨by simp, by simp, by simp, (Below.refl _ _).alloc (Nat.le_refl _) _⟩
theorem NAt.step {w W W1 : World} {L : List UInt8} {v : Int} {b : Bool} (h : NAt w L v b W) (c : Below W.heap.size W W1) : NAt w L v b W1 :=
  ⟨below_cellOf c (Nat.le_refl _) h.1, below_cellOf c (Nat.le_refl _) h.2.1, below_cellOf c (Nat.le_refl _) h.2.2.1, below_on h.2.2.2 c h.2.2.2.size⟩
theorem NAt.calls {w W : World} {L : List UInt8} {v : Int} {b : Bool} {P : Program} {f : FuncId} {args : Array Value} {r : Value} (h : NAt w L v b W) (c : Calls P f args W fun e w' => e = .returned r ∧ Below W.heap.size W w') : Calls P f args W fun e w' => e = .returned r ∧ NAt w L v b w' :=
  c.mono fun e w' ⟨he, hb⟩ => ⟨he, h.step hb⟩
theorem same_below {P : Program} {f : FuncId} {args : Array Value} {r : Value} {W : World} (c : Calls P f args W fun e w' => e = .returned r ∧ w' = W) : Calls P f args W fun e w' => e = .returned r ∧ Below W.heap.size W w' :=
  c.mono fun e w' ⟨he, hw⟩ => ⟨he, hw ▸ Below.refl _ _⟩
theorem slavic_any (L : List UInt8) (v : Int) (b : Bool) (w : World) (h : Dg L) : Calls Tryz.prog 123 #[numV L v b] w fun e w' => e = .returned (.bool (slavB L)) ∧ Below w.heap.size w w' := by
  have c1 := fun W (n : NAt w L v b W) => n.calls (last1 L v b W h)
  have c2 := fun W (n : NAt w L v b W) => n.calls (last2 L v b W h)
  have i1 := fun W (n : NAt w L v b W) => n.calls (same_below (in_B (lastV 1 L) 2 4 W))
  have i2 := fun W (n : NAt w L v b W) => n.calls (same_below (in_B (lastV 2 L) 12 14 W))
  unfold slavB
  generalize lastV 1 L = l1 at *
  generalize lastV 2 L = l2 at *
  generalize inB l1 2 4 = B1 at *
  generalize inB l2 12 14 = B2 at *
  have hN0 := NAt.start w L v b
  unfold numV at *
  cases B1 <;> cases B2
  all_goals
    go_enter Tryz.func123, Tryz.ntmps123
    go_wp2_with (first
      | (go_at_call 59; ((with_reducible refine (c1 _ (by first | assumption | (refine NAt.drew ?_; assumption))).mono ?_); rintro e W1 ⟨rfl, hN1⟩; obtain ⟨n0, n1, n2⟩ := hN1.get))
      | (go_at_call 59; ((with_reducible refine (c2 _ (by first | assumption | (refine NAt.drew ?_; assumption))).mono ?_); rintro e W1 ⟨rfl, hN1⟩; obtain ⟨n0, n1, n2⟩ := hN1.get))
      | (go_at_call 58; ((with_reducible refine (i1 _ (by first | assumption | (refine NAt.drew ?_; assumption))).mono ?_); rintro e W1 ⟨rfl, hN1⟩; obtain ⟨n0, n1, n2⟩ := hN1.get))
      | (go_at_call 58; ((with_reducible refine (i2 _ (by first | assumption | (refine NAt.drew ?_; assumption))).mono ?_); rintro e W1 ⟨rfl, hN1⟩; obtain ⟨n0, n1, n2⟩ := hN1.get)))
    go_ret
    exact ⟨rfl, hN1.2.2.2⟩
def polC (L : List UInt8) (v : Int) : Int := if v == 0 then (if L == [49] then 2 else if slavB L then 4 else 5) else 0
def rusC (L : List UInt8) (v : Int) : Int := if v == 0 then (if lastV 1 L == 1 && !(lastV 2 L == 11) then 2 else if slavB L then 4 else 5) else 0
def czeC (L : List UInt8) (v : Int) : Int := if v == 0 then (if L == [49] then 2 else if L.length == 1 && inB (lastV 1 L) 2 4 then 4 else 0) else 5
def araC (L : List UInt8) (b : Bool) : Int := if b then (if L == [] then 1 else if L == [49] then 2 else if L == [50] then 3 else if inB (lastV 2 L) 3 10 then 4 else if inB (lastV 2 L) 11 99 then 5 else 0) else 0
def enC (L : List UInt8) (v : Int) : Int := if v == 0 && L == [49] then 2 else 0
def frC (L : List UInt8) : Int := if L == [] || L == [49] then 2 else 0
def esC (L : List UInt8) (b : Bool) : Int := if b && L == [49] then 2 else 0
set_option maxHeartbeats 4000000 in
theorem polish_any (L : List UInt8) (v : Int) (b : Bool) (w : World) (h : Dg L) : Calls Tryz.prog 96 #[numV L v b] w fun e w' => e = .returned (.int .i64 (polC L v)) ∧ Below w.heap.size w w' := by
  have c0 := fun W (n : NAt w L v b W) => n.calls (is_any L [49] v b W)
  have c1 := fun W (n : NAt w L v b W) => n.calls (slavic_any L v b W h)
  have hN0 := NAt.start w L v b
  simp only [show Lib.trimLeftB [48] 48 = [] from rfl, show Lib.trimLeftB [49] 48 = [49] from rfl, show Lib.trimLeftB [50] 48 = [50] from rfl] at *
  unfold polC
  generalize slavB L = S at *
  generalize (L == [49]) = I1 at *
  clear h
  unfold numV at *
  obtain ⟨V, hV⟩ : ∃ V, (v == 0) = V := ⟨_, rfl⟩
  rw [hV]
  cases V <;> cases S <;> cases I1
  all_goals
    go_enter Tryz.func96, Tryz.ntmps96
    go_wp2_with (first
      | (go_at_call 57; ((with_reducible refine (c0 _ (by first | assumption | (refine NAt.drew ?_; assumption))).mono ?_); rintro e W1 ⟨rfl, hN1⟩; obtain ⟨n0, n1, n2⟩ := hN1.get))
      | (go_at_call 123; ((with_reducible refine (c1 _ (by first | assumption | (refine NAt.drew ?_; assumption))).mono ?_); rintro e W1 ⟨rfl, hN1⟩; obtain ⟨n0, n1, n2⟩ := hN1.get)))
    go_returns
    first | exact ⟨rfl, hN1.2.2.2⟩ | exact ⟨rfl, hN0.2.2.2⟩ | exact ⟨by simp [*], hN1.2.2.2⟩ | exact ⟨by simp [*], hN0.2.2.2⟩
set_option maxHeartbeats 4000000 in
theorem russian_any (L : List UInt8) (v : Int) (b : Bool) (w : World) (h : Dg L) : Calls Tryz.prog 97 #[numV L v b] w fun e w' => e = .returned (.int .i64 (rusC L v)) ∧ Below w.heap.size w w' := by
  have c0 := fun W (n : NAt w L v b W) => n.calls (last1 L v b W h)
  have c1 := fun W (n : NAt w L v b W) => n.calls (last2 L v b W h)
  have c2 := fun W (n : NAt w L v b W) => n.calls (slavic_any L v b W h)
  have hN0 := NAt.start w L v b
  unfold rusC
  generalize slavB L = S at *
  generalize lastV 1 L = x1 at *
  generalize lastV 2 L = x2 at *
  clear h
  unfold numV at *
  obtain ⟨V, hV⟩ : ∃ V, (v == 0) = V := ⟨_, rfl⟩
  rw [hV]
  obtain ⟨E1, hE1⟩ : ∃ V, (x1 == 1) = V := ⟨_, rfl⟩
  obtain ⟨E2, hE2⟩ : ∃ V, (x2 == 11) = V := ⟨_, rfl⟩
  rw [hE1, hE2]
  cases V <;> cases S <;> cases E1 <;> cases E2
  all_goals
    go_enter Tryz.func97, Tryz.ntmps97
    go_wp2_with (first
      | (go_at_call 59; ((with_reducible refine (c0 _ (by first | assumption | (refine NAt.drew ?_; assumption))).mono ?_); rintro e W1 ⟨rfl, hN1⟩; obtain ⟨n0, n1, n2⟩ := hN1.get))
      | (go_at_call 59; ((with_reducible refine (c1 _ (by first | assumption | (refine NAt.drew ?_; assumption))).mono ?_); rintro e W1 ⟨rfl, hN1⟩; obtain ⟨n0, n1, n2⟩ := hN1.get))
      | (go_at_call 123; ((with_reducible refine (c2 _ (by first | assumption | (refine NAt.drew ?_; assumption))).mono ?_); rintro e W1 ⟨rfl, hN1⟩; obtain ⟨n0, n1, n2⟩ := hN1.get)))
    go_returns
    first | exact ⟨rfl, hN1.2.2.2⟩ | exact ⟨rfl, hN0.2.2.2⟩ | exact ⟨by simp [*], hN1.2.2.2⟩ | exact ⟨by simp [*], hN0.2.2.2⟩
set_option maxHeartbeats 4000000 in
theorem czech_any (L : List UInt8) (v : Int) (b : Bool) (w : World) (h : Dg L) : Calls Tryz.prog 98 #[numV L v b] w fun e w' => e = .returned (.int .i64 (czeC L v)) ∧ Below w.heap.size w w' := by
  have c0 := fun W (n : NAt w L v b W) => n.calls (is_any L [49] v b W)
  have c1 := fun W (n : NAt w L v b W) => n.calls (last1 L v b W h)
  have c2 := fun W (n : NAt w L v b W) => n.calls (same_below (in_B (lastV 1 L) 2 4 W))
  have hN0 := NAt.start w L v b
  simp only [show Lib.trimLeftB [48] 48 = [] from rfl, show Lib.trimLeftB [49] 48 = [49] from rfl, show Lib.trimLeftB [50] 48 = [50] from rfl] at *
  unfold czeC
  generalize inB (lastV 1 L) 2 4 = J at *
  generalize lastV 1 L = x1 at *
  generalize (L == [49]) = I1 at *
  clear h
  unfold numV at *
  obtain ⟨V, hV⟩ : ∃ V, (v == 0) = V := ⟨_, rfl⟩
  rw [hV]
  obtain ⟨E1, hE1⟩ : ∃ V, (L.length == 1) = V := ⟨_, rfl⟩
  rw [hE1]
  have hE2 : ((L.length : Int) == 1) = E1 := by rw [← hE1]; exact Bool.eq_iff_iff.2 (by simp; omega)
  cases V <;> cases J <;> cases E1 <;> cases I1
  all_goals
    go_enter Tryz.func98, Tryz.ntmps98
    go_wp2_with (first
      | (go_at_call 57; ((with_reducible refine (c0 _ (by first | assumption | (refine NAt.drew ?_; assumption))).mono ?_); rintro e W1 ⟨rfl, hN1⟩; obtain ⟨n0, n1, n2⟩ := hN1.get))
      | (go_at_call 59; ((with_reducible refine (c1 _ (by first | assumption | (refine NAt.drew ?_; assumption))).mono ?_); rintro e W1 ⟨rfl, hN1⟩; obtain ⟨n0, n1, n2⟩ := hN1.get))
      | (go_at_call 58; ((with_reducible refine (c2 _ (by first | assumption | (refine NAt.drew ?_; assumption))).mono ?_); rintro e W1 ⟨rfl, hN1⟩; obtain ⟨n0, n1, n2⟩ := hN1.get)))
    go_returns
    first | exact ⟨rfl, hN1.2.2.2⟩ | exact ⟨rfl, hN0.2.2.2⟩ | exact ⟨by simp [*], hN1.2.2.2⟩ | exact ⟨by simp [*], hN0.2.2.2⟩
set_option maxHeartbeats 4000000 in
theorem arabic_any (L : List UInt8) (v : Int) (b : Bool) (w : World) (h : Dg L) : Calls Tryz.prog 99 #[numV L v b] w fun e w' => e = .returned (.int .i64 (araC L b)) ∧ Below w.heap.size w w' := by
  have c0 := fun W (n : NAt w L v b W) => n.calls (is_any L [48] v b W)
  have c1 := fun W (n : NAt w L v b W) => n.calls (is_any L [49] v b W)
  have c2 := fun W (n : NAt w L v b W) => n.calls (is_any L [50] v b W)
  have c3 := fun W (n : NAt w L v b W) => n.calls (last2 L v b W h)
  have c4 := fun W (n : NAt w L v b W) => n.calls (same_below (in_B (lastV 2 L) 3 10 W))
  have c5 := fun W (n : NAt w L v b W) => n.calls (same_below (in_B (lastV 2 L) 11 99 W))
  have hN0 := NAt.start w L v b
  simp only [show Lib.trimLeftB [48] 48 = [] from rfl, show Lib.trimLeftB [49] 48 = [49] from rfl, show Lib.trimLeftB [50] 48 = [50] from rfl] at *
  unfold araC
  generalize inB (lastV 2 L) 3 10 = J at *
  generalize inB (lastV 2 L) 11 99 = K at *
  generalize lastV 2 L = x1 at *
  generalize (L == []) = I0 at *
  generalize (L == [49]) = I1 at *
  generalize (L == [50]) = I2 at *
  clear h
  unfold numV at *
  rcases b with _ | _
  rotate_left
  rcases I0 with _ | _
  rcases I1 with _ | _
  rcases I2 with _ | _
  rcases J with _ | _
  rcases K with _ | _
  all_goals
    go_enter Tryz.func99, Tryz.ntmps99
    go_wp2_with (first
      | (go_at_call 57; ((with_reducible refine (c0 _ (by first | assumption | (refine NAt.drew ?_; assumption))).mono ?_); rintro e W1 ⟨rfl, hN1⟩; obtain ⟨n0, n1, n2⟩ := hN1.get))
      | (go_at_call 57; ((with_reducible refine (c1 _ (by first | assumption | (refine NAt.drew ?_; assumption))).mono ?_); rintro e W1 ⟨rfl, hN1⟩; obtain ⟨n0, n1, n2⟩ := hN1.get))
      | (go_at_call 57; ((with_reducible refine (c2 _ (by first | assumption | (refine NAt.drew ?_; assumption))).mono ?_); rintro e W1 ⟨rfl, hN1⟩; obtain ⟨n0, n1, n2⟩ := hN1.get))
      | (go_at_call 59; ((with_reducible refine (c3 _ (by first | assumption | (refine NAt.drew ?_; assumption))).mono ?_); rintro e W1 ⟨rfl, hN1⟩; obtain ⟨n0, n1, n2⟩ := hN1.get))
      | (go_at_call 58; ((with_reducible refine (c4 _ (by first | assumption | (refine NAt.drew ?_; assumption))).mono ?_); rintro e W1 ⟨rfl, hN1⟩; obtain ⟨n0, n1, n2⟩ := hN1.get))
      | (go_at_call 58; ((with_reducible refine (c5 _ (by first | assumption | (refine NAt.drew ?_; assumption))).mono ?_); rintro e W1 ⟨rfl, hN1⟩; obtain ⟨n0, n1, n2⟩ := hN1.get)))
    go_returns
    first | exact ⟨rfl, hN1.2.2.2⟩ | exact ⟨rfl, hN0.2.2.2⟩ | exact ⟨by simp [*], hN1.2.2.2⟩ | exact ⟨by simp [*], hN0.2.2.2⟩
set_option maxHeartbeats 4000000 in
theorem en_any (L : List UInt8) (v : Int) (b : Bool) (w : World) (h : Dg L) : Calls Tryz.prog 93 #[numV L v b] w fun e w' => e = .returned (.int .i64 (enC L v)) ∧ Below w.heap.size w w' := by
  have c0 := fun W (n : NAt w L v b W) => n.calls (is_any L [49] v b W)
  have c1 := fun W (n : NAt w L v b W) => n.calls (same_below (one_any true W))
  have c2 := fun W (n : NAt w L v b W) => n.calls (same_below (one_any false W))
  have hN0 := NAt.start w L v b
  simp only [show Lib.trimLeftB [48] 48 = [] from rfl, show Lib.trimLeftB [49] 48 = [49] from rfl, show Lib.trimLeftB [50] 48 = [50] from rfl] at *
  unfold enC
  generalize (L == [49]) = I1 at *
  clear h
  unfold numV at *
  obtain ⟨V, hV⟩ : ∃ V, (v == 0) = V := ⟨_, rfl⟩
  rw [hV]
  cases V <;> cases I1
  all_goals
    go_enter Tryz.func93, Tryz.ntmps93
    go_wp2_with (first
      | (go_at_call 57; ((with_reducible refine (c0 _ (by first | assumption | (refine NAt.drew ?_; assumption))).mono ?_); rintro e W1 ⟨rfl, hN1⟩; obtain ⟨n0, n1, n2⟩ := hN1.get))
      | (go_at_call 56; ((with_reducible refine (c1 _ (by first | assumption | (refine NAt.drew ?_; assumption))).mono ?_); rintro e W1 ⟨rfl, hN1⟩; obtain ⟨n0, n1, n2⟩ := hN1.get))
      | (go_at_call 56; ((with_reducible refine (c2 _ (by first | assumption | (refine NAt.drew ?_; assumption))).mono ?_); rintro e W1 ⟨rfl, hN1⟩; obtain ⟨n0, n1, n2⟩ := hN1.get)))
    go_returns
    first | exact ⟨rfl, hN1.2.2.2⟩ | exact ⟨rfl, hN0.2.2.2⟩ | exact ⟨by simp [*], hN1.2.2.2⟩ | exact ⟨by simp [*], hN0.2.2.2⟩
set_option maxHeartbeats 4000000 in
theorem fr_any (L : List UInt8) (v : Int) (b : Bool) (w : World) (h : Dg L) : Calls Tryz.prog 94 #[numV L v b] w fun e w' => e = .returned (.int .i64 (frC L)) ∧ Below w.heap.size w w' := by
  have c0 := fun W (n : NAt w L v b W) => n.calls (is_any L [48] v b W)
  have c1 := fun W (n : NAt w L v b W) => n.calls (is_any L [49] v b W)
  have c2 := fun W (n : NAt w L v b W) => n.calls (same_below (one_any true W))
  have c3 := fun W (n : NAt w L v b W) => n.calls (same_below (one_any false W))
  have hN0 := NAt.start w L v b
  simp only [show Lib.trimLeftB [48] 48 = [] from rfl, show Lib.trimLeftB [49] 48 = [49] from rfl, show Lib.trimLeftB [50] 48 = [50] from rfl] at *
  unfold frC
  generalize (L == []) = I0 at *
  generalize (L == [49]) = I1 at *
  clear h
  unfold numV at *
  cases I0 <;> cases I1
  all_goals
    go_enter Tryz.func94, Tryz.ntmps94
    go_wp2_with (first
      | (go_at_call 57; ((with_reducible refine (c0 _ (by first | assumption | (refine NAt.drew ?_; assumption))).mono ?_); rintro e W1 ⟨rfl, hN1⟩; obtain ⟨n0, n1, n2⟩ := hN1.get))
      | (go_at_call 57; ((with_reducible refine (c1 _ (by first | assumption | (refine NAt.drew ?_; assumption))).mono ?_); rintro e W1 ⟨rfl, hN1⟩; obtain ⟨n0, n1, n2⟩ := hN1.get))
      | (go_at_call 56; ((with_reducible refine (c2 _ (by first | assumption | (refine NAt.drew ?_; assumption))).mono ?_); rintro e W1 ⟨rfl, hN1⟩; obtain ⟨n0, n1, n2⟩ := hN1.get))
      | (go_at_call 56; ((with_reducible refine (c3 _ (by first | assumption | (refine NAt.drew ?_; assumption))).mono ?_); rintro e W1 ⟨rfl, hN1⟩; obtain ⟨n0, n1, n2⟩ := hN1.get)))
    go_returns
    first | exact ⟨rfl, hN1.2.2.2⟩ | exact ⟨rfl, hN0.2.2.2⟩ | exact ⟨by simp [*], hN1.2.2.2⟩ | exact ⟨by simp [*], hN0.2.2.2⟩
set_option maxHeartbeats 4000000 in
theorem es_any (L : List UInt8) (v : Int) (b : Bool) (w : World) (h : Dg L) : Calls Tryz.prog 95 #[numV L v b] w fun e w' => e = .returned (.int .i64 (esC L b)) ∧ Below w.heap.size w w' := by
  have c0 := fun W (n : NAt w L v b W) => n.calls (is_any L [49] v b W)
  have c1 := fun W (n : NAt w L v b W) => n.calls (same_below (one_any true W))
  have c2 := fun W (n : NAt w L v b W) => n.calls (same_below (one_any false W))
  have hN0 := NAt.start w L v b
  simp only [show Lib.trimLeftB [48] 48 = [] from rfl, show Lib.trimLeftB [49] 48 = [49] from rfl, show Lib.trimLeftB [50] 48 = [50] from rfl] at *
  unfold esC
  generalize (L == [49]) = I1 at *
  clear h
  unfold numV at *
  cases b <;> cases I1
  all_goals
    go_enter Tryz.func95, Tryz.ntmps95
    go_wp2_with (first
      | (go_at_call 57; ((with_reducible refine (c0 _ (by first | assumption | (refine NAt.drew ?_; assumption))).mono ?_); rintro e W1 ⟨rfl, hN1⟩; obtain ⟨n0, n1, n2⟩ := hN1.get))
      | (go_at_call 56; ((with_reducible refine (c1 _ (by first | assumption | (refine NAt.drew ?_; assumption))).mono ?_); rintro e W1 ⟨rfl, hN1⟩; obtain ⟨n0, n1, n2⟩ := hN1.get))
      | (go_at_call 56; ((with_reducible refine (c2 _ (by first | assumption | (refine NAt.drew ?_; assumption))).mono ?_); rintro e W1 ⟨rfl, hN1⟩; obtain ⟨n0, n1, n2⟩ := hN1.get)))
    go_returns
    first | exact ⟨rfl, hN1.2.2.2⟩ | exact ⟨rfl, hN0.2.2.2⟩ | exact ⟨by simp [*], hN1.2.2.2⟩ | exact ⟨by simp [*], hN0.2.2.2⟩
end Go.Proofs.YtgjboghnnhcgiaaGreatDoor
namespace Go.Proofs.YtgjboghnnhcgiaaGreatDoor
open Go.RowKit
set_option linter.unusedVariables false
set_option linter.unusedSimpArgs false
def rulesCells : Array Value := #[.string ⟨#[101, 110, 32, 100, 101, 32, 110, 108, 32, 115, 118]⟩, .func (.func 93) #[] #[], .string ⟨#[102, 114]⟩, .func (.func 94) #[] #[],
  .string ⟨#[101, 115]⟩, .func (.func 95) #[] #[], .string ⟨#[112, 108]⟩, .func (.func 96) #[] #[], .string ⟨#[114, 117]⟩, .func (.func 97) #[] #[],
  .string ⟨#[99, 115]⟩, .func (.func 98) #[] #[], .string ⟨#[97, 114]⟩, .func (.func 99) #[] #[]]
theorem rules_any (w : World) : Calls Tryz.prog 52 #[] w fun e w' => e = .returned (.slice (some ⟨w.heap.size, 0, none⟩) 7 7) ∧ w' = w.alloc (.cells rulesCells 103) := by
  go_enter Tryz.func52, Tryz.ntmps52
  go_wp2
  go_ret
  exact ⟨rfl, rfl⟩
def wordL (c : Int) : List UInt8 := if c = 0 then [111, 116, 104, 101, 114] else if c = 1 then [122, 101, 114, 111] else if c = 2 then [111, 110, 101] else if c = 3 then [116, 119, 111] else if c = 4 then [102, 101, 119] else if c = 5 then [109, 97, 110, 121] else []
theorem word_any (c : Int) (w : World) : Calls Tryz.prog 33 #[.int .i64 c] w fun e w' => e = .returned (.string ⟨(wordL c).toArray⟩) ∧ Below w.heap.size w w' := by
  by_cases h0 : 0 ≤ c
  · by_cases h5 : c ≤ 5
    · rcases (show c = 0 ∨ c = 1 ∨ c = 2 ∨ c = 3 ∨ c = 4 ∨ c = 5 by omega) with rfl | rfl | rfl | rfl | rfl | rfl
      all_goals
        go_enter Tryz.func33, Tryz.ntmps33
        go_wp2
        go_ret
        exact ⟨rfl, (Below.refl _ _).alloc (Nat.le_refl _) _⟩
    · have e : wordL c = [] := by unfold wordL; repeat' rw [if_neg (by omega)]
      rw [e]
      go_enter Tryz.func33, Tryz.ntmps33
      go_wp2
      go_ret
      exact ⟨rfl, (Below.refl _ _).alloc (Nat.le_refl _) _⟩
  · have e : wordL c = [] := by unfold wordL; repeat' rw [if_neg (by omega)]
    rw [e]
    go_enter Tryz.func33, Tryz.ntmps33
    go_wp2
    go_ret
    exact ⟨rfl, (Below.refl _ _).alloc (Nat.le_refl _) _⟩
def mkB (l : List UInt8) : ByteArray := ⟨l.toArray⟩
theorem fields_c (s : ByteArray) (W : World) (hs : s.size < 100) (ha : ∀ b ∈ s.data.toList, b.toNat < 128) (hT : Lib.TabIs Tryz.prog W "strings.asciiSpace" .u8 Lib.asciiSpaceTab) :
    Calls Tryz.prog 54 #[.string s] W fun e w' => e = .returned (.slice (some ⟨W.heap.size, 0, none⟩) (Lib.fields s.data.toList).length (Lib.fields s.data.toList).length) ∧ w' = W.alloc (.cells ((Lib.fields s.data.toList).map fun l => Value.string ⟨l.toArray⟩).toArray 9) :=
  Tryz.strings_Fields s W (by omega) (fun j b h => ha b (List.mem_of_getElem? h)) hT
theorem contains_c (F : List (List UInt8)) (lang : ByteArray) (W : World) (hF : 0 < F.length) (hF2 : F.length < 1000) :
    Calls Tryz.prog 53 #[.slice (some ⟨W.heap.size, 0, none⟩) F.length F.length, .string lang] (W.alloc (.cells (F.map fun l => Value.string ⟨l.toArray⟩).toArray 9)) fun e w' => e = .returned (.bool (Lib.containsS (F.map mkB) lang)) ∧ w' = W.alloc (.cells (F.map fun l => Value.string ⟨l.toArray⟩).toArray 9) := by
  have := Tryz.slices_Contains_string W.heap.size 0 F.length F.length (F.map mkB) lang (W.alloc (.cells (F.map fun l => Value.string ⟨l.toArray⟩).toArray 9)) (by simp) (by omega) (fun j hj => by
    rw [List.length_map] at hj
    rw [Nat.zero_add, Lib.cell_of_heap (heap_alloc_new W _)]
    simp [hj, List.getD_eq_getElem?_getD]
    rfl)
  rw [List.take_of_length_le (by simp)] at this
  exact this
theorem contains_h (F : List (List UInt8)) (lang : ByteArray) (W : World) (H : Nat) (hH : W.heap.size = H) (hF : 0 < F.length) (hF2 : F.length < 1000) :
    Calls Tryz.prog 53 #[.slice (some ⟨H, 0, none⟩) F.length F.length, .string lang] (W.alloc (.cells (F.map fun l => Value.string ⟨l.toArray⟩).toArray 9)) fun e w' => e = .returned (.bool (Lib.containsS (F.map mkB) lang)) ∧ w' = W.alloc (.cells (F.map fun l => Value.string ⟨l.toArray⟩).toArray 9) := by
  subst hH; exact contains_c F lang W hF hF2
def pick (lang : ByteArray) : List (List (List UInt8) × Int) → Int
  | [] => 0
  | (F, c) :: r => if Lib.containsS (F.map mkB) lang then c else pick lang r
def langsL : List (List UInt8) := [[101, 110, 32, 100, 101, 32, 110, 108, 32, 115, 118], [102, 114], [101, 115], [112, 108], [114, 117], [99, 115], [97, 114]]
def table (L : List UInt8) (v : Int) (b : Bool) : List (List (List UInt8) × Int) := (langsL.map Lib.fields).zip [enC L v, frC L, esC L b, polC L v, rusC L v, czeC L v, araC L b]
end Go.Proofs.YtgjboghnnhcgiaaGreatDoor
namespace Go.Proofs.YtgjboghnnhcgiaaGreatDoor
open Go.RowKit
set_option linter.unusedVariables false
set_option linter.unusedSimpArgs false
def valC (kd : Int) (tx : ByteArray) (n : Bool) (D : ByteArray) (k mi mf xf : Int) (pl rk : Bool) (se st : Int) : Array Value :=
  #[.int .i64 kd, .string tx, .bool n, .string D, .int .i64 k, .int .i64 mi, .int .i64 mf, .int .i64 xf, .bool pl, .bool rk, .int .i64 se, .int .i64 st]
section
variable (tx : ByteArray) (n : Bool) (D : ByteArray) (k mi mf xf : Int) (pl rk : Bool) (se st : Int) (key lang : ByteArray)
set_option maxRecDepth 100000 in
set_option maxHeartbeats 4000000 in
theorem is_text (w : World) : Calls Tryz.prog 12 #[.agg (valC 0 tx n D k mi mf xf pl rk se st), .string key, .string lang] w fun e w' => e = .returned (.bool (tx.toList == key.toList)) ∧ Below w.heap.size w w' := by
  have h0 := Own.one w (.cells (valC 0 tx n D k mi mf xf pl rk se st) 31)
  unfold valC at *
  go_enter Tryz.func12, Tryz.ntmps12
  go_upto_region 1 with (fail)
  generalize w.alloc _ = W0 at *
  have p0 := h0.c 0 0 rfl rfl
  have p1 := h0.c 0 1 rfl rfl
  go_wp2
  go_ret
  exact ⟨by first | rfl | simp, h0.bel⟩
set_option maxRecDepth 100000 in
set_option maxHeartbeats 4000000 in
theorem is_none (kd : Int) (h0 : kd ≠ 0) (h1 : kd ≠ 1) (w : World) : Calls Tryz.prog 12 #[.agg (valC kd tx n D k mi mf xf pl rk se st), .string key, .string lang] w fun e w' => e = .returned (.bool false) ∧ Below w.heap.size w w' := by
  have hO := Own.one w (.cells (valC kd tx n D k mi mf xf pl rk se st) 31)
  have g0 : (kd == 0) = false := beq_eq_false_iff_ne.2 h0
  have g1 : (kd == 1) = false := beq_eq_false_iff_ne.2 h1
  unfold valC at *
  go_enter Tryz.func12, Tryz.ntmps12
  go_upto_region 1 with (fail)
  generalize w.alloc _ = W0 at *
  have p0 := hO.c 0 0 rfl rfl
  go_wp2
  go_ret
  exact ⟨rfl, hO.bel⟩
set_option maxRecDepth 100000 in
set_option maxHeartbeats 4000000 in
theorem is_num (pn : Bool) (pd : ByteArray) (pk c : Int) (w : World)
    (cP : ∀ W, Below w.heap.size w W → Calls Tryz.prog 25 #[.string key] W fun e w' => e = .returned (.tuple #[decV pn pd pk, .bool true]) ∧ Below W.heap.size W w')
    (cC : ∀ W, Calls Tryz.prog 11 #[decV pn pd pk, decV n D k] W fun e w' => e = .returned (.int .i64 c) ∧ Below W.heap.size W w') :
    Calls Tryz.prog 12 #[.agg (valC 1 tx n D k mi mf xf pl rk se st), .string key, .string lang] w fun e w' => e = .returned (.bool (c == 0)) ∧ Below w.heap.size w w' := by
  have h0 := Own.one w (.cells (valC 1 tx n D k mi mf xf pl rk se st) 31)
  unfold valC decV at *
  go_enter Tryz.func12, Tryz.ntmps12
  go_upto_region 1 with (fail)
  generalize w.alloc _ = W0 at *
  have p0 := h0.c 0 0 rfl rfl
  go_upto_region 6 with (go_at_call 25; refine (cP _ h0.bel).mono ?_; rintro e W1 ⟨rfl, b1⟩; have h1 := h0.step b1)
  have h2 := h1.alloc (.cells #[.bool pn, .string pd, .int .i64 pk] 23)
  clear p0 h0 h1 b1 cP
  generalize W1.alloc _ = W2 at *
  generalize W1.heap.size = g at *
  have q0 := h2.c 0 0 rfl rfl
  have q1 := h2.c 0 1 rfl rfl
  have q2 := h2.c 0 2 rfl rfl
  have p2 := h2.c 1 2 rfl rfl
  have p3 := h2.c 1 3 rfl rfl
  have p4 := h2.c 1 4 rfl rfl
  go_wp2_with (go_at_call 11; refine (cC _).mono ?_; rintro e W3 ⟨rfl, b3⟩; have h3 := h2.step b3)
  go_ret
  exact ⟨by first | rfl | simp, h3.bel⟩
set_option maxRecDepth 100000 in
set_option maxHeartbeats 4000000 in
theorem is_word (pn : Bool) (pd : ByteArray) (pk c E2 : Int) (E : ByteArray) (w : World)
    (cP : ∀ W, Below w.heap.size w W → Calls Tryz.prog 25 #[.string key] W fun e w' => e = .returned (.tuple #[decV pn pd pk, .bool false]) ∧ Below W.heap.size W w')
    (cS : ∀ W, Calls Tryz.prog 32 #[optV mi mf xf pl rk, decV n D k] W fun e w' => e = .returned (decV n E E2) ∧ Below W.heap.size W w')
    (cO : rk = false → ∀ W, Below w.heap.size w W → Calls Tryz.prog 30 #[.string lang, decV n E E2] W fun e w' => e = .returned (.int .i64 c) ∧ Below W.heap.size W w')
    (cR : rk = true → ∀ W, Calls Tryz.prog 31 #[.string lang, decV n E E2] W fun e w' => e = .returned (.int .i64 c) ∧ Below W.heap.size W w') :
    Calls Tryz.prog 12 #[.agg (valC 1 tx n D k mi mf xf pl rk se st), .string key, .string lang] w fun e w' => e = .returned (.bool (wordL c == key.toList)) ∧ Below w.heap.size w w' := by
  have h0 := Own.one w (.cells (valC 1 tx n D k mi mf xf pl rk se st) 31)
  have hwl : (⟨(wordL c).toArray⟩ : ByteArray).toList = wordL c := by rw [Lib.toList_data]
  have cW := fun W => word_any c W
  unfold valC decV optV at *
  generalize hQ : (⟨(wordL c).toArray⟩ : ByteArray) = Q at *
  rw [← hwl]
  clear hwl hQ
  go_enter Tryz.func12, Tryz.ntmps12
  go_upto_region 1 with (fail)
  generalize w.alloc _ = W0 at *
  have p0 := h0.c 0 0 rfl rfl
  go_upto_region 6 with (go_at_call 25; refine (cP _ h0.bel).mono ?_; rintro e W1 ⟨rfl, b1⟩; have h1 := h0.step b1)
  have h2 := h1.alloc (.cells #[.bool pn, .string pd, .int .i64 pk] 23)
  clear p0 h0 h1 b1 cP
  generalize W1.alloc _ = W2 at *
  generalize W1.heap.size = g at *
  have p2 := h2.c 1 2 rfl rfl
  have p3 := h2.c 1 3 rfl rfl
  have p4 := h2.c 1 4 rfl rfl
  have p5 := h2.c 1 5 rfl rfl
  have p6 := h2.c 1 6 rfl rfl
  have p7 := h2.c 1 7 rfl rfl
  have p8 := h2.c 1 8 rfl rfl
  have p9 := h2.c 1 9 rfl rfl
  cases rk with
  | false =>
    have cO' := cO rfl
    clear cO cR
    go_upto_region 11 with (fail)
    go_wp2_with (first | (go_at_call 32; refine (cS _).mono ?_; rintro e W3 ⟨rfl, b3⟩; have h3 := h2.step b3) | (go_at_call 30; refine (cO' _ h3.bel).mono ?_; rintro e W4 ⟨rfl, b4⟩; have h4 := h3.step b4) | (go_at_call 33; refine (cW _).mono ?_; rintro e W5 ⟨rfl, b5⟩; have h5 := h4.step b5))
    go_ret
    exact ⟨by first | rfl | simp, h5.bel⟩
  | true =>
    have cO' := cR rfl
    clear cO cR
    go_upto_region 11 with (fail)
    go_wp2_with (first | (go_at_call 32; refine (cS _).mono ?_; rintro e W3 ⟨rfl, b3⟩; have h3 := h2.step b3) | (go_at_call 31; refine (cO' _).mono ?_; rintro e W4 ⟨rfl, b4⟩; have h4 := h3.step b4) | (go_at_call 33; refine (cW _).mono ?_; rintro e W5 ⟨rfl, b5⟩; have h5 := h4.step b5))
    go_ret
    exact ⟨by first | rfl | simp, h5.bel⟩
end
end Go.Proofs.YtgjboghnnhcgiaaGreatDoor
namespace Go.Proofs.YtgjboghnnhcgiaaGreatDoor
open Go.RowKit
set_option linter.unusedVariables false
set_option linter.unusedSimpArgs false
def setAll (b : Nat) : World → Nat → List Value → World
  | W, _, [] => W
  | W, i, v :: vs => setAll b (W.setCell ⟨b, i, none⟩ v) (i + 1) vs
def over : Array Value → Nat → List Value → Array Value
  | cs, _, [] => cs
  | cs, i, v :: vs => over (cs.setIfInBounds i v) (i + 1) vs
theorem over_at : ∀ (vs : List Value) (cs : Array Value) (i j : Nat), i + vs.length ≤ cs.size → (over cs i vs)[j]? = if i ≤ j ∧ j < i + vs.length then vs[j - i]? else cs[j]?
  | [], cs, i, j, _ => by rw [over, if_neg (fun h => absurd h.2 (by have := h.1; rw [List.length_nil]; omega))]
  | v :: vs, cs, i, j, h => by
    have hl : (v :: vs).length = vs.length + 1 := rfl
    rw [over, over_at vs _ (i + 1) j (by rw [Array.size_setIfInBounds]; omega), hl]
    by_cases h1 : i + 1 ≤ j ∧ j < i + 1 + vs.length
    · rw [if_pos h1, if_pos (by omega), show j - i = (j - (i + 1)) + 1 by omega, List.getElem?_cons_succ]
    · rw [if_neg h1, Array.getElem?_setIfInBounds]
      by_cases h2 : i = j
      · subst h2
        rw [if_pos rfl, if_pos (by omega), if_pos (by omega), Nat.sub_self]
        rfl
      · rw [if_neg h2, if_neg (by omega)]
theorem over_all (vs : List Value) (cs : Array Value) (h : vs.length = cs.size) : over cs 0 vs = vs.toArray := by
  apply Array.ext_getElem?
  intro j
  rw [over_at vs cs 0 j (by omega)]
  by_cases hj : j < vs.length
  · rw [if_pos (by omega), Nat.sub_zero, List.getElem?_toArray]
  · rw [if_neg (by omega), Array.getElem?_eq_none (by omega), Array.getElem?_eq_none (by rw [List.size_toArray]; omega)]
theorem setAll_at {b : Nat} {T : TypeId} {fr : Nat × Nat} : ∀ (vs : List Value) (W : World) (cs : Array Value) (i : Nat), W.heap[b]? = some (.cells cs T fr) → (setAll b W i vs).heap[b]? = some (.cells (over cs i vs) T fr)
  | [], _, _, _, h => h
  | v :: vs, W, cs, i, h => setAll_at vs _ _ _ (heap_set h)
theorem setAll_far {b k : Nat} (h : k ≠ b) : ∀ (vs : List Value) (W : World) (i : Nat), (setAll b W i vs).heap[k]? = W.heap[k]?
  | [], _, _ => rfl
  | v :: vs, W, i => (setAll_far h vs _ _).trans (heap_far h)
theorem setAll_below {b : Nat} : ∀ (vs : List Value) (W : World) (i : Nat), Below b W (setAll b W i vs)
  | [], W, _ => Below.refl b W
  | v :: vs, W, i => ((Below.refl b W).setCell (p := ⟨b, i, none⟩) (Nat.le_refl b) v).trans (setAll_below vs _ _)
theorem Own.setAll {w W : World} {L : List (Nat × Obj)} (h : Own w L W) (i : Nat) {b : Nat} {cs : Array Value} {T : TypeId} {fr : Nat × Nat} (vs : List Value) (hi : L[i]? = some (b, .cells cs T fr)) (hl : vs.length = cs.size) :
    Own w (L.set i (b, .cells vs.toArray T fr)) (Go.Proofs.YtgjboghnnhcgiaaGreatDoor.setAll b W 0 vs) :=
  h.put i hi ((setAll_at vs W cs 0 (h.at hi)).trans (by rw [over_all vs cs hl])) (fun k hk => setAll_far hk vs W 0) (setAll_below vs W 0)
end Go.Proofs.YtgjboghnnhcgiaaGreatDoor
namespace Go.Proofs.YtgjboghnnhcgiaaGreatDoor
open Go.RowKit Go.Proofs.YtgjboghnnhcgiaaGreatDoorW.PrintWords Go.Proofs.YtgjboghnnhcgiaaGreatDoorW.PrintLast
set_option linter.unusedVariables false
set_option linter.unusedSimpArgs false
def shape_one.T : Bool × List (List Nat × List Nat) := (true, [([], []), ([], []), ([1], [1]), ([0, 2], [0, 2]), ([], []), ([4], [4]), ([3, 5, 3], [3, 5]), ([], []), ([7], [7]), ([6, 8, 6], [6, 8]), ([9, 9, 0, 1, 2, 3, 4, 5, 6, 7, 8, 9], [9])])
def shape_one.B : List Nat := [0, 0, 2, 7, 0, 16, 63, 0, 128, 511, 1023]
theorem shape_one.tab : rtab .any (opsOf Tryz.f32 1) = shape_one.T := by kernel_rfl
theorem shape_one.bits : waitsOk shape_one.T.2 shape_one.B = true := by kernel_rfl
set_option maxRecDepth 100000 in
set_option maxHeartbeats 4000000 in
theorem shape_one (w0 : World) (mi mf xf : Int) (pl rk n : Bool) (D D1 D2 D3 : ByteArray) (k k1 k2 k3 : Int) (cR : ∀ W, Calls Tryz.prog 60 #[.agg #[.bool n, .string D, .int .i64 k], .int .i64 xf] W fun e w' => e = .returned (.agg #[.bool n, .string D1, .int .i64 k1]) ∧ Below W.heap.size W w') (cT : ∀ W, Calls Tryz.prog 61 #[.agg #[.bool n, .string D1, .int .i64 k1], .int .i64 mf] W fun e w' => e = .returned (.agg #[.bool n, .string D2, .int .i64 k2]) ∧ Below W.heap.size W w') (cP : ∀ W, Calls Tryz.prog 13 #[.agg #[.bool n, .string D2, .int .i64 k2], .int .i64 mf] W fun e w' => e = .returned (.agg #[.bool n, .string D3, .int .i64 k3]) ∧ Below W.heap.size W w') (a0 : Act) (s2 : a0.tmps[2]? = some (.pointer (some ⟨w0.heap.size, 0, none⟩))) (s3 : a0.tmps[3]? = some (.pointer (some ⟨w0.heap.size + 1, 0, none⟩))) (hsz : a0.tmps.size = Tryz.f32.ntmps) (W : World) (hI : Sh w0 mi mf xf pl rk n (if (fun _ => false) 10 = true then D3 else D) (if (fun _ => false) 10 = true then k3 else k) false ⟨#[]⟩ 0 W.drew) (Q : Exit → Act → World → Prop) (hend : ∀ (a9 : Act) w', Sh w0 mi mf xf pl rk n (if (fun _ => true) 10 = true then D3 else D) (if (fun _ => true) 10 = true then k3 else k) false ⟨#[]⟩ 0 w' → a9 = putSel a0 (fun _ => true) [(0, 6, .agg #[.bool n, .string D, .int .i64 k]), (1, 7, .pointer (some ⟨w0.heap.size, 2, none⟩)), (2, 8, .int .i64 xf), (3, 9, .agg #[.bool n, .string D1, .int .i64 k1]), (4, 10, .pointer (some ⟨w0.heap.size, 1, none⟩)), (5, 11, .int .i64 mf), (6, 12, .agg #[.bool n, .string D2, .int .i64 k2]), (7, 13, .pointer (some ⟨w0.heap.size, 1, none⟩)), (8, 14, .int .i64 mf), (9, 15, .agg #[.bool n, .string D3, .int .i64 k3])] → a9.defers = a0.defers → Q .normal a9 w') :
    (Code.region 1 #[{ dst := some 6, op := Op.load 23 (Operand.tmp 3), type := 23, pos := "number.go:75", after := #[], guard := none }, { dst := some 7, op := Op.fieldAddr 28 (Operand.tmp 2) 2, type := 0, pos := "number.go:75", after := #[], guard := none }, { dst := some 8, op := Op.load 3 (Operand.tmp 7), type := 3, pos := "number.go:75", after := #[{ on := 1, ground := Ground.data }], guard := none }, { dst := some 9, op := Op.call { callee := Callee.value (Operand.func 60), args := #[Operand.tmp 6, Operand.tmp 8], argTypes := #[23, 3] }, type := 23, pos := "number.go:75", after := #[{ on := 0, ground := Ground.data }, { on := 2, ground := Ground.data }], guard := none }, { dst := some 10, op := Op.fieldAddr 28 (Operand.tmp 2) 1, type := 0, pos := "number.go:75", after := #[], guard := none }, { dst := some 11, op := Op.load 3 (Operand.tmp 10), type := 3, pos := "number.go:75", after := #[{ on := 4, ground := Ground.data }], guard := none }, { dst := some 12, op := Op.call { callee := Callee.value (Operand.func 61), args := #[Operand.tmp 9, Operand.tmp 11], argTypes := #[23, 3] }, type := 23, pos := "number.go:75", after := #[{ on := 3, ground := Ground.data }, { on := 5, ground := Ground.data }, { on := 3, ground := Ground.chain }], guard := none }, { dst := some 13, op := Op.fieldAddr 28 (Operand.tmp 2) 1, type := 0, pos := "number.go:75", after := #[], guard := none }, { dst := some 14, op := Op.load 3 (Operand.tmp 13), type := 3, pos := "number.go:75", after := #[{ on := 7, ground := Ground.data }], guard := none }, { dst := some 15, op := Op.call { callee := Callee.value (Operand.func 13), args := #[Operand.tmp 12, Operand.tmp 14], argTypes := #[23, 3] }, type := 23, pos := "number.go:75", after := #[{ on := 6, ground := Ground.data }, { on := 8, ground := Ground.data }, { on := 6, ground := Ground.chain }], guard := none }, { dst := none, op := Op.store 23 (Operand.tmp 3) (Operand.tmp 15), type := 0, pos := "number.go:75", after := #[{ on := 9, ground := Ground.data }, { on := 9, ground := Ground.chain }, { on := 0, ground := Ground.phase }, { on := 1, ground := Ground.phase }, { on := 2, ground := Ground.phase }, { on := 3, ground := Ground.phase }, { on := 4, ground := Ground.phase }, { on := 5, ground := Ground.phase }, { on := 6, ground := Ground.phase }, { on := 7, ground := Ground.phase }, { on := 8, ground := Ground.phase }, { on := 9, ground := Ground.phase }], guard := none }] true).wp Tryz.prog Q a0 W := by
  refine start_ (n := 11) (S := fun w' => True) (ds := []) #[false, false, false, false, false, false, false, false, false, false, false] (by kernel_rfl) rfl rfl trivial (fun hHeld => ?_)
  refine with_tabW shape_one.tab shape_one.bits (fun HT_ HW_ => ?_)
  refine inv_at [0, 1, 2, 3, 4, 5, 6, 7, 8, 9, 10] (fun a0_ b a w' => a = putSel a0_ b [(0, 6, .agg #[.bool n, .string D, .int .i64 k]), (1, 7, .pointer (some ⟨w0.heap.size, 2, none⟩)), (2, 8, .int .i64 xf), (3, 9, .agg #[.bool n, .string D1, .int .i64 k1]), (4, 10, .pointer (some ⟨w0.heap.size, 1, none⟩)), (5, 11, .int .i64 mf), (6, 12, .agg #[.bool n, .string D2, .int .i64 k2]), (7, 13, .pointer (some ⟨w0.heap.size, 1, none⟩)), (8, 14, .int .i64 mf), (9, 15, .agg #[.bool n, .string D3, .int .i64 k3])] ∧ (Sh w0 mi mf xf pl rk n (if b 10 = true then D3 else D) (if b 10 = true then k3 else k) false ⟨#[]⟩ 0 w')) HT_.out HW_.out (by kernel_rfl) (by kernel_rfl) ?_ ?_ ?_
  · exact ⟨(by simp only [putSel, Bool.false_eq_true, if_false]), hI⟩
  · clear hI hend hHeld
    refine steps_cons ?_ ?_
    · rintro b a w' ⟨ha, hI⟩ hb_ hon hoff
      refine ⟨_, rfl, fun K hK => ?_⟩
      have e3 : a.tmps[3]? = some (.pointer (some ⟨w0.heap.size + 1, 0, none⟩)) := by rw [ha]; exact (putSel_off rfl).trans s3
      replace ha := Aside0.mk ha
      obtain ⟨p0, p1, p2, p3, p4, p5⟩ := hI.get
      have z0 := hI.fz 0
      have z1 := hI.fz 1
      have z2 := hI.fz 2
      rw [if_neg (by rw [hoff 10 (by kernel_rfl)]; decide)] at p4 p5
      refine value_ (w1 := w') (v := .agg #[.bool n, .string D, .int .i64 k]) (by rfl) rfl ?_ ?_
      · go_simp; try rfl
        all_goals (try (simp only [IntKind.wrap_i64]; omega))
      exact hK.out _ _ ⟨(by rw [ha.out]; exact putSel_upk 0 hb_ rfl rfl rfl), hI⟩
    refine steps_cons ?_ ?_
    · rintro b a w' ⟨ha, hI⟩ hb_ hon hoff
      refine ⟨_, rfl, fun K hK => ?_⟩
      have e2 : a.tmps[2]? = some (.pointer (some ⟨w0.heap.size, 0, none⟩)) := by rw [ha]; exact (putSel_off rfl).trans s2
      replace ha := Aside0.mk ha
      obtain ⟨p0, p1, p2, p3, p4, p5⟩ := hI.get
      have z0 := hI.fz 0
      have z1 := hI.fz 1
      have z2 := hI.fz 2
      refine value_ (w1 := w') (v := .pointer (some ⟨w0.heap.size, 2, none⟩)) (by rfl) rfl ?_ ?_
      · go_simp; try rfl
        all_goals (try (simp only [IntKind.wrap_i64]; omega))
      exact hK.out _ _ ⟨(by rw [ha.out]; exact putSel_upk 1 hb_ rfl rfl rfl), hI⟩
    refine steps_cons ?_ ?_
    · rintro b a w' ⟨ha, hI⟩ hb_ hon hoff
      refine ⟨_, rfl, fun K hK => ?_⟩
      have e7 : a.tmps[7]? = some (.pointer (some ⟨w0.heap.size, 2, none⟩)) := by rw [ha]; exact putSel_on (e := (1, 7, .pointer (some ⟨w0.heap.size, 2, none⟩))) 1 rfl rfl (hon 1 (by kernel_rfl)) (by rw [hsz]; rfl)
      replace ha := Aside0.mk ha
      obtain ⟨p0, p1, p2, p3, p4, p5⟩ := hI.get
      have z0 := hI.fz 0
      have z1 := hI.fz 1
      have z2 := hI.fz 2
      refine value_ (w1 := w') (v := .int .i64 xf) (by rfl) rfl ?_ ?_
      · go_simp; try rfl
        all_goals (try (simp only [IntKind.wrap_i64]; omega))
      exact hK.out _ _ ⟨(by rw [ha.out]; exact putSel_upk 2 hb_ rfl rfl rfl), hI⟩
    refine steps_cons ?_ ?_
    · rintro b a w' ⟨ha, hI⟩ hb_ hon hoff
      refine ⟨_, rfl, fun K hK => ?_⟩
      have e6 : a.tmps[6]? = some (.agg #[.bool n, .string D, .int .i64 k]) := by rw [ha]; exact putSel_on (e := (0, 6, .agg #[.bool n, .string D, .int .i64 k])) 0 rfl rfl (hon 0 (by kernel_rfl)) (by rw [hsz]; rfl)
      have e8 : a.tmps[8]? = some (.int .i64 xf) := by rw [ha]; exact putSel_on (e := (2, 8, .int .i64 xf)) 2 rfl rfl (hon 2 (by kernel_rfl)) (by rw [hsz]; rfl)
      replace ha := Aside0.mk ha
      obtain ⟨p0, p1, p2, p3, p4, p5⟩ := hI.get
      have z0 := hI.fz 0
      have z1 := hI.fz 1
      have z2 := hI.fz 2
      refine goes_ Tryz.func60 (by kernel_rfl) rfl #[.agg #[.bool n, .string D, .int .i64 k], .int .i64 xf] (by rfl) rfl rfl (by first | (simp only [List.map_toArray, List.map_cons, List.map_nil, Act.eval, Array.getD_eq_getD_getElem?, Option.getD_some, e6, e8]; done) | (simp only [List.map_toArray, List.map_cons, List.map_nil, Act.eval, Array.getD_eq_getD_getElem?, Option.getD_some, e6, e8]; rfl)) ?_
      refine (cR w').mono ?_
      rintro e w1 ⟨rfl, b1⟩; have hI1 := hI.step b1
      exact ⟨_, rfl, hK.out _ _ ⟨(by rw [ha.out]; exact putSel_upk 3 hb_ rfl rfl rfl), hI1⟩⟩
    refine steps_cons ?_ ?_
    · rintro b a w' ⟨ha, hI⟩ hb_ hon hoff
      refine ⟨_, rfl, fun K hK => ?_⟩
      have e2 : a.tmps[2]? = some (.pointer (some ⟨w0.heap.size, 0, none⟩)) := by rw [ha]; exact (putSel_off rfl).trans s2
      replace ha := Aside0.mk ha
      obtain ⟨p0, p1, p2, p3, p4, p5⟩ := hI.get
      have z0 := hI.fz 0
      have z1 := hI.fz 1
      have z2 := hI.fz 2
      refine value_ (w1 := w') (v := .pointer (some ⟨w0.heap.size, 1, none⟩)) (by rfl) rfl ?_ ?_
      · go_simp; try rfl
        all_goals (try (simp only [IntKind.wrap_i64]; omega))
      exact hK.out _ _ ⟨(by rw [ha.out]; exact putSel_upk 4 hb_ rfl rfl rfl), hI⟩
    refine steps_cons ?_ ?_
    · rintro b a w' ⟨ha, hI⟩ hb_ hon hoff
      refine ⟨_, rfl, fun K hK => ?_⟩
      have e10 : a.tmps[10]? = some (.pointer (some ⟨w0.heap.size, 1, none⟩)) := by rw [ha]; exact putSel_on (e := (4, 10, .pointer (some ⟨w0.heap.size, 1, none⟩))) 4 rfl rfl (hon 4 (by kernel_rfl)) (by rw [hsz]; rfl)
      replace ha := Aside0.mk ha
      obtain ⟨p0, p1, p2, p3, p4, p5⟩ := hI.get
      have z0 := hI.fz 0
      have z1 := hI.fz 1
      have z2 := hI.fz 2
      refine value_ (w1 := w') (v := .int .i64 mf) (by rfl) rfl ?_ ?_
      · go_simp; try rfl
        all_goals (try (simp only [IntKind.wrap_i64]; omega))
      exact hK.out _ _ ⟨(by rw [ha.out]; exact putSel_upk 5 hb_ rfl rfl rfl), hI⟩
    refine steps_cons ?_ ?_
    · rintro b a w' ⟨ha, hI⟩ hb_ hon hoff
      refine ⟨_, rfl, fun K hK => ?_⟩
      have e9 : a.tmps[9]? = some (.agg #[.bool n, .string D1, .int .i64 k1]) := by rw [ha]; exact putSel_on (e := (3, 9, .agg #[.bool n, .string D1, .int .i64 k1])) 3 rfl rfl (hon 3 (by kernel_rfl)) (by rw [hsz]; rfl)
      have e11 : a.tmps[11]? = some (.int .i64 mf) := by rw [ha]; exact putSel_on (e := (5, 11, .int .i64 mf)) 5 rfl rfl (hon 5 (by kernel_rfl)) (by rw [hsz]; rfl)
      replace ha := Aside0.mk ha
      obtain ⟨p0, p1, p2, p3, p4, p5⟩ := hI.get
      have z0 := hI.fz 0
      have z1 := hI.fz 1
      have z2 := hI.fz 2
      refine goes_ Tryz.func61 (by kernel_rfl) rfl #[.agg #[.bool n, .string D1, .int .i64 k1], .int .i64 mf] (by rfl) rfl rfl (by first | (simp only [List.map_toArray, List.map_cons, List.map_nil, Act.eval, Array.getD_eq_getD_getElem?, Option.getD_some, e9, e11]; done) | (simp only [List.map_toArray, List.map_cons, List.map_nil, Act.eval, Array.getD_eq_getD_getElem?, Option.getD_some, e9, e11]; rfl)) ?_
      refine (cT w').mono ?_
      rintro e w1 ⟨rfl, b1⟩; have hI1 := hI.step b1
      exact ⟨_, rfl, hK.out _ _ ⟨(by rw [ha.out]; exact putSel_upk 6 hb_ rfl rfl rfl), hI1⟩⟩
    refine steps_cons ?_ ?_
    · rintro b a w' ⟨ha, hI⟩ hb_ hon hoff
      refine ⟨_, rfl, fun K hK => ?_⟩
      have e2 : a.tmps[2]? = some (.pointer (some ⟨w0.heap.size, 0, none⟩)) := by rw [ha]; exact (putSel_off rfl).trans s2
      replace ha := Aside0.mk ha
      obtain ⟨p0, p1, p2, p3, p4, p5⟩ := hI.get
      have z0 := hI.fz 0
      have z1 := hI.fz 1
      have z2 := hI.fz 2
      refine value_ (w1 := w') (v := .pointer (some ⟨w0.heap.size, 1, none⟩)) (by rfl) rfl ?_ ?_
      · go_simp; try rfl
        all_goals (try (simp only [IntKind.wrap_i64]; omega))
      exact hK.out _ _ ⟨(by rw [ha.out]; exact putSel_upk 7 hb_ rfl rfl rfl), hI⟩
    refine steps_cons ?_ ?_
    · rintro b a w' ⟨ha, hI⟩ hb_ hon hoff
      refine ⟨_, rfl, fun K hK => ?_⟩
      have e13 : a.tmps[13]? = some (.pointer (some ⟨w0.heap.size, 1, none⟩)) := by rw [ha]; exact putSel_on (e := (7, 13, .pointer (some ⟨w0.heap.size, 1, none⟩))) 7 rfl rfl (hon 7 (by kernel_rfl)) (by rw [hsz]; rfl)
      replace ha := Aside0.mk ha
      obtain ⟨p0, p1, p2, p3, p4, p5⟩ := hI.get
      have z0 := hI.fz 0
      have z1 := hI.fz 1
      have z2 := hI.fz 2
      refine value_ (w1 := w') (v := .int .i64 mf) (by rfl) rfl ?_ ?_
      · go_simp; try rfl
        all_goals (try (simp only [IntKind.wrap_i64]; omega))
      exact hK.out _ _ ⟨(by rw [ha.out]; exact putSel_upk 8 hb_ rfl rfl rfl), hI⟩
    refine steps_cons ?_ ?_
    · rintro b a w' ⟨ha, hI⟩ hb_ hon hoff
      refine ⟨_, rfl, fun K hK => ?_⟩
      have e12 : a.tmps[12]? = some (.agg #[.bool n, .string D2, .int .i64 k2]) := by rw [ha]; exact putSel_on (e := (6, 12, .agg #[.bool n, .string D2, .int .i64 k2])) 6 rfl rfl (hon 6 (by kernel_rfl)) (by rw [hsz]; rfl)
      have e14 : a.tmps[14]? = some (.int .i64 mf) := by rw [ha]; exact putSel_on (e := (8, 14, .int .i64 mf)) 8 rfl rfl (hon 8 (by kernel_rfl)) (by rw [hsz]; rfl)
      replace ha := Aside0.mk ha
      obtain ⟨p0, p1, p2, p3, p4, p5⟩ := hI.get
      have z0 := hI.fz 0
      have z1 := hI.fz 1
      have z2 := hI.fz 2
      refine goes_ Tryz.func13 (by kernel_rfl) rfl #[.agg #[.bool n, .string D2, .int .i64 k2], .int .i64 mf] (by rfl) rfl rfl (by first | (simp only [List.map_toArray, List.map_cons, List.map_nil, Act.eval, Array.getD_eq_getD_getElem?, Option.getD_some, e12, e14]; done) | (simp only [List.map_toArray, List.map_cons, List.map_nil, Act.eval, Array.getD_eq_getD_getElem?, Option.getD_some, e12, e14]; rfl)) ?_
      refine (cP w').mono ?_
      rintro e w1 ⟨rfl, b1⟩; have hI1 := hI.step b1
      exact ⟨_, rfl, hK.out _ _ ⟨(by rw [ha.out]; exact putSel_upk 9 hb_ rfl rfl rfl), hI1⟩⟩
    refine steps_cons ?_ ?_
    · rintro b a w' ⟨ha, hI⟩ hb_ hon hoff
      refine ⟨_, rfl, fun K hK => ?_⟩
      have e3 : a.tmps[3]? = some (.pointer (some ⟨w0.heap.size + 1, 0, none⟩)) := by rw [ha]; exact (putSel_off rfl).trans s3
      have e15 : a.tmps[15]? = some (.agg #[.bool n, .string D3, .int .i64 k3]) := by rw [ha]; exact putSel_on (e := (9, 15, .agg #[.bool n, .string D3, .int .i64 k3])) 9 rfl rfl (hon 9 (by kernel_rfl)) (by rw [hsz]; rfl)
      replace ha := Aside0.mk ha
      obtain ⟨p0, p1, p2, p3, p4, p5⟩ := hI.get
      have z0 := hI.fz 0
      have z1 := hI.fz 1
      have z2 := hI.fz 2
      refine skip_ (w1 := ((w'.setCell ⟨w0.heap.size + 1, 0, none⟩ (.bool n)).setCell ⟨w0.heap.size + 1, 1, none⟩ (.string D3)).setCell ⟨w0.heap.size + 1, 2, none⟩ (.int .i64 k3)) (by rfl) rfl ?_ ?_
      · go_simp
      exact hK.out _ _ ⟨(by rw [ha.out]; exact (putSel_same rfl).symm), hI.put n D3 k3⟩
    exact steps_nil
  rintro b a w1 hall ⟨ha, hI1⟩
  simp only [hall 10 (by kernel_rfl)] at hI1
  exact hend a w1 hI1 (by rw [ha]; simp only [putSel, if_true, hall 0 (by kernel_rfl), hall 1 (by kernel_rfl), hall 2 (by kernel_rfl), hall 3 (by kernel_rfl), hall 4 (by kernel_rfl), hall 5 (by kernel_rfl), hall 6 (by kernel_rfl), hall 7 (by kernel_rfl), hall 8 (by kernel_rfl), hall 9 (by kernel_rfl)]) (by rw [ha]; exact (putSel_size b _ a0).2)
end Go.Proofs.YtgjboghnnhcgiaaGreatDoor
namespace Go.Proofs.YtgjboghnnhcgiaaGreatDoor
open Go.RowKit Go.Proofs.YtgjboghnnhcgiaaGreatDoorW.PrintWords Go.Proofs.YtgjboghnnhcgiaaGreatDoorW.PrintLast
set_option linter.unusedVariables false
set_option linter.unusedSimpArgs false
def shape_two.T : Bool × List (List Nat × List Nat) := (true, [([], []), ([0], [0]), ([], []), ([2], [2]), ([3], [3]), ([1, 4], [1, 4]), ([5, 3, 0, 1, 2, 3, 4, 5], [5])])
def shape_two.B : List Nat := [0, 1, 0, 4, 12, 31, 63]
theorem shape_two.tab : rtab .any (opsOf Tryz.f32 2) = shape_two.T := by kernel_rfl
theorem shape_two.bits : waitsOk shape_two.T.2 shape_two.B = true := by kernel_rfl
set_option maxRecDepth 100000 in
set_option maxHeartbeats 4000000 in
theorem shape_two (w0 : World) (mi mf xf : Int) (pl rk n : Bool) (D S : ByteArray) (k : Int) (hmi : 0 ≤ mi) (hmi9 : mi ≤ 1000) (hS : S.size ≤ 1000) (cW : ∀ W, Calls Tryz.prog 26 #[.agg #[.bool n, .string D, .int .i64 k]] W fun e w' => e = .returned (.string S) ∧ Below W.heap.size W w') (a0 : Act) (s2 : a0.tmps[2]? = some (.pointer (some ⟨w0.heap.size, 0, none⟩))) (s3 : a0.tmps[3]? = some (.pointer (some ⟨w0.heap.size + 1, 0, none⟩))) (hsz : a0.tmps.size = Tryz.f32.ntmps) (W : World) (hI : Sh w0 mi mf xf pl rk n D k false ⟨#[]⟩ 0 W.drew) (Q : Exit → Act → World → Prop) (hend : ∀ (a9 : Act) w', Sh w0 mi mf xf pl rk n D k false ⟨#[]⟩ 0 w' → a9 = putSel a0 (fun _ => true) [(0, 16, .pointer (some ⟨w0.heap.size, 0, none⟩)), (1, 17, .int .i64 mi), (2, 18, .agg #[.bool n, .string D, .int .i64 k]), (3, 19, .string S), (4, 20, .int .i64 (S.size : Int)), (5, 21, .int .i64 (mi - S.size)), (6, 5, .int .i64 (mi - S.size))] → a9.defers = a0.defers → a9.tmps[5]? = some (.int .i64 (mi - S.size)) → Q .normal a9 w') :
    (Code.region 2 #[{ dst := some 16, op := Op.fieldAddr 28 (Operand.tmp 2) 0, type := 0, pos := "number.go:76", after := #[], guard := none }, { dst := some 17, op := Op.load 3 (Operand.tmp 16), type := 3, pos := "number.go:76", after := #[{ on := 0, ground := Ground.data }], guard := none }, { dst := some 18, op := Op.load 23 (Operand.tmp 3), type := 23, pos := "number.go:76", after := #[], guard := none }, { dst := some 19, op := Op.call { callee := Callee.value (Operand.func 26), args := #[Operand.tmp 18], argTypes := #[23] }, type := 9, pos := "number.go:76", after := #[{ on := 2, ground := Ground.data }], guard := none }, { dst := some 20, op := Op.call { callee := Callee.builtin Builtin.len, args := #[Operand.tmp 19], argTypes := #[9] }, type := 3, pos := "number.go:76", after := #[{ on := 3, ground := Ground.data }], guard := none }, { dst := some 21, op := Op.binOp BinOp.sub 3 (Operand.tmp 17) (Operand.tmp 20) 3, type := 3, pos := "number.go:76", after := #[{ on := 1, ground := Ground.data }, { on := 4, ground := Ground.data }], guard := none }, { dst := some 5, op := Op.assign (Operand.tmp 21), type := 3, pos := "number.go:76", after := #[{ on := 5, ground := Ground.data }, { on := 3, ground := Ground.chain }, { on := 0, ground := Ground.phase }, { on := 1, ground := Ground.phase }, { on := 2, ground := Ground.phase }, { on := 3, ground := Ground.phase }, { on := 4, ground := Ground.phase }, { on := 5, ground := Ground.phase }], guard := none }] true).wp Tryz.prog Q a0 W := by
  refine start_ (n := 7) (S := fun w' => True) (ds := []) #[false, false, false, false, false, false, false] (by kernel_rfl) rfl rfl trivial (fun hHeld => ?_)
  refine with_tabW shape_two.tab shape_two.bits (fun HT_ HW_ => ?_)
  refine inv_at [0, 1, 2, 3, 4, 5, 6] (fun a0_ b a w' => a = putSel a0_ b [(0, 16, .pointer (some ⟨w0.heap.size, 0, none⟩)), (1, 17, .int .i64 mi), (2, 18, .agg #[.bool n, .string D, .int .i64 k]), (3, 19, .string S), (4, 20, .int .i64 (S.size : Int)), (5, 21, .int .i64 (mi - S.size)), (6, 5, .int .i64 (mi - S.size))] ∧ (Sh w0 mi mf xf pl rk n D k false ⟨#[]⟩ 0 w')) HT_.out HW_.out (by kernel_rfl) (by kernel_rfl) ?_ ?_ ?_
  · exact ⟨(by simp only [putSel, Bool.false_eq_true, if_false]), hI⟩
  · clear hI hend hHeld
    refine steps_cons ?_ ?_
    · rintro b a w' ⟨ha, hI⟩ hb_ hon hoff
      refine ⟨_, rfl, fun K hK => ?_⟩
      have e2 : a.tmps[2]? = some (.pointer (some ⟨w0.heap.size, 0, none⟩)) := by rw [ha]; exact (putSel_off rfl).trans s2
      replace ha := Aside0.mk ha
      obtain ⟨p0, p1, p2, p3, p4, p5⟩ := hI.get
      refine value_ (w1 := w') (v := .pointer (some ⟨w0.heap.size, 0, none⟩)) (by rfl) rfl ?_ ?_
      · go_simp; try rfl
        all_goals (try (simp only [IntKind.wrap_i64]; omega))
      exact hK.out _ _ ⟨(by rw [ha.out]; exact putSel_upk 0 hb_ rfl rfl rfl), hI⟩
    refine steps_cons ?_ ?_
    · rintro b a w' ⟨ha, hI⟩ hb_ hon hoff
      refine ⟨_, rfl, fun K hK => ?_⟩
      have e16 : a.tmps[16]? = some (.pointer (some ⟨w0.heap.size, 0, none⟩)) := by rw [ha]; exact putSel_on (e := (0, 16, .pointer (some ⟨w0.heap.size, 0, none⟩))) 0 rfl rfl (hon 0 (by kernel_rfl)) (by rw [hsz]; rfl)
      replace ha := Aside0.mk ha
      obtain ⟨p0, p1, p2, p3, p4, p5⟩ := hI.get
      refine value_ (w1 := w') (v := .int .i64 mi) (by rfl) rfl ?_ ?_
      · go_simp; try rfl
        all_goals (try (simp only [IntKind.wrap_i64]; omega))
      exact hK.out _ _ ⟨(by rw [ha.out]; exact putSel_upk 1 hb_ rfl rfl rfl), hI⟩
    refine steps_cons ?_ ?_
    · rintro b a w' ⟨ha, hI⟩ hb_ hon hoff
      refine ⟨_, rfl, fun K hK => ?_⟩
      have e3 : a.tmps[3]? = some (.pointer (some ⟨w0.heap.size + 1, 0, none⟩)) := by rw [ha]; exact (putSel_off rfl).trans s3
      replace ha := Aside0.mk ha
      obtain ⟨p0, p1, p2, p3, p4, p5⟩ := hI.get
      refine value_ (w1 := w') (v := .agg #[.bool n, .string D, .int .i64 k]) (by rfl) rfl ?_ ?_
      · go_simp; try rfl
        all_goals (try (simp only [IntKind.wrap_i64]; omega))
      exact hK.out _ _ ⟨(by rw [ha.out]; exact putSel_upk 2 hb_ rfl rfl rfl), hI⟩
    refine steps_cons ?_ ?_
    · rintro b a w' ⟨ha, hI⟩ hb_ hon hoff
      refine ⟨_, rfl, fun K hK => ?_⟩
      have e18 : a.tmps[18]? = some (.agg #[.bool n, .string D, .int .i64 k]) := by rw [ha]; exact putSel_on (e := (2, 18, .agg #[.bool n, .string D, .int .i64 k])) 2 rfl rfl (hon 2 (by kernel_rfl)) (by rw [hsz]; rfl)
      replace ha := Aside0.mk ha
      obtain ⟨p0, p1, p2, p3, p4, p5⟩ := hI.get
      refine goes_ Tryz.func26 (by kernel_rfl) rfl #[.agg #[.bool n, .string D, .int .i64 k]] (by rfl) rfl rfl (by first | (simp only [List.map_toArray, List.map_cons, List.map_nil, Act.eval, Array.getD_eq_getD_getElem?, Option.getD_some, e18]; done) | (simp only [List.map_toArray, List.map_cons, List.map_nil, Act.eval, Array.getD_eq_getD_getElem?, Option.getD_some, e18]; rfl)) ?_
      refine (cW w').mono ?_
      rintro e w1 ⟨rfl, b1⟩; have hI1 := hI.step b1
      exact ⟨_, rfl, hK.out _ _ ⟨(by rw [ha.out]; exact putSel_upk 3 hb_ rfl rfl rfl), hI1⟩⟩
    refine steps_cons ?_ ?_
    · rintro b a w' ⟨ha, hI⟩ hb_ hon hoff
      refine ⟨_, rfl, fun K hK => ?_⟩
      have e19 : a.tmps[19]? = some (.string S) := by rw [ha]; exact putSel_on (e := (3, 19, .string S)) 3 rfl rfl (hon 3 (by kernel_rfl)) (by rw [hsz]; rfl)
      replace ha := Aside0.mk ha
      obtain ⟨p0, p1, p2, p3, p4, p5⟩ := hI.get
      refine value_ (w1 := w') (v := .int .i64 (S.size : Int)) (by rfl) rfl ?_ ?_
      · go_simp; try rfl
        all_goals (try (simp only [IntKind.wrap_i64]; omega))
      exact hK.out _ _ ⟨(by rw [ha.out]; exact putSel_upk 4 hb_ rfl rfl rfl), hI⟩
    refine steps_cons ?_ ?_
    · rintro b a w' ⟨ha, hI⟩ hb_ hon hoff
      refine ⟨_, rfl, fun K hK => ?_⟩
      have e17 : a.tmps[17]? = some (.int .i64 mi) := by rw [ha]; exact putSel_on (e := (1, 17, .int .i64 mi)) 1 rfl rfl (hon 1 (by kernel_rfl)) (by rw [hsz]; rfl)
      have e20 : a.tmps[20]? = some (.int .i64 (S.size : Int)) := by rw [ha]; exact putSel_on (e := (4, 20, .int .i64 (S.size : Int))) 4 rfl rfl (hon 4 (by kernel_rfl)) (by rw [hsz]; rfl)
      replace ha := Aside0.mk ha
      obtain ⟨p0, p1, p2, p3, p4, p5⟩ := hI.get
      refine value_ (w1 := w') (v := .int .i64 (mi - S.size)) (by rfl) rfl ?_ ?_
      · go_simp; try rfl
        all_goals (try (simp only [IntKind.wrap_i64]; omega))
      exact hK.out _ _ ⟨(by rw [ha.out]; exact putSel_upk 5 hb_ rfl rfl rfl), hI⟩
    refine steps_cons ?_ ?_
    · rintro b a w' ⟨ha, hI⟩ hb_ hon hoff
      refine ⟨_, rfl, fun K hK => ?_⟩
      have e21 : a.tmps[21]? = some (.int .i64 (mi - S.size)) := by rw [ha]; exact putSel_on (e := (5, 21, .int .i64 (mi - S.size))) 5 rfl rfl (hon 5 (by kernel_rfl)) (by rw [hsz]; rfl)
      replace ha := Aside0.mk ha
      obtain ⟨p0, p1, p2, p3, p4, p5⟩ := hI.get
      refine value_ (w1 := w') (v := .int .i64 (mi - S.size)) (by rfl) rfl ?_ ?_
      · go_simp; try rfl
        all_goals (try (simp only [IntKind.wrap_i64]; omega))
      exact hK.out _ _ ⟨(by rw [ha.out]; exact putSel_upk 6 hb_ rfl rfl rfl), hI⟩
    exact steps_nil
  rintro b a w1 hall ⟨ha, hI1⟩
  exact hend a w1 hI1 (by rw [ha]; simp only [putSel, if_true, hall 0 (by kernel_rfl), hall 1 (by kernel_rfl), hall 2 (by kernel_rfl), hall 3 (by kernel_rfl), hall 4 (by kernel_rfl), hall 5 (by kernel_rfl), hall 6 (by kernel_rfl)]) (by rw [ha]; exact (putSel_size b _ a0).2) (by rw [ha]; exact putSel_on (e := (6, 5, .int .i64 (mi - S.size))) 6 rfl rfl (hall 6 (by kernel_rfl)) (by rw [hsz]; rfl))
end Go.Proofs.YtgjboghnnhcgiaaGreatDoor
namespace Go.Proofs.YtgjboghnnhcgiaaGreatDoor
open Go.RowKit Go.Proofs.YtgjboghnnhcgiaaGreatDoorW.PrintWords Go.Proofs.YtgjboghnnhcgiaaGreatDoorW.PrintLast
set_option linter.unusedVariables false
set_option linter.unusedSimpArgs false
def shape_four.T : Bool × List (List Nat × List Nat) := (true, [([], []), ([0], [0]), ([], []), ([2], [2]), ([], []), ([4], [4]), ([3, 5], [3, 5]), ([], []), ([7], [7]), ([1, 6, 8], [1, 6, 8]), ([9, 3, 0, 1, 2, 3, 4, 5, 6, 7, 8, 9], [9])])
def shape_four.B : List Nat := [0, 1, 0, 4, 0, 16, 60, 0, 128, 511, 1023]
theorem shape_four.tab : rtab .any (opsOf Tryz.f32 4) = shape_four.T := by kernel_rfl
theorem shape_four.bits : waitsOk shape_four.T.2 shape_four.B = true := by kernel_rfl
set_option maxRecDepth 100000 in
set_option maxHeartbeats 4000000 in
theorem shape_four (w0 : World) (mi mf xf : Int) (pl rk n : Bool) (D Z : ByteArray) (k z : Int) (hD : D.size ≤ 1000) (hZ : Z.size ≤ 1000) (cZ : ∀ W, Calls Tryz.prog 34 #[.string ⟨#[48]⟩, .int .i64 z] W fun e w' => e = .returned (.string Z) ∧ Below W.heap.size W w') (a0 : Act) (s3 : a0.tmps[3]? = some (.pointer (some ⟨w0.heap.size + 1, 0, none⟩))) (s4 : a0.tmps[4]? = some (.pointer (some ⟨w0.heap.size + 1 + 1, 0, none⟩))) (s5 : a0.tmps[5]? = some (.int .i64 z)) (hsz : a0.tmps.size = Tryz.f32.ntmps) (W : World) (hI : Sh w0 mi mf xf pl rk n D k (if (fun _ => false) 10 = true then n else false) (if (fun _ => false) 10 = true then Z ++ D else ⟨#[]⟩) (if (fun _ => false) 10 = true then k else 0) W.drew) (Q : Exit → Act → World → Prop) (hend : ∀ (a9 : Act) w', Sh w0 mi mf xf pl rk n D k (if (fun _ => true) 10 = true then n else false) (if (fun _ => true) 10 = true then Z ++ D else ⟨#[]⟩) (if (fun _ => true) 10 = true then k else 0) w' → a9 = putSel a0 (fun _ => true) [(0, 24, .pointer (some ⟨w0.heap.size + 1, 0, none⟩)), (1, 25, .bool n), (2, 26, .int .i64 z), (3, 27, .string Z), (4, 28, .pointer (some ⟨w0.heap.size + 1, 1, none⟩)), (5, 29, .string D), (6, 30, .string (Z ++ D)), (7, 31, .pointer (some ⟨w0.heap.size + 1, 2, none⟩)), (8, 32, .int .i64 k), (9, 33, .agg #[.bool n, .string (Z ++ D), .int .i64 k])] → a9.defers = a0.defers → Q .normal a9 w') :
    (Code.region 4 #[{ dst := some 24, op := Op.fieldAddr 23 (Operand.tmp 3) 0, type := 0, pos := "number.go:77", after := #[], guard := none }, { dst := some 25, op := Op.load 4 (Operand.tmp 24), type := 4, pos := "number.go:77", after := #[{ on := 0, ground := Ground.data }], guard := none }, { dst := some 26, op := Op.move (Operand.tmp 5), type := 3, pos := "number.go:77", after := #[], guard := none }, { dst := some 27, op := Op.call { callee := Callee.value (Operand.func 34), args := #[Operand.const (Value.string { data := #[48] }), Operand.tmp 26], argTypes := #[9, 3] }, type := 9, pos := "number.go:77", after := #[{ on := 2, ground := Ground.data }], guard := none }, { dst := some 28, op := Op.fieldAddr 23 (Operand.tmp 3) 1, type := 0, pos := "number.go:77", after := #[], guard := none }, { dst := some 29, op := Op.load 9 (Operand.tmp 28), type := 9, pos := "number.go:77", after := #[{ on := 4, ground := Ground.data }], guard := none }, { dst := some 30, op := Op.binOp BinOp.add 9 (Operand.tmp 27) (Operand.tmp 29) 9, type := 9, pos := "number.go:77", after := #[{ on := 3, ground := Ground.data }, { on := 5, ground := Ground.data }], guard := none }, { dst := some 31, op := Op.fieldAddr 23 (Operand.tmp 3) 2, type := 0, pos := "number.go:77", after := #[], guard := none }, { dst := some 32, op := Op.load 3 (Operand.tmp 31), type := 3, pos := "number.go:77", after := #[{ on := 7, ground := Ground.data }], guard := none }, { dst := some 33, op := Op.build 23 #[(0, Operand.tmp 25), (1, Operand.tmp 30), (2, Operand.tmp 32)], type := 23, pos := "number.go:77", after := #[{ on := 1, ground := Ground.data }, { on := 6, ground := Ground.data }, { on := 8, ground := Ground.data }], guard := none }, { dst := none, op := Op.store 23 (Operand.tmp 4) (Operand.tmp 33), type := 0, pos := "number.go:77", after := #[{ on := 9, ground := Ground.data }, { on := 3, ground := Ground.chain }, { on := 0, ground := Ground.phase }, { on := 1, ground := Ground.phase }, { on := 2, ground := Ground.phase }, { on := 3, ground := Ground.phase }, { on := 4, ground := Ground.phase }, { on := 5, ground := Ground.phase }, { on := 6, ground := Ground.phase }, { on := 7, ground := Ground.phase }, { on := 8, ground := Ground.phase }, { on := 9, ground := Ground.phase }], guard := none }] true).wp Tryz.prog Q a0 W := by
  refine start_ (n := 11) (S := fun w' => True) (ds := []) #[false, false, false, false, false, false, false, false, false, false, false] (by kernel_rfl) rfl rfl trivial (fun hHeld => ?_)
  refine with_tabW shape_four.tab shape_four.bits (fun HT_ HW_ => ?_)
  refine inv_at [0, 1, 2, 3, 4, 5, 6, 7, 8, 9, 10] (fun a0_ b a w' => a = putSel a0_ b [(0, 24, .pointer (some ⟨w0.heap.size + 1, 0, none⟩)), (1, 25, .bool n), (2, 26, .int .i64 z), (3, 27, .string Z), (4, 28, .pointer (some ⟨w0.heap.size + 1, 1, none⟩)), (5, 29, .string D), (6, 30, .string (Z ++ D)), (7, 31, .pointer (some ⟨w0.heap.size + 1, 2, none⟩)), (8, 32, .int .i64 k), (9, 33, .agg #[.bool n, .string (Z ++ D), .int .i64 k])] ∧ (Sh w0 mi mf xf pl rk n D k (if b 10 = true then n else false) (if b 10 = true then Z ++ D else ⟨#[]⟩) (if b 10 = true then k else 0) w')) HT_.out HW_.out (by kernel_rfl) (by kernel_rfl) ?_ ?_ ?_
  · exact ⟨(by simp only [putSel, Bool.false_eq_true, if_false]), hI⟩
  · clear hI hend hHeld
    refine steps_cons ?_ ?_
    · rintro b a w' ⟨ha, hI⟩ hb_ hon hoff
      refine ⟨_, rfl, fun K hK => ?_⟩
      have e3 : a.tmps[3]? = some (.pointer (some ⟨w0.heap.size + 1, 0, none⟩)) := by rw [ha]; exact (putSel_off rfl).trans s3
      replace ha := Aside0.mk ha
      obtain ⟨p0, p1, p2, p3, p4, p5⟩ := hI.get
      obtain ⟨r0, r1, r2⟩ := hI.getr
      have z0 := hI.fr 0
      have z1 := hI.fr 1
      have z2 := hI.fr 2
      refine value_ (w1 := w') (v := .pointer (some ⟨w0.heap.size + 1, 0, none⟩)) (by rfl) rfl ?_ ?_
      · go_simp; try rfl
        all_goals (try (simp only [IntKind.wrap_i64]; omega))
      exact hK.out _ _ ⟨(by rw [ha.out]; exact putSel_upk 0 hb_ rfl rfl rfl), hI⟩
    refine steps_cons ?_ ?_
    · rintro b a w' ⟨ha, hI⟩ hb_ hon hoff
      refine ⟨_, rfl, fun K hK => ?_⟩
      have e24 : a.tmps[24]? = some (.pointer (some ⟨w0.heap.size + 1, 0, none⟩)) := by rw [ha]; exact putSel_on (e := (0, 24, .pointer (some ⟨w0.heap.size + 1, 0, none⟩))) 0 rfl rfl (hon 0 (by kernel_rfl)) (by rw [hsz]; rfl)
      replace ha := Aside0.mk ha
      obtain ⟨p0, p1, p2, p3, p4, p5⟩ := hI.get
      obtain ⟨r0, r1, r2⟩ := hI.getr
      have z0 := hI.fr 0
      have z1 := hI.fr 1
      have z2 := hI.fr 2
      refine value_ (w1 := w') (v := .bool n) (by rfl) rfl ?_ ?_
      · go_simp; try rfl
        all_goals (try (simp only [IntKind.wrap_i64]; omega))
      exact hK.out _ _ ⟨(by rw [ha.out]; exact putSel_upk 1 hb_ rfl rfl rfl), hI⟩
    refine steps_cons ?_ ?_
    · rintro b a w' ⟨ha, hI⟩ hb_ hon hoff
      refine ⟨_, rfl, fun K hK => ?_⟩
      have e5 : a.tmps[5]? = some (.int .i64 z) := by rw [ha]; exact (putSel_off rfl).trans s5
      replace ha := Aside0.mk ha
      obtain ⟨p0, p1, p2, p3, p4, p5⟩ := hI.get
      obtain ⟨r0, r1, r2⟩ := hI.getr
      have z0 := hI.fr 0
      have z1 := hI.fr 1
      have z2 := hI.fr 2
      refine value_ (w1 := w') (v := .int .i64 z) (by rfl) rfl ?_ ?_
      · go_simp; try rfl
        all_goals (try (simp only [IntKind.wrap_i64]; omega))
      exact hK.out _ _ ⟨(by rw [ha.out]; exact putSel_upk 2 hb_ rfl rfl rfl), hI⟩
    refine steps_cons ?_ ?_
    · rintro b a w' ⟨ha, hI⟩ hb_ hon hoff
      refine ⟨_, rfl, fun K hK => ?_⟩
      have e26 : a.tmps[26]? = some (.int .i64 z) := by rw [ha]; exact putSel_on (e := (2, 26, .int .i64 z)) 2 rfl rfl (hon 2 (by kernel_rfl)) (by rw [hsz]; rfl)
      replace ha := Aside0.mk ha
      obtain ⟨p0, p1, p2, p3, p4, p5⟩ := hI.get
      obtain ⟨r0, r1, r2⟩ := hI.getr
      have z0 := hI.fr 0
      have z1 := hI.fr 1
      have z2 := hI.fr 2
      refine goes_ Tryz.func34 (by kernel_rfl) rfl #[Go.Value.string { data := #[48] }, .int .i64 z] (by rfl) rfl rfl (by first | (simp only [List.map_toArray, List.map_cons, List.map_nil, Act.eval, Array.getD_eq_getD_getElem?, Option.getD_some, e26]; done) | (simp only [List.map_toArray, List.map_cons, List.map_nil, Act.eval, Array.getD_eq_getD_getElem?, Option.getD_some, e26]; rfl)) ?_
      refine (cZ w').mono ?_
      rintro e w1 ⟨rfl, b1⟩; have hI1 := hI.step b1
      exact ⟨_, rfl, hK.out _ _ ⟨(by rw [ha.out]; exact putSel_upk 3 hb_ rfl rfl rfl), hI1⟩⟩
    refine steps_cons ?_ ?_
    · rintro b a w' ⟨ha, hI⟩ hb_ hon hoff
      refine ⟨_, rfl, fun K hK => ?_⟩
      have e3 : a.tmps[3]? = some (.pointer (some ⟨w0.heap.size + 1, 0, none⟩)) := by rw [ha]; exact (putSel_off rfl).trans s3
      replace ha := Aside0.mk ha
      obtain ⟨p0, p1, p2, p3, p4, p5⟩ := hI.get
      obtain ⟨r0, r1, r2⟩ := hI.getr
      have z0 := hI.fr 0
      have z1 := hI.fr 1
      have z2 := hI.fr 2
      refine value_ (w1 := w') (v := .pointer (some ⟨w0.heap.size + 1, 1, none⟩)) (by rfl) rfl ?_ ?_
      · go_simp; try rfl
        all_goals (try (simp only [IntKind.wrap_i64]; omega))
      exact hK.out _ _ ⟨(by rw [ha.out]; exact putSel_upk 4 hb_ rfl rfl rfl), hI⟩
    refine steps_cons ?_ ?_
    · rintro b a w' ⟨ha, hI⟩ hb_ hon hoff
      refine ⟨_, rfl, fun K hK => ?_⟩
      have e28 : a.tmps[28]? = some (.pointer (some ⟨w0.heap.size + 1, 1, none⟩)) := by rw [ha]; exact putSel_on (e := (4, 28, .pointer (some ⟨w0.heap.size + 1, 1, none⟩))) 4 rfl rfl (hon 4 (by kernel_rfl)) (by rw [hsz]; rfl)
      replace ha := Aside0.mk ha
      obtain ⟨p0, p1, p2, p3, p4, p5⟩ := hI.get
      obtain ⟨r0, r1, r2⟩ := hI.getr
      have z0 := hI.fr 0
      have z1 := hI.fr 1
      have z2 := hI.fr 2
      refine value_ (w1 := w') (v := .string D) (by rfl) rfl ?_ ?_
      · go_simp; try rfl
        all_goals (try (simp only [IntKind.wrap_i64]; omega))
      exact hK.out _ _ ⟨(by rw [ha.out]; exact putSel_upk 5 hb_ rfl rfl rfl), hI⟩
    refine steps_cons ?_ ?_
    · rintro b a w' ⟨ha, hI⟩ hb_ hon hoff
      refine ⟨_, rfl, fun K hK => ?_⟩
      have e27 : a.tmps[27]? = some (.string Z) := by rw [ha]; exact putSel_on (e := (3, 27, .string Z)) 3 rfl rfl (hon 3 (by kernel_rfl)) (by rw [hsz]; rfl)
      have e29 : a.tmps[29]? = some (.string D) := by rw [ha]; exact putSel_on (e := (5, 29, .string D)) 5 rfl rfl (hon 5 (by kernel_rfl)) (by rw [hsz]; rfl)
      replace ha := Aside0.mk ha
      obtain ⟨p0, p1, p2, p3, p4, p5⟩ := hI.get
      obtain ⟨r0, r1, r2⟩ := hI.getr
      have z0 := hI.fr 0
      have z1 := hI.fr 1
      have z2 := hI.fr 2
      refine value_ (w1 := w') (v := .string (Z ++ D)) (by rfl) rfl ?_ ?_
      · exact exec_cat _ rfl (eval_of e27) (eval_of e29) (by omega)
      exact hK.out _ _ ⟨(by rw [ha.out]; exact putSel_upk 6 hb_ rfl rfl rfl), hI⟩
    refine steps_cons ?_ ?_
    · rintro b a w' ⟨ha, hI⟩ hb_ hon hoff
      refine ⟨_, rfl, fun K hK => ?_⟩
      have e3 : a.tmps[3]? = some (.pointer (some ⟨w0.heap.size + 1, 0, none⟩)) := by rw [ha]; exact (putSel_off rfl).trans s3
      replace ha := Aside0.mk ha
      obtain ⟨p0, p1, p2, p3, p4, p5⟩ := hI.get
      obtain ⟨r0, r1, r2⟩ := hI.getr
      have z0 := hI.fr 0
      have z1 := hI.fr 1
      have z2 := hI.fr 2
      refine value_ (w1 := w') (v := .pointer (some ⟨w0.heap.size + 1, 2, none⟩)) (by rfl) rfl ?_ ?_
      · go_simp; try rfl
        all_goals (try (simp only [IntKind.wrap_i64]; omega))
      exact hK.out _ _ ⟨(by rw [ha.out]; exact putSel_upk 7 hb_ rfl rfl rfl), hI⟩
    refine steps_cons ?_ ?_
    · rintro b a w' ⟨ha, hI⟩ hb_ hon hoff
      refine ⟨_, rfl, fun K hK => ?_⟩
      have e31 : a.tmps[31]? = some (.pointer (some ⟨w0.heap.size + 1, 2, none⟩)) := by rw [ha]; exact putSel_on (e := (7, 31, .pointer (some ⟨w0.heap.size + 1, 2, none⟩))) 7 rfl rfl (hon 7 (by kernel_rfl)) (by rw [hsz]; rfl)
      replace ha := Aside0.mk ha
      obtain ⟨p0, p1, p2, p3, p4, p5⟩ := hI.get
      obtain ⟨r0, r1, r2⟩ := hI.getr
      have z0 := hI.fr 0
      have z1 := hI.fr 1
      have z2 := hI.fr 2
      refine value_ (w1 := w') (v := .int .i64 k) (by rfl) rfl ?_ ?_
      · go_simp; try rfl
        all_goals (try (simp only [IntKind.wrap_i64]; omega))
      exact hK.out _ _ ⟨(by rw [ha.out]; exact putSel_upk 8 hb_ rfl rfl rfl), hI⟩
    refine steps_cons ?_ ?_
    · rintro b a w' ⟨ha, hI⟩ hb_ hon hoff
      refine ⟨_, rfl, fun K hK => ?_⟩
      have e25 : a.tmps[25]? = some (.bool n) := by rw [ha]; exact putSel_on (e := (1, 25, .bool n)) 1 rfl rfl (hon 1 (by kernel_rfl)) (by rw [hsz]; rfl)
      have e30 : a.tmps[30]? = some (.string (Z ++ D)) := by rw [ha]; exact putSel_on (e := (6, 30, .string (Z ++ D))) 6 rfl rfl (hon 6 (by kernel_rfl)) (by rw [hsz]; rfl)
      have e32 : a.tmps[32]? = some (.int .i64 k) := by rw [ha]; exact putSel_on (e := (8, 32, .int .i64 k)) 8 rfl rfl (hon 8 (by kernel_rfl)) (by rw [hsz]; rfl)
      replace ha := Aside0.mk ha
      obtain ⟨p0, p1, p2, p3, p4, p5⟩ := hI.get
      obtain ⟨r0, r1, r2⟩ := hI.getr
      have z0 := hI.fr 0
      have z1 := hI.fr 1
      have z2 := hI.fr 2
      refine value_ (w1 := w') (v := .agg #[.bool n, .string (Z ++ D), .int .i64 k]) (by rfl) rfl ?_ ?_
      · go_simp; try rfl
        all_goals (try (simp only [IntKind.wrap_i64]; omega))
      exact hK.out _ _ ⟨(by rw [ha.out]; exact putSel_upk 9 hb_ rfl rfl rfl), hI⟩
    refine steps_cons ?_ ?_
    · rintro b a w' ⟨ha, hI⟩ hb_ hon hoff
      refine ⟨_, rfl, fun K hK => ?_⟩
      have e4 : a.tmps[4]? = some (.pointer (some ⟨w0.heap.size + 1 + 1, 0, none⟩)) := by rw [ha]; exact (putSel_off rfl).trans s4
      have e33 : a.tmps[33]? = some (.agg #[.bool n, .string (Z ++ D), .int .i64 k]) := by rw [ha]; exact putSel_on (e := (9, 33, .agg #[.bool n, .string (Z ++ D), .int .i64 k])) 9 rfl rfl (hon 9 (by kernel_rfl)) (by rw [hsz]; rfl)
      replace ha := Aside0.mk ha
      obtain ⟨p0, p1, p2, p3, p4, p5⟩ := hI.get
      obtain ⟨r0, r1, r2⟩ := hI.getr
      have z0 := hI.fr 0
      have z1 := hI.fr 1
      have z2 := hI.fr 2
      refine skip_ (w1 := ((w'.setCell ⟨w0.heap.size + 1 + 1, 0, none⟩ (.bool n)).setCell ⟨w0.heap.size + 1 + 1, 1, none⟩ (.string (Z ++ D))).setCell ⟨w0.heap.size + 1 + 1, 2, none⟩ (.int .i64 k)) (by rfl) rfl ?_ ?_
      · go_simp
      exact hK.out _ _ ⟨(by rw [ha.out]; exact (putSel_same rfl).symm), hI.putr n (Z ++ D) k⟩
    exact steps_nil
  rintro b a w1 hall ⟨ha, hI1⟩
  simp only [hall 10 (by kernel_rfl)] at hI1
  exact hend a w1 hI1 (by rw [ha]; simp only [putSel, if_true, hall 0 (by kernel_rfl), hall 1 (by kernel_rfl), hall 2 (by kernel_rfl), hall 3 (by kernel_rfl), hall 4 (by kernel_rfl), hall 5 (by kernel_rfl), hall 6 (by kernel_rfl), hall 7 (by kernel_rfl), hall 8 (by kernel_rfl), hall 9 (by kernel_rfl)]) (by rw [ha]; exact (putSel_size b _ a0).2)
end Go.Proofs.YtgjboghnnhcgiaaGreatDoor
namespace Go.Proofs.YtgjboghnnhcgiaaGreatDoor
open Go.RowKit
open Go.Proofs.YtgjboghnnhcgiaaGreatDoorW.PrintWords Go.Proofs.YtgjboghnnhcgiaaGreatDoorW.PrintLast Go.Proofs.YtgjboghnnhcgiaaGreatDoorW.PrintMore
set_option linter.unusedVariables false
set_option linter.unusedSimpArgs false
theorem tz_ge (d : ByteArray) : ∀ f i, i - f ≤ tz d f i
  | 0, i => Nat.le_refl _
  | f + 1, i => by
    unfold tz
    split
    · have := tz_ge d f (i - 1); omega
    · omega
def shT (mf : Nat) (r : ByteArray) (k : Nat) : Nat := tz r (k - mf) r.size
def shJ (mf : Nat) (r : ByteArray) (k : Nat) : Nat := k - (r.size - shT mf r k)
def shE (mf : Nat) (r : ByteArray) (k : Nat) : ByteArray := r.extract 0 (shT mf r k) ++ zs (mf - shJ mf r k)
def shK (mf : Nat) (r : ByteArray) (k : Nat) : Nat := shJ mf r k + (mf - shJ mf r k)
def shD (mi mf : Nat) (r : ByteArray) (k : Nat) : ByteArray := zs (mi - ((shE mf r k).size - shK mf r k)) ++ shE mf r k
theorem zs_none (d : ByteArray) : zs 0 ++ d = d := by
  apply ByteArray.ext
  rw [ByteArray.data_append]
  simp [zs]
set_option maxRecDepth 100000 in
set_option maxHeartbeats 4000000 in
theorem shape_any (mi mf : Nat) (xf : Int) (pl rk n : Bool) (D : ByteArray) (k : Int) (r : ByteArray) (k1 : Nat)
    (hR : ∀ W, Calls Tryz.prog 60 #[decV n D k, .int .i64 xf] W fun e w' => e = .returned (decV n r k1) ∧ Below W.heap.size W w')
    (hk : k1 < r.size) (hr : r.size ≤ 800) (hmf : mf ≤ 20) (hmi : mi ≤ 20) (w : World) :
    Calls Tryz.prog 32 #[optV mi mf xf pl rk, decV n D k] w fun e w' => e = .returned (decV n (shD mi mf r k1) (shK mf r k1)) ∧ Below w.heap.size w w' := by
  have t1 : shT mf r k1 ≤ r.size := tz_le _ _ _
  have t2 : r.size - (k1 - mf) ≤ shT mf r k1 := tz_ge _ _ _
  have cT := fun W => trim_any n r k1 mf W hk (by omega) (by omega)
  have e2 : (k1 : Int) - (r.size - tz r (k1 - mf) r.size : Nat) = (shJ mf r k1 : Nat) := by unfold shJ; unfold shT at *; omega
  rw [e2] at cT
  have j1 : shJ mf r k1 < shT mf r k1 := by unfold shJ; omega
  have s2 := extract_size r _ t1
  have cP := fun W => pad_any n (r.extract 0 (shT mf r k1)) (shJ mf r k1) mf W (by rw [s2]; exact j1) (by rw [s2]; omega) (by omega)
  have e3 : ((shJ mf r k1 : Nat) : Int) + (mf - shJ mf r k1 : Nat) = (shK mf r k1 : Nat) := by unfold shK; omega
  rw [e3] at cP
  have s3 : (shE mf r k1).size = shT mf r k1 + (mf - shJ mf r k1) := by unfold shE; rw [ByteArray.size_append, s2, zs_size]
  have k3 : shK mf r k1 < (shE mf r k1).size := by rw [s3]; unfold shK; omega
  have cW := fun W => whole_any n (shE mf r k1) (shK mf r k1) W (by omega) (by omega)
  have s4 := extract_size (shE mf r k1) ((shE mf r k1).size - shK mf r k1) (by omega)
  have hS := Sh.start w mi mf xf pl rk n D k
  have cP' : ∀ W, Calls Tryz.prog 13 #[decV n (r.extract 0 (shT mf r k1)) (shJ mf r k1), .int .i64 (mf : Int)] W fun e w' => e = .returned (decV n (shE mf r k1) (shK mf r k1)) ∧ Below W.heap.size W w' := cP
  have cT' : ∀ W, Calls Tryz.prog 61 #[decV n r k1, .int .i64 (mf : Int)] W fun e w' => e = .returned (decV n (r.extract 0 (shT mf r k1)) (shJ mf r k1)) ∧ Below W.heap.size W w' := cT
  have hD : shD mi mf r k1 = zs (mi - ((shE mf r k1).size - shK mf r k1)) ++ shE mf r k1 := rfl
  clear cP cT e2 e3
  generalize shD mi mf r k1 = DD at *
  generalize r.extract 0 (shT mf r k1) = D2 at *
  generalize shE mf r k1 = E at *
  generalize shK mf r k1 = K at *
  unfold decV at *
  unfold optV
  go_enter Tryz.func32, Tryz.ntmps32
  go_wp2
  refine shape_one w mi mf xf pl rk n D r D2 E k k1 (shJ mf r k1) K hR cT' cP' _ rfl rfl rfl _ hS.drew _ ?_
  intro a9 w9 h9 ha9 hd9
  have h8 : Sh w mi mf xf pl rk n E K false ⟨#[]⟩ 0 w9 := h9
  rw [ha9]
  simp only [putSel, if_true, Act.put, List.setIfInBounds_toArray, List.set_cons_zero, List.set_cons_succ]
  clear ha9 hd9 h9 hS hR cT' cP'
  go_wp2
  refine shape_two w mi mf xf pl rk n E (E.extract 0 (E.size - K)) K (by omega) (by omega) (by omega) cW _ rfl rfl rfl _ h8.drew _ ?_
  intro b9 v9 g9 hb9 hbd9 hb5
  rw [hb9]
  simp only [putSel, if_true, Act.put, List.setIfInBounds_toArray, List.set_cons_zero, List.set_cons_succ]
  clear hb9 hbd9 hb5 h8 cW
  rw [s4]
  by_cases hc : E.size - K < mi
  · have g1 : decide ((mi : Int) - (E.size - K : Nat) > 0) = true := decide_eq_true (by omega)
    have cZ := fun W => rep_any (mi - (E.size - K)) (by omega) W
    have ez : ((mi - (E.size - K) : Nat) : Int) = (mi : Int) - (E.size - K : Nat) := by omega
    rw [ez] at cZ
    go_wp2
    refine shape_four w mi mf xf pl rk n E (zs (mi - (E.size - K))) K ((mi : Int) - (E.size - K : Nat)) (by omega) (by rw [zs_size]; omega) cZ _ rfl rfl rfl rfl _ g9.drew _ ?_
    intro c9 u9 f9 hc9 hcd9
    have f8 : Sh w mi mf xf pl rk n E K n (zs (mi - (E.size - K)) ++ E) K u9 := f9
    obtain ⟨r0, r1, r2⟩ := f8.getr
    have bel := f8.bel
    rw [hc9]
    simp only [putSel, if_true, Act.put, List.setIfInBounds_toArray, List.set_cons_zero, List.set_cons_succ]
    clear hc9 hcd9 f9 f8 g9
    rw [← hD] at r1
    go_wp2
    refine bodyPost_ret (v := .agg #[.bool n, .string DD, .int .i64 K]) (by simp [results, Tryz.results32, go_sem, r0, r1, r2]) rfl ?_
    exact ⟨rfl, bel⟩
  · have g1 : decide ((mi : Int) - (E.size - K : Nat) > 0) = false := decide_eq_false (by omega)
    rw [show mi - (E.size - K) = 0 by omega, zs_none] at hD
    subst hD
    obtain ⟨p0, p1, p2, p3, p4, p5⟩ := g9.get
    obtain ⟨r0, r1, r2⟩ := g9.getr
    have z0 := g9.fr 0
    have z1 := g9.fr 1
    have z2 := g9.fr 2
    have f8 := g9.putr n DD K
    obtain ⟨t0, t1, t2⟩ := f8.getr
    have bel := f8.bel
    go_wp2
    refine bodyPost_ret (v := .agg #[.bool n, .string DD, .int .i64 K]) (by simp [results, Tryz.results32, go_sem, t0, t1, t2]) rfl ?_
    exact ⟨rfl, bel⟩
end Go.Proofs.YtgjboghnnhcgiaaGreatDoor
namespace Go.Proofs.YtgjboghnnhcgiaaGreatDoor.M
open Go.RowKit
set_option linter.unusedVariables false
set_option linter.unusedSimpArgs false
def ent : List (ByteArray × ByteArray) → Nat → List MapEntry
  | [], _ => []
  | p :: r, n => ⟨.string p.1, .string p.2, n⟩ :: ent r (n + 1)
def look : List (ByteArray × ByteArray) → ByteArray → Option ByteArray
  | [], _ => none
  | p :: r, k => if (k == p.1) = true then some p.2 else look r k
theorem ent_length : ∀ (l : List (ByteArray × ByteArray)) (n : Nat), (ent l n).length = l.length
  | [], _ => rfl
  | p :: r, n => by simp [ent, ent_length r]
theorem ent_app : ∀ (l m : List (ByteArray × ByteArray)) (n : Nat), ent (l ++ m) n = ent l n ++ ent m (n + l.length)
  | [], m, n => by simp [ent]
  | p :: r, m, n => by simp [ent, ent_app r m (n + 1), Nat.add_assoc, Nat.add_comm 1]
theorem find_ent (k : ByteArray) : ∀ (l : List (ByteArray × ByteArray)) (n i : Nat),
    (look l k = none ∧ Instr.findNow .string (.string k) (ent l n) i = some none) ∨ ∃ v j, look l k = some v ∧ Instr.findNow .string (.string k) (ent l n) i = some (some (j, .string v))
  | [], n, i => .inl ⟨rfl, rfl⟩
  | p :: r, n, i => by
    cases h : (k == p.1) with
    | true => exact .inr ⟨p.2, i, by simp [look, h], by simp [ent, Instr.findNow, Instr.sameNow, h]⟩
    | false =>
      rcases find_ent k r (n + 1) (i + 1) with ⟨h1, h2⟩ | ⟨v, j, h1, h2⟩
      · exact .inl ⟨by simp [look, h, h1], by simp [ent, Instr.findNow, Instr.sameNow, h, h2]⟩
      · exact .inr ⟨v, j, by simp [look, h, h1], by simp [ent, Instr.findNow, Instr.sameNow, h, h2]⟩
def obj (l : List (ByteArray × ByteArray)) : Obj := .map (ent l 0).toArray l.length
def half (l : List (ByteArray × ByteArray)) (k : ByteArray) : Obj := .map ((ent l 0).toArray.push ⟨.string k, .string ⟨#[]⟩, l.length⟩) (l.length + 1)
def setObj (w : World) (r : Nat) (o : Obj) : World := { w with heap := w.heap.setIfInBounds r o }
section
variable {P : Program} {t kt et : TypeId} {w : World} {r : Nat} {l : List (ByteArray × ByteArray)}
theorem run_look (hm : P.underlying t = some (.map kt et)) (hk : P.underlying kt = some .string) (hz : ∀ u : World, (zeroValue et).run P u = .ok (.string ⟨#[]⟩) u) (hb : w.heap[r]? = some (obj l)) (k : ByteArray) (c : Bool) :
    (Instr.lookup t (.map (some r)) (.string k) c).run P w = .ok (if c then .tuple #[.string ((look l k).getD ⟨#[]⟩), .bool (look l k).isSome] else .string ((look l k).getD ⟨#[]⟩)) w := by
  have hc : ∀ e, (Instr.checkKey e 10000 kt (.string k)).run P w = .ok () w := fun e => MapKept.run_checkKey (k := .string k) hk (show MapKept.IsKey .string (.string k) from trivial) e 9999
  rcases find_ent k l 0 0 with ⟨h1, h2⟩ | ⟨v, j, h1, h2⟩
  · simp [Instr.lookup, run_underlying hm, MapKept.run_getObj_map hb, hc, MapKept.run_findKey hk h2, hz, h1, Result.andThen]
  · simp [Instr.lookup, run_underlying hm, MapKept.run_getObj_map hb, hc, MapKept.run_findKey hk h2, h1, Result.andThen]
theorem run_entry (hm : P.underlying t = some (.map kt et)) (hk : P.underlying kt = some .string) (hz : ∀ u : World, (zeroValue et).run P u = .ok (.string ⟨#[]⟩) u) (hb : w.heap[r]? = some (obj l)) {k : ByteArray} (hn : look l k = none) :
    (Instr.mapEntry t (.map (some r)) (.string k)).run P w = .ok (.tuple #[.string ⟨#[]⟩, goInt l.length]) (setObj w r (half l k)) := by
  have hc : ∀ e, (Instr.checkKey e 10000 kt (.string k)).run P w = .ok () w := fun e => MapKept.run_checkKey (k := .string k) hk (show MapKept.IsKey .string (.string k) from trivial) e 9999
  rcases find_ent k l 0 0 with ⟨h1, h2⟩ | ⟨v, j, h1, h2⟩
  · simp [Instr.mapEntry, run_underlying hm, MapKept.run_getObj_map hb, hc, MapKept.run_findKey hk h2, hz, Result.andThen, MapKept.run_setObj_map _ hb, setObj, half]
  · rw [hn] at h1; cases h1
theorem born_ent : ∀ (l : List (ByteArray × ByteArray)) (n : Nat) (x : MapEntry), (ent l n ++ [{ x with born := n + l.length }]).findIdx? (fun e : MapEntry => ((e.born : Nat) : Int) == ((n + l.length : Nat) : Int)) = some l.length
  | [], n, x => by simp [ent, List.findIdx?_cons]
  | p :: r, n, x => by
    have h := born_ent r (n + 1) x
    have e1 : n + (p :: r).length = n + 1 + r.length := by simp; omega
    rw [e1]
    simp only [ent, List.cons_append, List.findIdx?_cons]
    have e2 : (((n : Nat) : Int) == ((n + 1 + r.length : Nat) : Int)) = false := by simp; omega
    rw [e2, h]
    simp
theorem run_put {k : ByteArray} (hb : w.heap[r]? = some (half l k)) (v : ByteArray) :
    (Instr.entryStore t (.map (some r)) (goInt l.length) (.string v)).run P w = .ok () (setObj w r (obj (l ++ [(k, v)]))) := by
  have h1 := born_ent l 0 ⟨.string k, .string ⟨#[]⟩, 0⟩
  have h2 : ((ent l 0).toArray.push ⟨.string k, .string ⟨#[]⟩, l.length⟩).findIdx? (fun e : MapEntry => ((e.born : Nat) : Int) == ((l.length : Nat) : Int)) = some l.length := by
    rw [WideElems.findIdx_arr]
    simpa using h1
  have h3 : ((ent l 0).toArray.push ⟨.string k, .string ⟨#[]⟩, l.length⟩).modify l.length (fun e => { e with val := .string v }) = (ent (l ++ [(k, v)]) 0).toArray := by
    apply Array.ext'
    rw [Array.toList_modify, Array.toList_push, ent_app]
    have h := WideElems.modify_last (fun e : MapEntry => { e with val := .string v }) ⟨.string k, .string ⟨#[]⟩, l.length⟩ (ent l 0)
    rw [ent_length] at h
    simpa [ent] using h
  have hb' : w.heap[r]? = some (.map ((ent l 0).toArray.push ⟨.string k, .string ⟨#[]⟩, l.length⟩) (l.length + 1)) := hb
  simp only [Instr.entryStore, goInt, asInt, asIntOf, Sem.run_bind, Sem.run_pure, MapKept.run_getObj_map hb', Result.andThen_ok, h2, h3, MapKept.run_setObj_map _ hb', setObj, obj, List.length_append, List.length_cons, List.length_nil]
end
theorem setObj_same {w : World} {r : Nat} {o0 : Obj} (h : w.heap[r]? = some o0) (o : Obj) : (setObj w r o).heap[r]? = some o := (MapKept.heap_set h).1
theorem setObj_far {w : World} {r k : Nat} (o : Obj) (hne : k ≠ r) : (setObj w r o).heap[k]? = w.heap[k]? := by simp [setObj, Ne.symm hne]
theorem setObj_grown (w : World) (r : Nat) (o : Obj) : w.grownBy (setObj w r o) (some r) :=
  ⟨rfl, rfl, rfl, by simp [setObj], fun k _ hk => setObj_far o (fun e => hk (by rw [e]))⟩
end Go.Proofs.YtgjboghnnhcgiaaGreatDoor.M
namespace Go.Proofs.YtgjboghnnhcgiaaGreatDoor.M
open Go.RowKit
set_option linter.unusedVariables false
set_option linter.unusedSimpArgs false
theorem heap_setCell {W : World} {b i : Nat} {v : Value} {cs : Array Value} {T : TypeId} {fr : Nat × Nat} (h : W.heap[b]? = some (.cells cs T fr)) : (W.setCell ⟨b, i, none⟩ v).heap[b]? = some (.cells (cs.setIfInBounds i v) T fr) := by
  simp [World.setCell, Array.getElem?_modify, h]
theorem heap_setCell_far {W : World} {b i k : Nat} {v : Value} (h : k ≠ b) : (W.setCell ⟨b, i, none⟩ v).heap[k]? = W.heap[k]? := by
  simp [World.setCell, Array.getElem?_modify, Ne.symm h]
theorem grown_setCell (w : World) (b i : Nat) (u : Value) : w.grownBy (w.setCell ⟨b, i, none⟩ u) (some b) :=
  ⟨rfl, rfl, rfl, by simp [World.setCell], fun k _ hk => heap_setCell_far (fun e => hk (by rw [e]))⟩
theorem grown_refl (w : World) (row : Option Nat) : w.grownBy w row := ⟨rfl, rfl, rfl, Nat.le_refl _, fun _ _ _ => rfl⟩
theorem grown_drew (w : World) (row : Option Nat) : w.grownBy w.drew row := ⟨rfl, rfl, rfl, Nat.le_refl _, fun _ _ _ => rfl⟩
theorem grown_below {w w' : World} {row : Option Nat} {B : Nat} (h : Below B w w') (hB : w.heap.size ≤ B) : w.grownBy w' row :=
  ⟨h.os, h.tape, h.output, h.size, fun i hi _ => h.block i (Nat.lt_of_lt_of_le hi hB)⟩
def mkc (d s a : Int) (p g : Option Nat) : Array Value := #[.int .u32 d, .int .i32 s, .int .u32 0, .int .i64 a, .map p, .map g]
structure Mk (b : Nat) (d s a : Int) (p g : Option Nat) (W : World) : Prop where
  blk : W.heap[b]? = some (.cells (mkc d s a p g) 62 (0, 0))
section
variable {b : Nat} {d s a : Int} {p g : Option Nat} {W : World}
theorem Mk.c0 (h : Mk b d s a p g W) : W.cell? ⟨b, 0, none⟩ = some (.int .u32 d) := (Lib.cell_of_heap h.blk 0).trans rfl
theorem Mk.c1 (h : Mk b d s a p g W) : W.cell? ⟨b, 1, none⟩ = some (.int .i32 s) := (Lib.cell_of_heap h.blk 1).trans rfl
theorem Mk.c2 (h : Mk b d s a p g W) : W.cell? ⟨b, 2, none⟩ = some (.int .u32 0) := (Lib.cell_of_heap h.blk 2).trans rfl
theorem Mk.c3 (h : Mk b d s a p g W) : W.cell? ⟨b, 3, none⟩ = some (.int .i64 a) := (Lib.cell_of_heap h.blk 3).trans rfl
theorem Mk.c4 (h : Mk b d s a p g W) : W.cell? ⟨b, 4, none⟩ = some (.map p) := (Lib.cell_of_heap h.blk 4).trans rfl
theorem Mk.c5 (h : Mk b d s a p g W) : W.cell? ⟨b, 5, none⟩ = some (.map g) := (Lib.cell_of_heap h.blk 5).trans rfl
theorem Mk.fz (h : Mk b d s a p g W) (i : Nat) : W.frozen? ⟨b, i, none⟩ = false := by simp [World.frozen?, h.blk]
theorem Mk.s0 (h : Mk b d s a p g W) (x : Int) : Mk b x s a p g (W.setCell ⟨b, 0, none⟩ (.int .u32 x)) := ⟨(heap_setCell h.blk).trans rfl⟩
theorem Mk.s1 (h : Mk b d s a p g W) (x : Int) : Mk b d x a p g (W.setCell ⟨b, 1, none⟩ (.int .i32 x)) := ⟨(heap_setCell h.blk).trans rfl⟩
theorem Mk.s3 (h : Mk b d s a p g W) (x : Int) : Mk b d s x p g (W.setCell ⟨b, 3, none⟩ (.int .i64 x)) := ⟨(heap_setCell h.blk).trans rfl⟩
theorem Mk.s4 (h : Mk b d s a p g W) (x : Option Nat) : Mk b d s a x g (W.setCell ⟨b, 4, none⟩ (.map x)) := ⟨(heap_setCell h.blk).trans rfl⟩
theorem Mk.s5 (h : Mk b d s a p g W) (x : Option Nat) : Mk b d s a p x (W.setCell ⟨b, 5, none⟩ (.map x)) := ⟨(heap_setCell h.blk).trans rfl⟩
theorem Mk.drew (h : Mk b d s a p g W) : Mk b d s a p g W.drew := ⟨h.blk⟩
theorem Mk.lt (h : Mk b d s a p g W) : b < W.heap.size := (Array.getElem?_eq_some_iff.1 h.blk).1
theorem Mk.kept {W1 : World} {row : Option Nat} (h : Mk b d s a p g W) (hg : W.grownBy W1 row) (hne : some b ≠ row) : Mk b d s a p g W1 := ⟨(hg.block b h.lt hne).trans h.blk⟩
end
theorem disable (w : World) : (callFunc 161 #[]).run Tryz.prog w = .ok (.value (.tuple #[])) w := run_call_mark0 Tryz.func161 (by kernel_rfl) (by kernel_rfl) (by kernel_rfl) .disable (by kernel_rfl) w
theorem enable (w : World) : (callFunc 163 #[]).run Tryz.prog w = .ok (.value (.tuple #[])) w := run_call_mark0 Tryz.func163 (by kernel_rfl) (by kernel_rfl) (by kernel_rfl) .enable (by kernel_rfl) w
theorem acquire (a : Addr) (w : World) : (callFunc 164 #[.pointer (some a)]).run Tryz.prog w = .ok (.value (.tuple #[])) w := run_call_marked Tryz.func164 (by kernel_rfl) (by kernel_rfl) (by kernel_rfl) .acquire (by kernel_rfl) a w
theorem releaseMerge (a : Addr) (w : World) : (callFunc 166 #[.pointer (some a)]).run Tryz.prog w = .ok (.value (.tuple #[])) w := run_call_marked Tryz.func166 (by kernel_rfl) (by kernel_rfl) (by kernel_rfl) .releaseMerge (by kernel_rfl) a w
theorem not_run (x : Bool) (w : World) : (Op.unary .not (.bool x)).run Tryz.prog w = .ok (.bool (!x)) w := rfl
theorem load_any (a : Addr) (d : Int) (w : World) (h0 : w.cell? a = some (.int .u32 d)) :
    Calls Tryz.prog 109 #[.pointer (some a)] w fun e w' => e = .returned (.bool (d != 0)) ∧ w' = w := by
  have hl := run_call_load (P := Tryz.prog) Tryz.func127 (by kernel_rfl) (by kernel_rfl) (by kernel_rfl) .u32 (by kernel_rfl) h0
  go_enter Tryz.func109, Tryz.ntmps109
  go_wp2
  go_ret
  exact ⟨rfl, rfl⟩
set_option maxRecDepth 100000 in
set_option maxHeartbeats 1600000 in
theorem inner_lock (a : Addr) (w : World) (hc : w.cell? a = some (.int .i32 0)) (hz : w.frozen? a = false) :
    Calls Tryz.prog 147 #[.pointer (some a)] w fun e w' => e = .returned (.tuple #[]) ∧ w' = w.setCell a (.int .i32 1) := by
  have hd := disable
  have he := enable
  have ha := acquire
  have hcas := run_call_cas_hit (P := Tryz.prog) Tryz.func162 (by kernel_rfl) (by kernel_rfl) (by kernel_rfl) .i32 (by kernel_rfl) (y := 1) hc hz
  have hc' : (w.setCell a (.int .i32 1)).cell? a = some (.int .i32 1) := World.cell?_setCell_same w a _ hc
  have hcv := run_convert_to_unsafe (P := Tryz.prog) (src := 216) (dst := 177) Tryz.underlying216 Tryz.underlying177 (by kernel_rfl) hc'
  go_enter Tryz.func147, Tryz.ntmps147
  go_wp2
  first | go_end0 | (simp only [Exit.inBlock, Exit.then]; refine bodyPost_ret (results_none rfl _ _ _) rfl ?_) | refine bodyPost_ret (results_none rfl _ _ _) rfl ?_
  all_goals (try go_wp2)
  all_goals (try go_end0)
  all_goals exact ⟨rfl, rfl⟩
theorem lock_free (a : Addr) (w : World) (hc : w.cell? a = some (.int .i32 0)) (hz : w.frozen? a = false) :
    Calls Tryz.prog 128 #[.pointer (some a)] w fun e w' => e = .returned (.tuple #[]) ∧ w' = w.setCell a (.int .i32 1) := by
  go_enter Tryz.func128, Tryz.ntmps128
  go_wp2_with (go_at_call 147; refine (inner_lock a _ hc hz).mono ?_; rintro e w' ⟨rfl, rfl⟩)
  go_end0
  exact ⟨rfl, rfl⟩
set_option maxRecDepth 100000 in
set_option maxHeartbeats 1600000 in
theorem inner_unlock (a : Addr) (w : World) (hc : w.cell? a = some (.int .i32 1)) (hz : w.frozen? a = false) :
    Calls Tryz.prog 148 #[.pointer (some a)] w fun e w' => e = .returned (.tuple #[]) ∧ w' = w.setCell a (.int .i32 0) := by
  have hd := disable
  have he := enable
  have hr := releaseMerge
  have hadd := run_call_add (P := Tryz.prog) Tryz.func167 (by kernel_rfl) (by kernel_rfl) (by kernel_rfl) .i32 (by kernel_rfl) (y := -1) (s := 0) hc hz (by simp [go_sem]; rfl)
  have hcv := run_convert_to_unsafe (P := Tryz.prog) (src := 216) (dst := 177) Tryz.underlying216 Tryz.underlying177 (by kernel_rfl) hc
  go_enter Tryz.func148, Tryz.ntmps148
  go_wp2
  go_end0
  all_goals (try go_wp2)
  all_goals (try go_end0)
  all_goals exact ⟨rfl, rfl⟩
theorem unlock_deferred (a : Addr) (u : FrameMode) (w : World) (hc : w.cell? a = some (.int .i32 1)) (hz : w.frozen? a = false) :
    CallsD Tryz.prog 129 #[.pointer (some a)] u w fun e u' w' => u' = u ∧ (e = .returned (.tuple #[]) ∧ w' = w.setCell a (.int .i32 0)) := by
  go_enter_d Tryz.func129, Tryz.ntmps129
  go_wp2_with (go_at_call 148; refine (inner_unlock a _ hc hz).mono ?_; rintro e w' ⟨rfl, rfl⟩)
  go_end0
  exact ⟨rfl, rfl⟩
theorem store_deferred (a : Addr) (x : Value) (u : FrameMode) (w : World) (hc : w.cell? a = some x) (hz : w.frozen? a = false) :
    CallsD Tryz.prog 130 #[.pointer (some a), .bool true] u w fun e u' w' => u' = u ∧ (e = .returned (.tuple #[]) ∧ w' = w.drew.setCell a (.int .u32 1)) := by
  have hc' : w.drew.cell? a = some x := by go_simp
  have hz' : w.drew.frozen? a = false := by go_simp
  have hst := run_call_store (P := Tryz.prog) Tryz.func149 (by kernel_rfl) (by kernel_rfl) (by kernel_rfl) (by kernel_rfl) (k := .u32) (y := 1) hc' hz'
  go_enter_d Tryz.func130, Tryz.ntmps130
  go_wp2
  go_region_calls
  all_goals (go_end0; exact ⟨rfl, rfl⟩)
end Go.Proofs.YtgjboghnnhcgiaaGreatDoor.M
namespace Go.Proofs.YtgjboghnnhcgiaaGreatDoor.M
open Go.RowKit
set_option linter.unusedVariables false
set_option linter.unusedSimpArgs false
def ptsL : List (ByteArray × ByteArray) := [(⟨#[100, 101]⟩, ⟨#[44]⟩), (⟨#[110, 108]⟩, ⟨#[44]⟩), (⟨#[101, 115]⟩, ⟨#[44]⟩), (⟨#[102, 114]⟩, ⟨#[44]⟩), (⟨#[114, 117]⟩, ⟨#[44]⟩), (⟨#[99, 115]⟩, ⟨#[44]⟩), (⟨#[112, 108]⟩, ⟨#[44]⟩), (⟨#[115, 118]⟩, ⟨#[44]⟩)]
def grsL : List (ByteArray × ByteArray) := [(⟨#[100, 101]⟩, ⟨#[46]⟩), (⟨#[110, 108]⟩, ⟨#[46]⟩), (⟨#[101, 115]⟩, ⟨#[46]⟩), (⟨#[102, 114]⟩, ⟨#[226, 128, 175]⟩), (⟨#[114, 117]⟩, ⟨#[194, 160]⟩), (⟨#[99, 115]⟩, ⟨#[194, 160]⟩), (⟨#[112, 108]⟩, ⟨#[194, 160]⟩), (⟨#[115, 118]⟩, ⟨#[194, 160]⟩)]
structure Full (b : Nat) (d s a : Int) (p g : Nat) (W : World) : Prop where
  ck : Mk b d s a (some p) (some g) W
  pt : W.heap[p]? = some (obj ptsL)
  gr : W.heap[g]? = some (obj grsL)
section
variable {b : Nat} {d s a : Int} {p g : Nat} {W : World}
theorem Full.pb (h : Full b d s a p g W) : p ≠ b := fun e => by have := h.pt; rw [e, h.ck.blk] at this; cases this
theorem Full.gb (h : Full b d s a p g W) : g ≠ b := fun e => by have := h.gr; rw [e, h.ck.blk] at this; cases this
theorem Full.s0 (h : Full b d s a p g W) (x : Int) : Full b x s a p g (W.setCell ⟨b, 0, none⟩ (.int .u32 x)) := ⟨h.ck.s0 x, (heap_setCell_far h.pb).trans h.pt, (heap_setCell_far h.gb).trans h.gr⟩
theorem Full.s1 (h : Full b d s a p g W) (x : Int) : Full b d x a p g (W.setCell ⟨b, 1, none⟩ (.int .i32 x)) := ⟨h.ck.s1 x, (heap_setCell_far h.pb).trans h.pt, (heap_setCell_far h.gb).trans h.gr⟩
theorem Full.s3 (h : Full b d s a p g W) (x : Int) : Full b d s x p g (W.setCell ⟨b, 3, none⟩ (.int .i64 x)) := ⟨h.ck.s3 x, (heap_setCell_far h.pb).trans h.pt, (heap_setCell_far h.gb).trans h.gr⟩
theorem Full.drew (h : Full b d s a p g W) : Full b d s a p g W.drew := ⟨h.ck.drew, h.pt, h.gr⟩
theorem Full.kept {W1 : World} {row : Option Nat} (h : Full b d s a p g W) (hg : W.grownBy W1 row) (hr : ∀ k, row = some k → k ≠ b ∧ k ≠ p ∧ k ≠ g) : Full b d s a p g W1 :=
  ⟨h.ck.kept hg (fun e => (hr b e.symm).1 rfl), (hg.block p (Array.getElem?_eq_some_iff.1 h.pt).1 (fun e => (hr p e.symm).2.1 rfl)).trans h.pt, (hg.block g (Array.getElem?_eq_some_iff.1 h.gr).1 (fun e => (hr g e.symm).2.2 rfl)).trans h.gr⟩
end
def Fills : Prop := ∀ (b : Nat) (d s a : Int) (W : World), Mk b d s a none none W → Calls Tryz.prog 69 #[.pointer (some ⟨b, 0, none⟩)] W fun e w' => e = .returned (.tuple #[]) ∧ ∃ p g, Full b d s a p g w' ∧ W.grownBy w' (some b)
set_option maxRecDepth 100000 in
set_option maxHeartbeats 1600000 in
theorem slow_any (hF : Fills) (b : Nat) (a : Int) (w : World) (h : Mk b 0 0 a none none w) :
    Calls Tryz.prog 110 #[.pointer (some ⟨b, 0, none⟩), .func (.func 69) #[.pointer (some ⟨b, 0, none⟩)] #[]] w fun e w' => e = .returned (.tuple #[]) ∧ ∃ p g, Full b 1 0 a p g w' ∧ w.grownBy w' (some b) := by
  have c1 := h.c1
  have f1 := h.fz 1
  have h1 := h.s1 1
  have k1 := h1.c0
  have hnot := not_run
  go_enter_defers Tryz.func110, Tryz.ntmps110
  go_wp2_with (first
    | (go_at_call 128; refine (lock_free ⟨b, 1, none⟩ _ c1 f1).mono ?_; rintro e w' ⟨rfl, rfl⟩)
    | (go_at_call 109; refine (load_any ⟨b, 0, none⟩ 0 _ k1).mono ?_; rintro e w' ⟨rfl, rfl⟩)
    | (go_at_call 69; refine (hF b 0 1 a _ h1).mono ?_; rintro e w' ⟨rfl, p, g, hf, hg⟩))
  refine leaves_cons (f := 130) (args := #[.pointer (some ⟨b, 0, none⟩), .bool true]) (by simp) (by simp [go_sem]) ?_
  refine (store_deferred ⟨b, 0, none⟩ (.int .u32 0) .returning _ hf.ck.c0 (hf.ck.fz 0)).mono ?_
  rintro e u' w'' ⟨rfl, rfl, rfl⟩
  have hf1 := hf.drew.s0 1
  refine leaves_cons (f := 129) (args := #[.pointer (some ⟨b, 1, none⟩)]) (by simp [settle]) (by simp [go_sem]) ?_
  refine (unlock_deferred ⟨b, 1, none⟩ _ _ hf1.ck.c1 (hf1.ck.fz 1)).mono ?_
  rintro e u' w'' ⟨rfl, rfl, rfl⟩
  have hg2 : w.grownBy (((w'.drew).setCell ⟨b, 0, none⟩ (.int .u32 1)).setCell ⟨b, 1, none⟩ (.int .i32 0)) (some b) := ((((grown_setCell w b 1 _).trans hg).trans (grown_drew _ _)).trans (grown_setCell _ b 0 _)).trans (grown_setCell _ b 1 _)
  simp [Leaves, settle, results, Tryz.results110]
  exact ⟨⟨p, g, hf1.s1 0⟩, hg2⟩
set_option maxRecDepth 100000 in
set_option maxHeartbeats 1600000 in
theorem do_first (hF : Fills) (b : Nat) (a : Int) (w : World) (h : Mk b 0 0 a none none w) :
    Calls Tryz.prog 68 #[.pointer (some ⟨b, 0, none⟩), .func (.func 69) #[.pointer (some ⟨b, 0, none⟩)] #[]] w fun e w' => e = .returned (.tuple #[]) ∧ ∃ p g, Full b 1 0 a p g w' ∧ w.grownBy w' (some b) := by
  have c0 := h.c0
  have hnot := not_run
  go_enter Tryz.func68, Tryz.ntmps68
  go_wp2_with (first
    | (go_at_call 109; refine (load_any ⟨b, 0, none⟩ 0 _ c0).mono ?_; rintro e w' ⟨rfl, rfl⟩)
    | (go_at_call 110; refine (slow_any hF b a _ h).mono ?_; rintro e w' ⟨rfl, p, g, hf, hg⟩))
  go_end0
  exact ⟨rfl, p, g, hf, hg⟩
theorem do_done (b : Nat) (a : Int) (p g : Option Nat) (fv : Value) (w : World) (h : Mk b 1 0 a p g w) :
    Calls Tryz.prog 68 #[.pointer (some ⟨b, 0, none⟩), fv] w fun e w' => e = .returned (.tuple #[]) ∧ w' = w := by
  have c0 := h.c0
  have hnot := not_run
  go_enter Tryz.func68, Tryz.ntmps68
  go_wp2_with (go_at_call 109; refine (load_any ⟨b, 0, none⟩ 1 _ c0).mono ?_; rintro e w' ⟨rfl, rfl⟩)
  go_end0
  exact ⟨rfl, rfl⟩
theorem add_any (b : Nat) (d s a : Int) (p g : Option Nat) (ha : 0 ≤ a) (ha9 : a ≤ 1000) (w : World) (h : Mk b d s a p g w) :
    Calls Tryz.prog 70 #[.pointer (some ⟨b, 3, none⟩), .int .i64 1] w fun e w' => e = .returned (.int .i64 (a + 1)) ∧ w' = w.setCell ⟨b, 3, none⟩ (.int .i64 (a + 1)) := by
  have hadd := run_call_add (P := Tryz.prog) Tryz.func111 (by kernel_rfl) (by kernel_rfl) (by kernel_rfl) .i64 (by kernel_rfl) (y := 1) (s := a + 1) h.c3 (h.fz 3) (by simp only [Op.intArith, IntKind.wrap_i64]; rw [show (a + 1 + 9223372036854775808) % 18446744073709551616 - 9223372036854775808 = a + 1 by omega]; rfl)
  go_enter Tryz.func70, Tryz.ntmps70
  go_wp2
  go_ret
  exact ⟨rfl, rfl⟩
end Go.Proofs.YtgjboghnnhcgiaaGreatDoor.M
namespace Go.Proofs.YtgjboghnnhcgiaaGreatDoor.M
open Go.RowKit
set_option linter.unusedVariables false
set_option linter.unusedSimpArgs false
def oM (l : List (ByteArray × ByteArray)) (k v : ByteArray) (e s : Bool) : Obj := if s = true then obj (l ++ [(k, v)]) else if e = true then half l k else obj l
def rowL : Array Value := #[.string ⟨#[100, 101, 44, 46]⟩, .string ⟨#[110, 108, 44, 46]⟩, .string ⟨#[101, 115, 44, 46]⟩, .string ⟨#[102, 114, 44, 226, 128, 175]⟩, .string ⟨#[114, 117, 44, 194, 160]⟩, .string ⟨#[99, 115, 44, 194, 160]⟩, .string ⟨#[112, 108, 44, 194, 160]⟩, .string ⟨#[115, 118, 44, 194, 160]⟩]
structure St (w0 : World) (b : Nat) (d s a : Int) (p g q : Nat) (lp lg : List (ByteArray × ByteArray)) (k x y : ByteArray) (e1 s1 e2 s2 : Bool) (W : World) : Prop where
  ck : Mk b d s a (some p) (some g) W
  pt : W.heap[p]? = some (oM lp k x e1 s1)
  gr : W.heap[g]? = some (oM lg k y e2 s2)
  rw : W.heap[q]? = some (.cells rowL 9 (0, 0))
  gw : w0.grownBy W (some b)
  np : w0.heap.size ≤ p
  ng : w0.heap.size ≤ g
  pg : p ≠ g
section
variable {w0 : World} {b : Nat} {d s a : Int} {p g q : Nat} {lp lg : List (ByteArray × ByteArray)} {k x y : ByteArray} {e1 s1 e2 s2 : Bool} {W : World}
theorem oM_map (l : List (ByteArray × ByteArray)) (k v : ByteArray) (e s : Bool) : ∃ es c, oM l k v e s = .map es c := by
  unfold oM; split
  · exact ⟨_, _, rfl⟩
  · split <;> exact ⟨_, _, rfl⟩
theorem St.pb (h : St w0 b d s a p g q lp lg k x y e1 s1 e2 s2 W) : p ≠ b := fun e => by
  have h1 := h.pt; obtain ⟨es, c, h2⟩ := oM_map lp k x e1 s1; rw [e, h.ck.blk, h2] at h1; cases h1
theorem St.gb (h : St w0 b d s a p g q lp lg k x y e1 s1 e2 s2 W) : g ≠ b := fun e => by
  have h1 := h.gr; obtain ⟨es, c, h2⟩ := oM_map lg k y e2 s2; rw [e, h.ck.blk, h2] at h1; cases h1
theorem St.pq (h : St w0 b d s a p g q lp lg k x y e1 s1 e2 s2 W) : q ≠ p := fun e => by
  have h1 := h.pt; obtain ⟨es, c, h2⟩ := oM_map lp k x e1 s1; rw [← e, h.rw, h2] at h1; cases h1
theorem St.gq (h : St w0 b d s a p g q lp lg k x y e1 s1 e2 s2 W) : q ≠ g := fun e => by
  have h1 := h.gr; obtain ⟨es, c, h2⟩ := oM_map lg k y e2 s2; rw [← e, h.rw, h2] at h1; cases h1
theorem St.drew (h : St w0 b d s a p g q lp lg k x y e1 s1 e2 s2 W) : St w0 b d s a p g q lp lg k x y e1 s1 e2 s2 W.drew := ⟨h.ck.drew, h.pt, h.gr, h.rw, h.gw.trans (grown_drew _ _), h.np, h.ng, h.pg⟩
theorem St.toP (h : St w0 b d s a p g q lp lg k x y e1 s1 e2 s2 W) {e1' s1' : Bool} {o : Obj} (ho : o = oM lp k x e1' s1') : St w0 b d s a p g q lp lg k x y e1' s1' e2 s2 (setObj W p o) :=
  ⟨⟨(setObj_far o (Ne.symm h.pb)).trans h.ck.blk⟩, (setObj_same h.pt o).trans (by rw [ho]), (setObj_far o (Ne.symm h.pg)).trans h.gr, (setObj_far o h.pq).trans h.rw, h.gw.andThen (setObj_grown W p o) (fun j hj => by cases hj; exact .inl h.np), h.np, h.ng, h.pg⟩
theorem St.toG (h : St w0 b d s a p g q lp lg k x y e1 s1 e2 s2 W) {e2' s2' : Bool} {o : Obj} (ho : o = oM lg k y e2' s2') : St w0 b d s a p g q lp lg k x y e1 s1 e2' s2' (setObj W g o) :=
  ⟨⟨(setObj_far o (Ne.symm h.gb)).trans h.ck.blk⟩, (setObj_far o h.pg).trans h.pt, (setObj_same h.gr o).trans (by rw [ho]), (setObj_far o h.gq).trans h.rw, h.gw.andThen (setObj_grown W g o) (fun j hj => by cases hj; exact .inl h.ng), h.np, h.ng, h.pg⟩
theorem St.get (h : St w0 b d s a p g q lp lg k x y e1 s1 e2 s2 W) : W.cell? ⟨b, 4, none⟩ = some (.map (some p)) ∧ W.cell? ⟨b, 5, none⟩ = some (.map (some g)) := ⟨h.ck.c4, h.ck.c5⟩
end
theorem zstr (u : World) : (zeroValue 9).run Tryz.prog u = .ok (.string ⟨#[]⟩) u := by kernel_rfl
section
variable {a : Operand → Value} {o : Oper} {W W1 : World} {r : Nat} {m x y : Operand} {k v : ByteArray} {l : List (ByteArray × ByteArray)}
theorem exec_entry (ho : o.op = .mapEntry 60 m x) (hm : a m = .map (some r)) (hx : a x = .string k) (hb : W.heap[r]? = some (obj l)) (hn : look l k = none) :
    (execOp a o).run Tryz.prog W = .ok (.value (.tuple #[.string ⟨#[]⟩, .int .i64 l.length])) (setObj W r (half l k)) := by
  unfold execOp
  simp only [ho, hm, hx, Sem.run_bind, run_entry Tryz.underlying60 Tryz.underlying9 zstr hb hn, Result.andThen_ok, Sem.run_pure, goInt]
theorem exec_put (ho : o.op = .entryStore 60 m x y) (hm : a m = .map (some r)) (hx : a x = .int .i64 l.length) (hy : a y = .string v) (hb : W.heap[r]? = some (half l k)) :
    (execOp a o).run Tryz.prog W = .ok .skip (setObj W r (obj (l ++ [(k, v)]))) := by
  have h := run_put (P := Tryz.prog) (t := 60) hb v
  unfold goInt at h
  unfold execOp
  simp only [ho, hm, hx, hy, Sem.run_bind, h, Result.andThen_ok, Sem.run_pure]
end
section
variable {a : Act} {o : Oper} {W : World} {x : Operand} {s : ByteArray}
theorem exec_to (h : Nat) (ho : o.op = .slice 9 x none (some (.const (.int .i64 h))) none) (hx : a.eval x = .string s) (hs : h ≤ s.size) : (execOp a.eval o).run Tryz.prog W = .ok (.value (.string (s.extract 0 h))) W := by
  have hr := run_slice_string_h (P := Tryz.prog) W 9 s Tryz.underlying9 .i64 h (by omega) (by omega)
  unfold execOp
  simp only [ho, Option.map_none, Option.map_some, hx, show a.eval (.const (.int .i64 h)) = .int .i64 h from rfl, run_sliceAt_string (P := Tryz.prog) (h := Tryz.underlying9), Sem.run_bind, hr, Result.andThen_ok, Sem.run_pure, Int.toNat_natCast]
theorem exec_from (l : Nat) (ho : o.op = .slice 9 x (some (.const (.int .i64 l))) none none) (hx : a.eval x = .string s) (hs : l ≤ s.size) : (execOp a.eval o).run Tryz.prog W = .ok (.value (.string (s.extract l s.size))) W := by
  have hr := run_slice_string_l (P := Tryz.prog) W 9 s Tryz.underlying9 .i64 l (by omega) (by omega)
  unfold execOp
  simp only [ho, Option.map_none, Option.map_some, hx, show a.eval (.const (.int .i64 l)) = .int .i64 l from rfl, run_sliceAt_string (P := Tryz.prog) (h := Tryz.underlying9), Sem.run_bind, hr, Result.andThen_ok, Sem.run_pure, Int.toNat_natCast]
theorem exec_part (l h : Nat) (ho : o.op = .slice 9 x (some (.const (.int .i64 l))) (some (.const (.int .i64 h))) none) (hx : a.eval x = .string s) (hl : l ≤ h) (hs : h ≤ s.size) : (execOp a.eval o).run Tryz.prog W = .ok (.value (.string (s.extract l h))) W := by
  have hr : (Instr.slice 9 (.string s) (some (.int .i64 l)) (some (.int .i64 h)) none).run Tryz.prog W = .ok (.string (s.extract (l : Int).toNat (h : Int).toNat)) W := by rw [run_slice_string (h := Tryz.underlying9)] <;> omega
  unfold execOp
  simp only [ho, Option.map_none, Option.map_some, hx, show a.eval (.const (.int .i64 l)) = .int .i64 l from rfl, show a.eval (.const (.int .i64 h)) = .int .i64 h from rfl, run_sliceAt_string (P := Tryz.prog) (h := Tryz.underlying9), Sem.run_bind, hr, Result.andThen_ok, Sem.run_pure, Int.toNat_natCast]
end
end Go.Proofs.YtgjboghnnhcgiaaGreatDoor.M
