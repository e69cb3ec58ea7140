/- What the rows of layer 02 share: the arguments read again behind the call; a world for the witness; what the rows' worlds give. -/
import Derived.Test.YtonjkoeacedaiaaDoorCards
import Derived.Test.YtonjkoeacedaiaaDoorTie
import Derived.Test.YtonjkoeacedaiaaDoorDgiven
import Derived.WalkKit
import Derived.ProofKit
import Derived.OpenShut
import Derived.ShutString
import Derived.Deep.DeepHandedRow
import Derived.Lib.LaidU8
import Derived.Lib.LaidU8T
import Derived.LaidOnce
import Derived.LaidMore
import Derived.Deep.DeepWitnessRowRef
import Derived.Deep.DeepLaidRun
namespace Go.Proofs.YtonjkoeacedaiaaDoor.E
open Go.ChangeShapes Go.WideShapes Go.ChangeAt Go.RowKit
set_option linter.unusedVariables false

theorem own : ownKnob Tryd.prog.godebug = none := by kernel_rfl
theorem laidOut : laidOutB Tryd.prog = true := by kernel_rfl

/-- All arguments read behind the call as before it: below the heap's old size nothing has turned. -/
theorem args_below {P : Program} (hl : laidOutB P = true) {H : Type} {enc : TypeId × Value → H} {W W' : World} (hb : Below W.heap.size W W') : ∀ (ts : List TypeId) (vs : List Value) (ds : List (DataW H)) (ps : List MemPlace),
    (∀ t ∈ ts, P.readableRec t = true ∧ t < P.types.size) → DataW.TrodAll enc P W 0 (fun _ => true) true ts vs ds ps → (∀ x ∈ ps, x.block < W.heap.size) →
    DataW.TrodAll enc P W' 0 (fun b => decide (b < W.heap.size)) true ts vs ds ps
  | [], [], [], ps, _, h, _ => h
  | t :: ts, v :: vs, d :: ds, ps, hr, h, hlt => by
    obtain ⟨p, q, h0, h1, rfl⟩ := h
    exact ⟨p, q, Below.trod hl (hr t (.head _)).1 (hr t (.head _)).2 h0 hb (fun x hx => hlt x (List.mem_append.2 (Or.inl hx))), args_below hl hb ts vs ds q (fun t ht => hr t (.tail _ ht)) h1 (fun x hx => hlt x (List.mem_append.2 (Or.inr hx))), rfl⟩
  | [], _ :: _, _, _, _, h, _ => h.elim
  | _ :: _, [], _, _, _, h, _ => h.elim
  | [], [], _ :: _, _, _, h, _ => h.elim
  | _ :: _, _ :: _, [], _, _, h, _ => h.elim

/-- A world for the witness: the settled one, the listed variables holding what their initialisers lay. -/
noncomputable def laidWorld (os : Os) : World :=
  let w0 := World.holding Tryd.prog os ⟨#[], #[], []⟩
  let put (h : Array Obj) (g : Nat) (cs : Array Value) : Array Obj := h.modify g fun
    | .cells _ t frozen => .cells cs t frozen
    | o => o
  let n := w0.heap.size
  let h1 := put w0.heap 5 (Lib.firstTab.map fun z => Value.int .u8 z).toArray
  let h2 := put h1 6 ((List.range 16).flatMap fun i => [Value.int .u8 (Lib.accLo i), Value.int .u8 (Lib.accHi i)]).toArray
  let h3 := put h2 2 #[.iface 216 (.pointer (some ⟨n, 0, none⟩))]
  let h4 := h3.push (.cells #[.string ⟨#[98, 121, 116, 101, 115, 46, 66, 117, 102, 102, 101, 114, 58, 32, 116, 111, 111, 32, 108, 97, 114, 103, 101]⟩] 230 (0, 0))
  { w0 with heap := h4 }
theorem tab_of {W : World} (h : W.ShapedOpen Tryd.prog) : G.Tab_ W := Tryd.laysM145.s1_3 W h
end Go.Proofs.YtonjkoeacedaiaaDoor.E
