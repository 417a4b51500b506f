/-
  No cell of these rows narrows 'for every input' (looked for: loops, veiled, ifaces, maps, wideKeys, modest, calm, conditions, laid).
  DERIVED. THE GIVEN ROWS OF THIS SEAT. 5 by the template 'for every input the law returns true; each argument reads behind the call as it read before'; 0 by the template 'total and deterministic' (their statements: YtcfnnpdackklhaaTotals.lean).
  GIVEN WITH THE SEED: the statements are not yours to turn. If you find one false, say at which input.
  Laid BY PROGRAM, IN A SANDBOX (cutbox-rows.mjs): the forced cells as the released guide's own fill.sh prints them over the translation 75a1d069776d59db… (all of the seat's roots in one cut). By AI agents, Wed Nov 11 2026. No macro, syntax, notation, axiom, sorry.
-/
import Derived.Test.YtcfnnpdackklhaaChecked
import GoSem.Claim
import GoSem.ClaimJoined
import GoSem.ClaimMapViews
import Derived.JoinedTies
import Derived.KernelRfl
namespace Go.Proofs.Ytcfnnpdackklhaa
/- THE CELL 'sum', in the pinned program and in every row, IS THE sha256 OF THE DUMP (.gsa) THAT YtcfnnpdackklhaaProg.lean LOADS. Nothing in Lean hashes anything: it is a label: what it is worth is what the hold of that sum in a sandbox is worth. -/
noncomputable def Try.pinned : Pinned := { name := "ytcfnnpdackklhaa", sum := "75a1d069776d59db910af2376d4412af36ca1c5c8dd57d4bc734ed30f7e72599", checked := Try.checked }
namespace Rows
def none {H : Type} : Left H := { results := [], args := [] }

/-- 'eddywheellaw15.RingPlays': WHATEVER THE INPUT: true; the input reads as it did. -/
def ringPlaysSpec : ChangeSpec := { name := "ringPlays", fn := fun _ => fun
  | [d1, d2] => { results := [.lit (.bool true)], args := [d1, d2] }
  | _ => none }
def ringPlaysRow : OpenClaim := { program := "ytcfnnpdackklhaa", sum := "75a1d069776d59db910af2376d4412af36ca1c5c8dd57d4bc734ed30f7e72599", func := "eddywheel/eddywheellaw15.RingPlays", spec := "ringPlays", apart := false }
def RingPlaysSaid : Prop := ringPlaysRow.holds Try.pinned (OpenSpec.ofChange ringPlaysSpec)

/-- ITS FALSE NEIGHBOUR: 'it returns false'. Refute it at one input. -/
def ringPlaysWrong : ChangeSpec := { name := "ringPlays", fn := fun _ => fun
  | [d1, d2] => { results := [.lit (.bool false)], args := [d1, d2] }
  | _ => none }
def RingPlaysWrongFalsely : Prop := ringPlaysRow.holds Try.pinned (OpenSpec.ofChange ringPlaysWrong)

/-- 'eddywheellaw15.RingOrder': WHATEVER THE INPUT: true; the input reads as it did. -/
def ringOrderSpec : ChangeSpec := { name := "ringOrder", fn := fun _ => fun
  | [d1, d2] => { results := [.lit (.bool true)], args := [d1, d2] }
  | _ => none }
def ringOrderRow : OpenClaim := { program := "ytcfnnpdackklhaa", sum := "75a1d069776d59db910af2376d4412af36ca1c5c8dd57d4bc734ed30f7e72599", func := "eddywheel/eddywheellaw15.RingOrder", spec := "ringOrder", apart := false }
def RingOrderSaid : Prop := ringOrderRow.holds Try.pinned (OpenSpec.ofChange ringOrderSpec)

/-- ITS FALSE NEIGHBOUR: 'it returns false'. Refute it at one input. -/
def ringOrderWrong : ChangeSpec := { name := "ringOrder", fn := fun _ => fun
  | [d1, d2] => { results := [.lit (.bool false)], args := [d1, d2] }
  | _ => none }
def RingOrderWrongFalsely : Prop := ringOrderRow.holds Try.pinned (OpenSpec.ofChange ringOrderWrong)

/-- 'eddywheellaw15.RingAt': WHATEVER THE INPUT: true; the input reads as it did. -/
def ringAtSpec : ChangeSpec := { name := "ringAt", fn := fun _ => fun
  | [d1, d2] => { results := [.lit (.bool true)], args := [d1, d2] }
  | _ => none }
def ringAtRow : OpenClaim := { program := "ytcfnnpdackklhaa", sum := "75a1d069776d59db910af2376d4412af36ca1c5c8dd57d4bc734ed30f7e72599", func := "eddywheel/eddywheellaw15.RingAt", spec := "ringAt", apart := false }
def RingAtSaid : Prop := ringAtRow.holds Try.pinned (OpenSpec.ofChange ringAtSpec)

/-- ITS FALSE NEIGHBOUR: 'it returns false'. Refute it at one input. -/
def ringAtWrong : ChangeSpec := { name := "ringAt", fn := fun _ => fun
  | [d1, d2] => { results := [.lit (.bool false)], args := [d1, d2] }
  | _ => none }
def RingAtWrongFalsely : Prop := ringAtRow.holds Try.pinned (OpenSpec.ofChange ringAtWrong)

/-- 'eddywheellaw15.RingSame': WHATEVER THE INPUT: true; the input reads as it did. -/
def ringSameSpec : ChangeSpec := { name := "ringSame", fn := fun _ => fun
  | [d1, d2, d3] => { results := [.lit (.bool true)], args := [d1, d2, d3] }
  | _ => none }
def ringSameRow : OpenClaim := { program := "ytcfnnpdackklhaa", sum := "75a1d069776d59db910af2376d4412af36ca1c5c8dd57d4bc734ed30f7e72599", func := "eddywheel/eddywheellaw15.RingSame", spec := "ringSame", apart := false }
def RingSameSaid : Prop := ringSameRow.holds Try.pinned (OpenSpec.ofChange ringSameSpec)

/-- ITS FALSE NEIGHBOUR: 'it returns false'. Refute it at one input. -/
def ringSameWrong : ChangeSpec := { name := "ringSame", fn := fun _ => fun
  | [d1, d2, d3] => { results := [.lit (.bool false)], args := [d1, d2, d3] }
  | _ => none }
def RingSameWrongFalsely : Prop := ringSameRow.holds Try.pinned (OpenSpec.ofChange ringSameWrong)

/-- 'eddywheellaw15.RingFull': WHATEVER THE INPUT: true; the input reads as it did. -/
def ringFullSpec : ChangeSpec := { name := "ringFull", fn := fun _ => fun
  | [d1, d2] => { results := [.lit (.bool true)], args := [d1, d2] }
  | _ => none }
def ringFullRow : OpenClaim := { program := "ytcfnnpdackklhaa", sum := "75a1d069776d59db910af2376d4412af36ca1c5c8dd57d4bc734ed30f7e72599", func := "eddywheel/eddywheellaw15.RingFull", spec := "ringFull", apart := false }
def RingFullSaid : Prop := ringFullRow.holds Try.pinned (OpenSpec.ofChange ringFullSpec)

/-- ITS FALSE NEIGHBOUR: 'it returns false'. Refute it at one input. -/
def ringFullWrong : ChangeSpec := { name := "ringFull", fn := fun _ => fun
  | [d1, d2] => { results := [.lit (.bool false)], args := [d1, d2] }
  | _ => none }
def RingFullWrongFalsely : Prop := ringFullRow.holds Try.pinned (OpenSpec.ofChange ringFullWrong)

/- THE SECOND FORM. 'bulk': how many values and letters a reading holds, each counted each time it is reached (what is shared counts as often as it is met; a slice's spare places count too). A statement '..UptoSaid' is the law's where the arguments, and the package variables that the reading takes, are together of bulk at most 1048576: NARROWER than '..Said'. Prove '..Said' where nothing that the law and all that it calls make is longer than what came in: it says more and counts as full. Else prove '..UptoSaid'. A law counts once. -/
mutual
def uptoBulk {H : Type} : DataW H → Nat
  | .lit (.string bytes) => bytes.length + 1
  | .lit _ => 1
  | .nil => 1
  | .ptr d => uptoBulk d + 1
  | .slice elems spare => uptoBulkAll elems + uptoBulkAll spare + 1
  | .agg parts => uptoBulkAll parts + 1
  | .iface _ d => uptoBulk d + 1
  | .map entries => uptoBulkEntries entries + 1
  | .held _ => 1
def uptoBulkAll {H : Type} : List (DataW H) → Nat
  | [] => 0
  | d :: r => uptoBulk d + uptoBulkAll r
def uptoBulkEntries {H : Type} : List (Lit × DataW H) → Nat
  | [] => 0
  | x :: r => uptoBulkEntry x + uptoBulkEntries r
def uptoBulkEntry {H : Type} : Lit × DataW H → Nat
  | (.string bytes, d) => bytes.length + uptoBulk d + 1
  | (_, d) => uptoBulk d + 1
 end
def uptoSmall : (H : Type) → List (DataW H) → Bool := fun _ ds => decide (uptoBulkAll ds ≤ 1048576)
def OpenSpec.upto (s : _root_.Go.ChangeSpec) : _root_.Go.OpenSpec := { _root_.Go.OpenSpec.ofChange s with cond := some uptoSmall }

/-- 'eddywheellaw15.RingPlays', WHERE WHAT IT READS IS OF BULK AT MOST 1048576: true; the input reads as it did. -/
def ringPlaysUptoRow : OpenClaim := { program := "ytcfnnpdackklhaa", sum := "75a1d069776d59db910af2376d4412af36ca1c5c8dd57d4bc734ed30f7e72599", func := "eddywheel/eddywheellaw15.RingPlays", spec := "ringPlays", apart := false, narrowed := true }
def RingPlaysUptoSaid : Prop := ringPlaysUptoRow.holds Try.pinned (OpenSpec.upto ringPlaysSpec)

/-- 'eddywheellaw15.RingOrder', WHERE WHAT IT READS IS OF BULK AT MOST 1048576: true; the input reads as it did. -/
def ringOrderUptoRow : OpenClaim := { program := "ytcfnnpdackklhaa", sum := "75a1d069776d59db910af2376d4412af36ca1c5c8dd57d4bc734ed30f7e72599", func := "eddywheel/eddywheellaw15.RingOrder", spec := "ringOrder", apart := false, narrowed := true }
def RingOrderUptoSaid : Prop := ringOrderUptoRow.holds Try.pinned (OpenSpec.upto ringOrderSpec)

/-- 'eddywheellaw15.RingAt', WHERE WHAT IT READS IS OF BULK AT MOST 1048576: true; the input reads as it did. -/
def ringAtUptoRow : OpenClaim := { program := "ytcfnnpdackklhaa", sum := "75a1d069776d59db910af2376d4412af36ca1c5c8dd57d4bc734ed30f7e72599", func := "eddywheel/eddywheellaw15.RingAt", spec := "ringAt", apart := false, narrowed := true }
def RingAtUptoSaid : Prop := ringAtUptoRow.holds Try.pinned (OpenSpec.upto ringAtSpec)

/-- 'eddywheellaw15.RingSame', WHERE WHAT IT READS IS OF BULK AT MOST 1048576: true; the input reads as it did. -/
def ringSameUptoRow : OpenClaim := { program := "ytcfnnpdackklhaa", sum := "75a1d069776d59db910af2376d4412af36ca1c5c8dd57d4bc734ed30f7e72599", func := "eddywheel/eddywheellaw15.RingSame", spec := "ringSame", apart := false, narrowed := true }
def RingSameUptoSaid : Prop := ringSameUptoRow.holds Try.pinned (OpenSpec.upto ringSameSpec)

/-- 'eddywheellaw15.RingFull', WHERE WHAT IT READS IS OF BULK AT MOST 1048576: true; the input reads as it did. -/
def ringFullUptoRow : OpenClaim := { program := "ytcfnnpdackklhaa", sum := "75a1d069776d59db910af2376d4412af36ca1c5c8dd57d4bc734ed30f7e72599", func := "eddywheel/eddywheellaw15.RingFull", spec := "ringFull", apart := false, narrowed := true }
def RingFullUptoSaid : Prop := ringFullUptoRow.holds Try.pinned (OpenSpec.upto ringFullSpec)

end Rows
end Go.Proofs.Ytcfnnpdackklhaa
