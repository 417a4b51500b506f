/-
  No cell of these rows narrows 'for every input' (looked for: loops, veiled, ifaces, maps, wideKeys, modest, calm, conditions, laid).
  DERIVED. THE GIVEN ROWS OF THIS SEAT. 8 by the template 'for every input the law returns true; each argument reads behind the call as it read before'; 0 by the template 'total and deterministic' (their statements: YtipbimbnpikbcaaTotals.lean).
  GIVEN WITH THE SEED: the statements are not yours to turn. If you find one false, say at which input.
  Laid BY PROGRAM, IN A SANDBOX (cutbox-rows.mjs): the forced cells as the released guide's own fill.sh prints them over the translation 9dbd92d40066c96c… (all of the seat's roots in one cut). By AI agents, Wed Nov 11 2026. No macro, syntax, notation, axiom, sorry.
-/
import Derived.Test.YtipbimbnpikbcaaChecked
import GoSem.Claim
import GoSem.ClaimJoined
import GoSem.ClaimMapViews
import Derived.JoinedTies
import Derived.KernelRfl
namespace Go.Proofs.Ytipbimbnpikbcaa
/- THE CELL 'sum', in the pinned program and in every row, IS THE sha256 OF THE DUMP (.gsa) THAT YtipbimbnpikbcaaProg.lean LOADS. Nothing in Lean hashes anything: it is a label: what it is worth is what the hold of that sum in a sandbox is worth. -/
noncomputable def Try.pinned : Pinned := { name := "ytipbimbnpikbcaa", sum := "9dbd92d40066c96c7a30a31fb1defad34cbe395afa4e29a4c298400f76c603e4", checked := Try.checked }
namespace Rows
def none {H : Type} : Left H := { results := [], args := [] }

/-- 'eddywheellaw19.LoopNil': WHATEVER THE INPUT: true; the input reads as it did. -/
def loopNilSpec : ChangeSpec := { name := "loopNil", fn := fun _ => fun
  | [d] => { results := [.lit (.bool true)], args := [d] }
  | _ => none }
def loopNilRow : OpenClaim := { program := "ytipbimbnpikbcaa", sum := "9dbd92d40066c96c7a30a31fb1defad34cbe395afa4e29a4c298400f76c603e4", func := "eddywheel/eddywheellaw19.LoopNil", spec := "loopNil", unfollowed := true, recurses := true, apart := false }
def LoopNilSaid : Prop := loopNilRow.holds Try.pinned (OpenSpec.ofChange loopNilSpec)

/-- ITS FALSE NEIGHBOUR: 'it returns false'. Refute it at one input. -/
def loopNilWrong : ChangeSpec := { name := "loopNil", fn := fun _ => fun
  | [d] => { results := [.lit (.bool false)], args := [d] }
  | _ => none }
def LoopNilWrongFalsely : Prop := loopNilRow.holds Try.pinned (OpenSpec.ofChange loopNilWrong)

/-- 'eddywheellaw19.LoopOrder': WHATEVER THE INPUT: true; the input reads as it did. -/
def loopOrderSpec : ChangeSpec := { name := "loopOrder", fn := fun _ => fun
  | [d1, d2] => { results := [.lit (.bool true)], args := [d1, d2] }
  | _ => none }
def loopOrderRow : OpenClaim := { program := "ytipbimbnpikbcaa", sum := "9dbd92d40066c96c7a30a31fb1defad34cbe395afa4e29a4c298400f76c603e4", func := "eddywheel/eddywheellaw19.LoopOrder", spec := "loopOrder", unfollowed := true, recurses := true, apart := false }
def LoopOrderSaid : Prop := loopOrderRow.holds Try.pinned (OpenSpec.ofChange loopOrderSpec)

/-- ITS FALSE NEIGHBOUR: 'it returns false'. Refute it at one input. -/
def loopOrderWrong : ChangeSpec := { name := "loopOrder", fn := fun _ => fun
  | [d1, d2] => { results := [.lit (.bool false)], args := [d1, d2] }
  | _ => none }
def LoopOrderWrongFalsely : Prop := loopOrderRow.holds Try.pinned (OpenSpec.ofChange loopOrderWrong)

/-- 'eddywheellaw19.LoopBounds': WHATEVER THE INPUT: true; the input reads as it did. -/
def loopBoundsSpec : ChangeSpec := { name := "loopBounds", fn := fun _ => fun
  | [d1, d2, d3, d4] => { results := [.lit (.bool true)], args := [d1, d2, d3, d4] }
  | _ => none }
def loopBoundsRow : OpenClaim := { program := "ytipbimbnpikbcaa", sum := "9dbd92d40066c96c7a30a31fb1defad34cbe395afa4e29a4c298400f76c603e4", func := "eddywheel/eddywheellaw19.LoopBounds", spec := "loopBounds", unfollowed := true, recurses := true, apart := false }
def LoopBoundsSaid : Prop := loopBoundsRow.holds Try.pinned (OpenSpec.ofChange loopBoundsSpec)

/-- ITS FALSE NEIGHBOUR: 'it returns false'. Refute it at one input. -/
def loopBoundsWrong : ChangeSpec := { name := "loopBounds", fn := fun _ => fun
  | [d1, d2, d3, d4] => { results := [.lit (.bool false)], args := [d1, d2, d3, d4] }
  | _ => none }
def LoopBoundsWrongFalsely : Prop := loopBoundsRow.holds Try.pinned (OpenSpec.ofChange loopBoundsWrong)

/-- 'eddywheellaw19.LoopTimers': WHATEVER THE INPUT: true; the input reads as it did. -/
def loopTimersSpec : ChangeSpec := { name := "loopTimers", fn := fun _ => fun
  | [d1, d2, d3] => { results := [.lit (.bool true)], args := [d1, d2, d3] }
  | _ => none }
def loopTimersRow : OpenClaim := { program := "ytipbimbnpikbcaa", sum := "9dbd92d40066c96c7a30a31fb1defad34cbe395afa4e29a4c298400f76c603e4", func := "eddywheel/eddywheellaw19.LoopTimers", spec := "loopTimers", unfollowed := true, recurses := true, apart := false }
def LoopTimersSaid : Prop := loopTimersRow.holds Try.pinned (OpenSpec.ofChange loopTimersSpec)

/-- ITS FALSE NEIGHBOUR: 'it returns false'. Refute it at one input. -/
def loopTimersWrong : ChangeSpec := { name := "loopTimers", fn := fun _ => fun
  | [d1, d2, d3] => { results := [.lit (.bool false)], args := [d1, d2, d3] }
  | _ => none }
def LoopTimersWrongFalsely : Prop := loopTimersRow.holds Try.pinned (OpenSpec.ofChange loopTimersWrong)

/-- 'eddywheellaw19.LoopReacts': WHATEVER THE INPUT: true; the input reads as it did. -/
def loopReactsSpec : ChangeSpec := { name := "loopReacts", fn := fun _ => fun
  | [d1, d2, d3, d4] => { results := [.lit (.bool true)], args := [d1, d2, d3, d4] }
  | _ => none }
def loopReactsRow : OpenClaim := { program := "ytipbimbnpikbcaa", sum := "9dbd92d40066c96c7a30a31fb1defad34cbe395afa4e29a4c298400f76c603e4", func := "eddywheel/eddywheellaw19.LoopReacts", spec := "loopReacts", unfollowed := true, recurses := true, apart := false }
def LoopReactsSaid : Prop := loopReactsRow.holds Try.pinned (OpenSpec.ofChange loopReactsSpec)

/-- ITS FALSE NEIGHBOUR: 'it returns false'. Refute it at one input. -/
def loopReactsWrong : ChangeSpec := { name := "loopReacts", fn := fun _ => fun
  | [d1, d2, d3, d4] => { results := [.lit (.bool false)], args := [d1, d2, d3, d4] }
  | _ => none }
def LoopReactsWrongFalsely : Prop := loopReactsRow.holds Try.pinned (OpenSpec.ofChange loopReactsWrong)

/-- 'eddywheellaw19.LoopStreams': WHATEVER THE INPUT: true; the input reads as it did. -/
def loopStreamsSpec : ChangeSpec := { name := "loopStreams", fn := fun _ => fun
  | [d1, d2] => { results := [.lit (.bool true)], args := [d1, d2] }
  | _ => none }
def loopStreamsRow : OpenClaim := { program := "ytipbimbnpikbcaa", sum := "9dbd92d40066c96c7a30a31fb1defad34cbe395afa4e29a4c298400f76c603e4", func := "eddywheel/eddywheellaw19.LoopStreams", spec := "loopStreams", unfollowed := true, recurses := true, apart := false }
def LoopStreamsSaid : Prop := loopStreamsRow.holds Try.pinned (OpenSpec.ofChange loopStreamsSpec)

/-- ITS FALSE NEIGHBOUR: 'it returns false'. Refute it at one input. -/
def loopStreamsWrong : ChangeSpec := { name := "loopStreams", fn := fun _ => fun
  | [d1, d2] => { results := [.lit (.bool false)], args := [d1, d2] }
  | _ => none }
def LoopStreamsWrongFalsely : Prop := loopStreamsRow.holds Try.pinned (OpenSpec.ofChange loopStreamsWrong)

/-- 'eddywheellaw19.LoopOff': WHATEVER THE INPUT: true; the input reads as it did. -/
def loopOffSpec : ChangeSpec := { name := "loopOff", fn := fun _ => fun
  | [d1, d2, d3] => { results := [.lit (.bool true)], args := [d1, d2, d3] }
  | _ => none }
def loopOffRow : OpenClaim := { program := "ytipbimbnpikbcaa", sum := "9dbd92d40066c96c7a30a31fb1defad34cbe395afa4e29a4c298400f76c603e4", func := "eddywheel/eddywheellaw19.LoopOff", spec := "loopOff", unfollowed := true, recurses := true, apart := false }
def LoopOffSaid : Prop := loopOffRow.holds Try.pinned (OpenSpec.ofChange loopOffSpec)

/-- ITS FALSE NEIGHBOUR: 'it returns false'. Refute it at one input. -/
def loopOffWrong : ChangeSpec := { name := "loopOff", fn := fun _ => fun
  | [d1, d2, d3] => { results := [.lit (.bool false)], args := [d1, d2, d3] }
  | _ => none }
def LoopOffWrongFalsely : Prop := loopOffRow.holds Try.pinned (OpenSpec.ofChange loopOffWrong)

/-- 'eddywheellaw19.LoopFull': WHATEVER THE INPUT: true; the input reads as it did. -/
def loopFullSpec : ChangeSpec := { name := "loopFull", fn := fun _ => fun
  | [d] => { results := [.lit (.bool true)], args := [d] }
  | _ => none }
def loopFullRow : OpenClaim := { program := "ytipbimbnpikbcaa", sum := "9dbd92d40066c96c7a30a31fb1defad34cbe395afa4e29a4c298400f76c603e4", func := "eddywheel/eddywheellaw19.LoopFull", spec := "loopFull", unfollowed := true, recurses := true, apart := false }
def LoopFullSaid : Prop := loopFullRow.holds Try.pinned (OpenSpec.ofChange loopFullSpec)

/-- ITS FALSE NEIGHBOUR: 'it returns false'. Refute it at one input. -/
def loopFullWrong : ChangeSpec := { name := "loopFull", fn := fun _ => fun
  | [d] => { results := [.lit (.bool false)], args := [d] }
  | _ => none }
def LoopFullWrongFalsely : Prop := loopFullRow.holds Try.pinned (OpenSpec.ofChange loopFullWrong)

/- THE SECOND FORM. 'bulk': how many values and letters a reading holds, each counted each time it is reached (what is shared counts as often as it is met; a slice's spare places count too). A statement '..UptoSaid' is the law's where the arguments, and the package variables that the reading takes, are together of bulk at most 1048576: NARROWER than '..Said'. Prove '..Said' where nothing that the law and all that it calls make is longer than what came in: it says more and counts as full. Else prove '..UptoSaid'. A law counts once. -/
mutual
def uptoBulk {H : Type} : DataW H → Nat
  | .lit (.string bytes) => bytes.length + 1
  | .lit _ => 1
  | .nil => 1
  | .ptr d => uptoBulk d + 1
  | .slice elems spare => uptoBulkAll elems + uptoBulkAll spare + 1
  | .agg parts => uptoBulkAll parts + 1
  | .iface _ d => uptoBulk d + 1
  | .map entries => uptoBulkEntries entries + 1
  | .held _ => 1
def uptoBulkAll {H : Type} : List (DataW H) → Nat
  | [] => 0
  | d :: r => uptoBulk d + uptoBulkAll r
def uptoBulkEntries {H : Type} : List (Lit × DataW H) → Nat
  | [] => 0
  | x :: r => uptoBulkEntry x + uptoBulkEntries r
def uptoBulkEntry {H : Type} : Lit × DataW H → Nat
  | (.string bytes, d) => bytes.length + uptoBulk d + 1
  | (_, d) => uptoBulk d + 1
 end
def uptoSmall : (H : Type) → List (DataW H) → Bool := fun _ ds => decide (uptoBulkAll ds ≤ 1048576)
def OpenSpec.upto (s : _root_.Go.ChangeSpec) : _root_.Go.OpenSpec := { _root_.Go.OpenSpec.ofChange s with cond := some uptoSmall }

/-- 'eddywheellaw19.LoopNil', WHERE WHAT IT READS IS OF BULK AT MOST 1048576: true; the input reads as it did. -/
def loopNilUptoRow : OpenClaim := { program := "ytipbimbnpikbcaa", sum := "9dbd92d40066c96c7a30a31fb1defad34cbe395afa4e29a4c298400f76c603e4", func := "eddywheel/eddywheellaw19.LoopNil", spec := "loopNil", unfollowed := true, recurses := true, apart := false, narrowed := true }
def LoopNilUptoSaid : Prop := loopNilUptoRow.holds Try.pinned (OpenSpec.upto loopNilSpec)

/-- 'eddywheellaw19.LoopOrder', WHERE WHAT IT READS IS OF BULK AT MOST 1048576: true; the input reads as it did. -/
def loopOrderUptoRow : OpenClaim := { program := "ytipbimbnpikbcaa", sum := "9dbd92d40066c96c7a30a31fb1defad34cbe395afa4e29a4c298400f76c603e4", func := "eddywheel/eddywheellaw19.LoopOrder", spec := "loopOrder", unfollowed := true, recurses := true, apart := false, narrowed := true }
def LoopOrderUptoSaid : Prop := loopOrderUptoRow.holds Try.pinned (OpenSpec.upto loopOrderSpec)

/-- 'eddywheellaw19.LoopBounds', WHERE WHAT IT READS IS OF BULK AT MOST 1048576: true; the input reads as it did. -/
def loopBoundsUptoRow : OpenClaim := { program := "ytipbimbnpikbcaa", sum := "9dbd92d40066c96c7a30a31fb1defad34cbe395afa4e29a4c298400f76c603e4", func := "eddywheel/eddywheellaw19.LoopBounds", spec := "loopBounds", unfollowed := true, recurses := true, apart := false, narrowed := true }
def LoopBoundsUptoSaid : Prop := loopBoundsUptoRow.holds Try.pinned (OpenSpec.upto loopBoundsSpec)

/-- 'eddywheellaw19.LoopTimers', WHERE WHAT IT READS IS OF BULK AT MOST 1048576: true; the input reads as it did. -/
def loopTimersUptoRow : OpenClaim := { program := "ytipbimbnpikbcaa", sum := "9dbd92d40066c96c7a30a31fb1defad34cbe395afa4e29a4c298400f76c603e4", func := "eddywheel/eddywheellaw19.LoopTimers", spec := "loopTimers", unfollowed := true, recurses := true, apart := false, narrowed := true }
def LoopTimersUptoSaid : Prop := loopTimersUptoRow.holds Try.pinned (OpenSpec.upto loopTimersSpec)

/-- 'eddywheellaw19.LoopReacts', WHERE WHAT IT READS IS OF BULK AT MOST 1048576: true; the input reads as it did. -/
def loopReactsUptoRow : OpenClaim := { program := "ytipbimbnpikbcaa", sum := "9dbd92d40066c96c7a30a31fb1defad34cbe395afa4e29a4c298400f76c603e4", func := "eddywheel/eddywheellaw19.LoopReacts", spec := "loopReacts", unfollowed := true, recurses := true, apart := false, narrowed := true }
def LoopReactsUptoSaid : Prop := loopReactsUptoRow.holds Try.pinned (OpenSpec.upto loopReactsSpec)

/-- 'eddywheellaw19.LoopStreams', WHERE WHAT IT READS IS OF BULK AT MOST 1048576: true; the input reads as it did. -/
def loopStreamsUptoRow : OpenClaim := { program := "ytipbimbnpikbcaa", sum := "9dbd92d40066c96c7a30a31fb1defad34cbe395afa4e29a4c298400f76c603e4", func := "eddywheel/eddywheellaw19.LoopStreams", spec := "loopStreams", unfollowed := true, recurses := true, apart := false, narrowed := true }
def LoopStreamsUptoSaid : Prop := loopStreamsUptoRow.holds Try.pinned (OpenSpec.upto loopStreamsSpec)

/-- 'eddywheellaw19.LoopOff', WHERE WHAT IT READS IS OF BULK AT MOST 1048576: true; the input reads as it did. -/
def loopOffUptoRow : OpenClaim := { program := "ytipbimbnpikbcaa", sum := "9dbd92d40066c96c7a30a31fb1defad34cbe395afa4e29a4c298400f76c603e4", func := "eddywheel/eddywheellaw19.LoopOff", spec := "loopOff", unfollowed := true, recurses := true, apart := false, narrowed := true }
def LoopOffUptoSaid : Prop := loopOffUptoRow.holds Try.pinned (OpenSpec.upto loopOffSpec)

/-- 'eddywheellaw19.LoopFull', WHERE WHAT IT READS IS OF BULK AT MOST 1048576: true; the input reads as it did. -/
def loopFullUptoRow : OpenClaim := { program := "ytipbimbnpikbcaa", sum := "9dbd92d40066c96c7a30a31fb1defad34cbe395afa4e29a4c298400f76c603e4", func := "eddywheel/eddywheellaw19.LoopFull", spec := "loopFull", unfollowed := true, recurses := true, apart := false, narrowed := true }
def LoopFullUptoSaid : Prop := loopFullUptoRow.holds Try.pinned (OpenSpec.upto loopFullSpec)

end Rows
end Go.Proofs.Ytipbimbnpikbcaa
