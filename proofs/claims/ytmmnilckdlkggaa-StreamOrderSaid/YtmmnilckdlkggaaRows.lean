/-
  No cell of these rows narrows 'for every input' (looked for: loops, veiled, ifaces, maps, wideKeys, modest, calm, conditions, laid).
  DERIVED. THE GIVEN ROWS OF THIS SEAT. 5 by the template 'for every input the law returns true; each argument reads behind the call as it read before'; 0 by the template 'total and deterministic' (their statements: YtmmnilckdlkggaaTotals.lean).
  GIVEN WITH THE SEED: the statements are not yours to turn. If you find one false, say at which input.
  Laid BY PROGRAM, IN A SANDBOX (cutbox-rows.mjs): the forced cells as the released guide's own fill.sh prints them over the translation 20315289be7edc57… (all of the seat's roots in one cut). By AI agents, Wed Nov 11 2026. No macro, syntax, notation, axiom, sorry.
-/
import Derived.Test.YtmmnilckdlkggaaChecked
import GoSem.Claim
import GoSem.ClaimJoined
import GoSem.ClaimMapViews
import Derived.JoinedTies
import Derived.KernelRfl
namespace Go.Proofs.Ytmmnilckdlkggaa
/- THE CELL 'sum', in the pinned program and in every row, IS THE sha256 OF THE DUMP (.gsa) THAT YtmmnilckdlkggaaProg.lean LOADS. Nothing in Lean hashes anything: it is a label: what it is worth is what the hold of that sum in a sandbox is worth. -/
noncomputable def Try.pinned : Pinned := { name := "ytmmnilckdlkggaa", sum := "20315289be7edc57ae028ec5a4afa0555eaa3cc5281860d802a7c8237635d744", checked := Try.checked }
namespace Rows
def none {H : Type} : Left H := { results := [], args := [] }

/-- 'eddywheellaw18.StreamRoom': WHATEVER THE INPUT: true; the input reads as it did. -/
def streamRoomSpec : ChangeSpec := { name := "streamRoom", fn := fun _ => fun
  | [d1, d2, d3] => { results := [.lit (.bool true)], args := [d1, d2, d3] }
  | _ => none }
def streamRoomRow : OpenClaim := { program := "ytmmnilckdlkggaa", sum := "20315289be7edc57ae028ec5a4afa0555eaa3cc5281860d802a7c8237635d744", func := "eddywheel/eddywheellaw18.StreamRoom", spec := "streamRoom", apart := false }
def StreamRoomSaid : Prop := streamRoomRow.holds Try.pinned (OpenSpec.ofChange streamRoomSpec)

/-- ITS FALSE NEIGHBOUR: 'it returns false'. Refute it at one input. -/
def streamRoomWrong : ChangeSpec := { name := "streamRoom", fn := fun _ => fun
  | [d1, d2, d3] => { results := [.lit (.bool false)], args := [d1, d2, d3] }
  | _ => none }
def StreamRoomWrongFalsely : Prop := streamRoomRow.holds Try.pinned (OpenSpec.ofChange streamRoomWrong)

/-- 'eddywheellaw18.StreamFull': WHATEVER THE INPUT: true; the input reads as it did. -/
def streamFullSpec : ChangeSpec := { name := "streamFull", fn := fun _ => fun
  | [d1, d2] => { results := [.lit (.bool true)], args := [d1, d2] }
  | _ => none }
def streamFullRow : OpenClaim := { program := "ytmmnilckdlkggaa", sum := "20315289be7edc57ae028ec5a4afa0555eaa3cc5281860d802a7c8237635d744", func := "eddywheel/eddywheellaw18.StreamFull", spec := "streamFull", apart := false }
def StreamFullSaid : Prop := streamFullRow.holds Try.pinned (OpenSpec.ofChange streamFullSpec)

/-- ITS FALSE NEIGHBOUR: 'it returns false'. Refute it at one input. -/
def streamFullWrong : ChangeSpec := { name := "streamFull", fn := fun _ => fun
  | [d1, d2] => { results := [.lit (.bool false)], args := [d1, d2] }
  | _ => none }
def StreamFullWrongFalsely : Prop := streamFullRow.holds Try.pinned (OpenSpec.ofChange streamFullWrong)

/-- 'eddywheellaw18.StreamPlays': WHATEVER THE INPUT: true; the input reads as it did. -/
def streamPlaysSpec : ChangeSpec := { name := "streamPlays", fn := fun _ => fun
  | [d1, d2] => { results := [.lit (.bool true)], args := [d1, d2] }
  | _ => none }
def streamPlaysRow : OpenClaim := { program := "ytmmnilckdlkggaa", sum := "20315289be7edc57ae028ec5a4afa0555eaa3cc5281860d802a7c8237635d744", func := "eddywheel/eddywheellaw18.StreamPlays", spec := "streamPlays", apart := false }
def StreamPlaysSaid : Prop := streamPlaysRow.holds Try.pinned (OpenSpec.ofChange streamPlaysSpec)

/-- ITS FALSE NEIGHBOUR: 'it returns false'. Refute it at one input. -/
def streamPlaysWrong : ChangeSpec := { name := "streamPlays", fn := fun _ => fun
  | [d1, d2] => { results := [.lit (.bool false)], args := [d1, d2] }
  | _ => none }
def StreamPlaysWrongFalsely : Prop := streamPlaysRow.holds Try.pinned (OpenSpec.ofChange streamPlaysWrong)

/-- 'eddywheellaw18.StreamOrder': WHATEVER THE INPUT: true; the input reads as it did. -/
def streamOrderSpec : ChangeSpec := { name := "streamOrder", fn := fun _ => fun
  | [d1, d2] => { results := [.lit (.bool true)], args := [d1, d2] }
  | _ => none }
def streamOrderRow : OpenClaim := { program := "ytmmnilckdlkggaa", sum := "20315289be7edc57ae028ec5a4afa0555eaa3cc5281860d802a7c8237635d744", func := "eddywheel/eddywheellaw18.StreamOrder", spec := "streamOrder", apart := false }
def StreamOrderSaid : Prop := streamOrderRow.holds Try.pinned (OpenSpec.ofChange streamOrderSpec)

/-- ITS FALSE NEIGHBOUR: 'it returns false'. Refute it at one input. -/
def streamOrderWrong : ChangeSpec := { name := "streamOrder", fn := fun _ => fun
  | [d1, d2] => { results := [.lit (.bool false)], args := [d1, d2] }
  | _ => none }
def StreamOrderWrongFalsely : Prop := streamOrderRow.holds Try.pinned (OpenSpec.ofChange streamOrderWrong)

/-- 'eddywheellaw18.StreamWaits': WHATEVER THE INPUT: true; the input reads as it did. -/
def streamWaitsSpec : ChangeSpec := { name := "streamWaits", fn := fun _ => fun
  | [d1, d2, d3] => { results := [.lit (.bool true)], args := [d1, d2, d3] }
  | _ => none }
def streamWaitsRow : OpenClaim := { program := "ytmmnilckdlkggaa", sum := "20315289be7edc57ae028ec5a4afa0555eaa3cc5281860d802a7c8237635d744", func := "eddywheel/eddywheellaw18.StreamWaits", spec := "streamWaits", apart := false }
def StreamWaitsSaid : Prop := streamWaitsRow.holds Try.pinned (OpenSpec.ofChange streamWaitsSpec)

/-- ITS FALSE NEIGHBOUR: 'it returns false'. Refute it at one input. -/
def streamWaitsWrong : ChangeSpec := { name := "streamWaits", fn := fun _ => fun
  | [d1, d2, d3] => { results := [.lit (.bool false)], args := [d1, d2, d3] }
  | _ => none }
def StreamWaitsWrongFalsely : Prop := streamWaitsRow.holds Try.pinned (OpenSpec.ofChange streamWaitsWrong)

/- THE SECOND FORM. 'bulk': how many values and letters a reading holds, each counted each time it is reached (what is shared counts as often as it is met; a slice's spare places count too). A statement '..UptoSaid' is the law's where the arguments, and the package variables that the reading takes, are together of bulk at most 1048576: NARROWER than '..Said'. Prove '..Said' where nothing that the law and all that it calls make is longer than what came in: it says more and counts as full. Else prove '..UptoSaid'. A law counts once. -/
mutual
def uptoBulk {H : Type} : DataW H → Nat
  | .lit (.string bytes) => bytes.length + 1
  | .lit _ => 1
  | .nil => 1
  | .ptr d => uptoBulk d + 1
  | .slice elems spare => uptoBulkAll elems + uptoBulkAll spare + 1
  | .agg parts => uptoBulkAll parts + 1
  | .iface _ d => uptoBulk d + 1
  | .map entries => uptoBulkEntries entries + 1
  | .held _ => 1
def uptoBulkAll {H : Type} : List (DataW H) → Nat
  | [] => 0
  | d :: r => uptoBulk d + uptoBulkAll r
def uptoBulkEntries {H : Type} : List (Lit × DataW H) → Nat
  | [] => 0
  | x :: r => uptoBulkEntry x + uptoBulkEntries r
def uptoBulkEntry {H : Type} : Lit × DataW H → Nat
  | (.string bytes, d) => bytes.length + uptoBulk d + 1
  | (_, d) => uptoBulk d + 1
 end
def uptoSmall : (H : Type) → List (DataW H) → Bool := fun _ ds => decide (uptoBulkAll ds ≤ 1048576)
def OpenSpec.upto (s : _root_.Go.ChangeSpec) : _root_.Go.OpenSpec := { _root_.Go.OpenSpec.ofChange s with cond := some uptoSmall }

/-- 'eddywheellaw18.StreamRoom', WHERE WHAT IT READS IS OF BULK AT MOST 1048576: true; the input reads as it did. -/
def streamRoomUptoRow : OpenClaim := { program := "ytmmnilckdlkggaa", sum := "20315289be7edc57ae028ec5a4afa0555eaa3cc5281860d802a7c8237635d744", func := "eddywheel/eddywheellaw18.StreamRoom", spec := "streamRoom", apart := false, narrowed := true }
def StreamRoomUptoSaid : Prop := streamRoomUptoRow.holds Try.pinned (OpenSpec.upto streamRoomSpec)

/-- 'eddywheellaw18.StreamFull', WHERE WHAT IT READS IS OF BULK AT MOST 1048576: true; the input reads as it did. -/
def streamFullUptoRow : OpenClaim := { program := "ytmmnilckdlkggaa", sum := "20315289be7edc57ae028ec5a4afa0555eaa3cc5281860d802a7c8237635d744", func := "eddywheel/eddywheellaw18.StreamFull", spec := "streamFull", apart := false, narrowed := true }
def StreamFullUptoSaid : Prop := streamFullUptoRow.holds Try.pinned (OpenSpec.upto streamFullSpec)

/-- 'eddywheellaw18.StreamPlays', WHERE WHAT IT READS IS OF BULK AT MOST 1048576: true; the input reads as it did. -/
def streamPlaysUptoRow : OpenClaim := { program := "ytmmnilckdlkggaa", sum := "20315289be7edc57ae028ec5a4afa0555eaa3cc5281860d802a7c8237635d744", func := "eddywheel/eddywheellaw18.StreamPlays", spec := "streamPlays", apart := false, narrowed := true }
def StreamPlaysUptoSaid : Prop := streamPlaysUptoRow.holds Try.pinned (OpenSpec.upto streamPlaysSpec)

/-- 'eddywheellaw18.StreamOrder', WHERE WHAT IT READS IS OF BULK AT MOST 1048576: true; the input reads as it did. -/
def streamOrderUptoRow : OpenClaim := { program := "ytmmnilckdlkggaa", sum := "20315289be7edc57ae028ec5a4afa0555eaa3cc5281860d802a7c8237635d744", func := "eddywheel/eddywheellaw18.StreamOrder", spec := "streamOrder", apart := false, narrowed := true }
def StreamOrderUptoSaid : Prop := streamOrderUptoRow.holds Try.pinned (OpenSpec.upto streamOrderSpec)

/-- 'eddywheellaw18.StreamWaits', WHERE WHAT IT READS IS OF BULK AT MOST 1048576: true; the input reads as it did. -/
def streamWaitsUptoRow : OpenClaim := { program := "ytmmnilckdlkggaa", sum := "20315289be7edc57ae028ec5a4afa0555eaa3cc5281860d802a7c8237635d744", func := "eddywheel/eddywheellaw18.StreamWaits", spec := "streamWaits", apart := false, narrowed := true }
def StreamWaitsUptoSaid : Prop := streamWaitsUptoRow.holds Try.pinned (OpenSpec.upto streamWaitsSpec)

end Rows
end Go.Proofs.Ytmmnilckdlkggaa
