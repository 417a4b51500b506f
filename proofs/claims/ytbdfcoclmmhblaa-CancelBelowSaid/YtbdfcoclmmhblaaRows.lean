/-
  No cell of these rows narrows 'for every input' (looked for: loops, veiled, ifaces, maps, wideKeys, modest, calm, conditions, laid).
  DERIVED. THE GIVEN ROWS OF THIS SEAT. 5 by the template 'for every input the law returns true; each argument reads behind the call as it read before'; 0 by the template 'total and deterministic' (their statements: YtbdfcoclmmhblaaTotals.lean).
  GIVEN WITH THE SEED: the statements are not yours to turn. If you find one false, say at which input.
  Laid BY PROGRAM, IN A SANDBOX (cutbox-rows.mjs): the forced cells as the released guide's own fill.sh prints them over the translation 1120c02411ac2d14… (all of the seat's roots in one cut). By AI agents, Wed Nov 11 2026. No macro, syntax, notation, axiom, sorry.
-/
import Derived.Test.YtbdfcoclmmhblaaChecked
import GoSem.Claim
import GoSem.ClaimJoined
import GoSem.ClaimMapViews
import Derived.JoinedTies
import Derived.KernelRfl
namespace Go.Proofs.Ytbdfcoclmmhblaa
/- THE CELL 'sum', in the pinned program and in every row, IS THE sha256 OF THE DUMP (.gsa) THAT YtbdfcoclmmhblaaProg.lean LOADS. Nothing in Lean hashes anything: it is a label: what it is worth is what the hold of that sum in a sandbox is worth. -/
noncomputable def Try.pinned : Pinned := { name := "ytbdfcoclmmhblaa", sum := "1120c02411ac2d14ae1d9b1abb101614f4393ecd3b6b141cd1ab7dadf47e805b", checked := Try.checked }
namespace Rows
def none {H : Type} : Left H := { results := [], args := [] }

/-- 'eddywheellaw17.CancelPlays': WHATEVER THE INPUT: true; the input reads as it did. -/
def cancelPlaysSpec : ChangeSpec := { name := "cancelPlays", fn := fun _ => fun
  | [d] => { results := [.lit (.bool true)], args := [d] }
  | _ => none }
def cancelPlaysRow : OpenClaim := { program := "ytbdfcoclmmhblaa", sum := "1120c02411ac2d14ae1d9b1abb101614f4393ecd3b6b141cd1ab7dadf47e805b", func := "eddywheel/eddywheellaw17.CancelPlays", spec := "cancelPlays", unfollowed := true, recurses := true, apart := false }
def CancelPlaysSaid : Prop := cancelPlaysRow.holds Try.pinned (OpenSpec.ofChange cancelPlaysSpec)

/-- ITS FALSE NEIGHBOUR: 'it returns false'. Refute it at one input. -/
def cancelPlaysWrong : ChangeSpec := { name := "cancelPlays", fn := fun _ => fun
  | [d] => { results := [.lit (.bool false)], args := [d] }
  | _ => none }
def CancelPlaysWrongFalsely : Prop := cancelPlaysRow.holds Try.pinned (OpenSpec.ofChange cancelPlaysWrong)

/-- 'eddywheellaw17.CancelBelow': WHATEVER THE INPUT: true; the input reads as it did. -/
def cancelBelowSpec : ChangeSpec := { name := "cancelBelow", fn := fun _ => fun
  | [d1, d2] => { results := [.lit (.bool true)], args := [d1, d2] }
  | _ => none }
def cancelBelowRow : OpenClaim := { program := "ytbdfcoclmmhblaa", sum := "1120c02411ac2d14ae1d9b1abb101614f4393ecd3b6b141cd1ab7dadf47e805b", func := "eddywheel/eddywheellaw17.CancelBelow", spec := "cancelBelow", unfollowed := true, recurses := true, apart := false }
def CancelBelowSaid : Prop := cancelBelowRow.holds Try.pinned (OpenSpec.ofChange cancelBelowSpec)

/-- ITS FALSE NEIGHBOUR: 'it returns false'. Refute it at one input. -/
def cancelBelowWrong : ChangeSpec := { name := "cancelBelow", fn := fun _ => fun
  | [d1, d2] => { results := [.lit (.bool false)], args := [d1, d2] }
  | _ => none }
def CancelBelowWrongFalsely : Prop := cancelBelowRow.holds Try.pinned (OpenSpec.ofChange cancelBelowWrong)

/-- 'eddywheellaw17.CancelMany': WHATEVER THE INPUT: true; the input reads as it did. -/
def cancelManySpec : ChangeSpec := { name := "cancelMany", fn := fun _ => fun
  | [d] => { results := [.lit (.bool true)], args := [d] }
  | _ => none }
def cancelManyRow : OpenClaim := { program := "ytbdfcoclmmhblaa", sum := "1120c02411ac2d14ae1d9b1abb101614f4393ecd3b6b141cd1ab7dadf47e805b", func := "eddywheel/eddywheellaw17.CancelMany", spec := "cancelMany", unfollowed := true, recurses := true, apart := false }
def CancelManySaid : Prop := cancelManyRow.holds Try.pinned (OpenSpec.ofChange cancelManySpec)

/-- ITS FALSE NEIGHBOUR: 'it returns false'. Refute it at one input. -/
def cancelManyWrong : ChangeSpec := { name := "cancelMany", fn := fun _ => fun
  | [d] => { results := [.lit (.bool false)], args := [d] }
  | _ => none }
def CancelManyWrongFalsely : Prop := cancelManyRow.holds Try.pinned (OpenSpec.ofChange cancelManyWrong)

/-- 'eddywheellaw17.CancelStays': WHATEVER THE INPUT: true; the input reads as it did. -/
def cancelStaysSpec : ChangeSpec := { name := "cancelStays", fn := fun _ => fun
  | [d] => { results := [.lit (.bool true)], args := [d] }
  | _ => none }
def cancelStaysRow : OpenClaim := { program := "ytbdfcoclmmhblaa", sum := "1120c02411ac2d14ae1d9b1abb101614f4393ecd3b6b141cd1ab7dadf47e805b", func := "eddywheel/eddywheellaw17.CancelStays", spec := "cancelStays", unfollowed := true, recurses := true, apart := false }
def CancelStaysSaid : Prop := cancelStaysRow.holds Try.pinned (OpenSpec.ofChange cancelStaysSpec)

/-- ITS FALSE NEIGHBOUR: 'it returns false'. Refute it at one input. -/
def cancelStaysWrong : ChangeSpec := { name := "cancelStays", fn := fun _ => fun
  | [d] => { results := [.lit (.bool false)], args := [d] }
  | _ => none }
def CancelStaysWrongFalsely : Prop := cancelStaysRow.holds Try.pinned (OpenSpec.ofChange cancelStaysWrong)

/-- 'eddywheellaw17.CancelRows': WHATEVER THE INPUT: true; the input reads as it did. -/
def cancelRowsSpec : ChangeSpec := { name := "cancelRows", fn := fun _ => fun
  | [d1, d2, d3] => { results := [.lit (.bool true)], args := [d1, d2, d3] }
  | _ => none }
def cancelRowsRow : OpenClaim := { program := "ytbdfcoclmmhblaa", sum := "1120c02411ac2d14ae1d9b1abb101614f4393ecd3b6b141cd1ab7dadf47e805b", func := "eddywheel/eddywheellaw17.CancelRows", spec := "cancelRows", unfollowed := true, recurses := true, apart := false }
def CancelRowsSaid : Prop := cancelRowsRow.holds Try.pinned (OpenSpec.ofChange cancelRowsSpec)

/-- ITS FALSE NEIGHBOUR: 'it returns false'. Refute it at one input. -/
def cancelRowsWrong : ChangeSpec := { name := "cancelRows", fn := fun _ => fun
  | [d1, d2, d3] => { results := [.lit (.bool false)], args := [d1, d2, d3] }
  | _ => none }
def CancelRowsWrongFalsely : Prop := cancelRowsRow.holds Try.pinned (OpenSpec.ofChange cancelRowsWrong)

/- THE SECOND FORM. 'bulk': how many values and letters a reading holds, each counted each time it is reached (what is shared counts as often as it is met; a slice's spare places count too). A statement '..UptoSaid' is the law's where the arguments, and the package variables that the reading takes, are together of bulk at most 1048576: NARROWER than '..Said'. Prove '..Said' where nothing that the law and all that it calls make is longer than what came in: it says more and counts as full. Else prove '..UptoSaid'. A law counts once. -/
mutual
def uptoBulk {H : Type} : DataW H → Nat
  | .lit (.string bytes) => bytes.length + 1
  | .lit _ => 1
  | .nil => 1
  | .ptr d => uptoBulk d + 1
  | .slice elems spare => uptoBulkAll elems + uptoBulkAll spare + 1
  | .agg parts => uptoBulkAll parts + 1
  | .iface _ d => uptoBulk d + 1
  | .map entries => uptoBulkEntries entries + 1
  | .held _ => 1
def uptoBulkAll {H : Type} : List (DataW H) → Nat
  | [] => 0
  | d :: r => uptoBulk d + uptoBulkAll r
def uptoBulkEntries {H : Type} : List (Lit × DataW H) → Nat
  | [] => 0
  | x :: r => uptoBulkEntry x + uptoBulkEntries r
def uptoBulkEntry {H : Type} : Lit × DataW H → Nat
  | (.string bytes, d) => bytes.length + uptoBulk d + 1
  | (_, d) => uptoBulk d + 1
 end
def uptoSmall : (H : Type) → List (DataW H) → Bool := fun _ ds => decide (uptoBulkAll ds ≤ 1048576)
def OpenSpec.upto (s : _root_.Go.ChangeSpec) : _root_.Go.OpenSpec := { _root_.Go.OpenSpec.ofChange s with cond := some uptoSmall }

/-- 'eddywheellaw17.CancelPlays', WHERE WHAT IT READS IS OF BULK AT MOST 1048576: true; the input reads as it did. -/
def cancelPlaysUptoRow : OpenClaim := { program := "ytbdfcoclmmhblaa", sum := "1120c02411ac2d14ae1d9b1abb101614f4393ecd3b6b141cd1ab7dadf47e805b", func := "eddywheel/eddywheellaw17.CancelPlays", spec := "cancelPlays", unfollowed := true, recurses := true, apart := false, narrowed := true }
def CancelPlaysUptoSaid : Prop := cancelPlaysUptoRow.holds Try.pinned (OpenSpec.upto cancelPlaysSpec)

/-- 'eddywheellaw17.CancelBelow', WHERE WHAT IT READS IS OF BULK AT MOST 1048576: true; the input reads as it did. -/
def cancelBelowUptoRow : OpenClaim := { program := "ytbdfcoclmmhblaa", sum := "1120c02411ac2d14ae1d9b1abb101614f4393ecd3b6b141cd1ab7dadf47e805b", func := "eddywheel/eddywheellaw17.CancelBelow", spec := "cancelBelow", unfollowed := true, recurses := true, apart := false, narrowed := true }
def CancelBelowUptoSaid : Prop := cancelBelowUptoRow.holds Try.pinned (OpenSpec.upto cancelBelowSpec)

/-- 'eddywheellaw17.CancelMany', WHERE WHAT IT READS IS OF BULK AT MOST 1048576: true; the input reads as it did. -/
def cancelManyUptoRow : OpenClaim := { program := "ytbdfcoclmmhblaa", sum := "1120c02411ac2d14ae1d9b1abb101614f4393ecd3b6b141cd1ab7dadf47e805b", func := "eddywheel/eddywheellaw17.CancelMany", spec := "cancelMany", unfollowed := true, recurses := true, apart := false, narrowed := true }
def CancelManyUptoSaid : Prop := cancelManyUptoRow.holds Try.pinned (OpenSpec.upto cancelManySpec)

/-- 'eddywheellaw17.CancelStays', WHERE WHAT IT READS IS OF BULK AT MOST 1048576: true; the input reads as it did. -/
def cancelStaysUptoRow : OpenClaim := { program := "ytbdfcoclmmhblaa", sum := "1120c02411ac2d14ae1d9b1abb101614f4393ecd3b6b141cd1ab7dadf47e805b", func := "eddywheel/eddywheellaw17.CancelStays", spec := "cancelStays", unfollowed := true, recurses := true, apart := false, narrowed := true }
def CancelStaysUptoSaid : Prop := cancelStaysUptoRow.holds Try.pinned (OpenSpec.upto cancelStaysSpec)

/-- 'eddywheellaw17.CancelRows', WHERE WHAT IT READS IS OF BULK AT MOST 1048576: true; the input reads as it did. -/
def cancelRowsUptoRow : OpenClaim := { program := "ytbdfcoclmmhblaa", sum := "1120c02411ac2d14ae1d9b1abb101614f4393ecd3b6b141cd1ab7dadf47e805b", func := "eddywheel/eddywheellaw17.CancelRows", spec := "cancelRows", unfollowed := true, recurses := true, apart := false, narrowed := true }
def CancelRowsUptoSaid : Prop := cancelRowsUptoRow.holds Try.pinned (OpenSpec.upto cancelRowsSpec)

end Rows
end Go.Proofs.Ytbdfcoclmmhblaa
