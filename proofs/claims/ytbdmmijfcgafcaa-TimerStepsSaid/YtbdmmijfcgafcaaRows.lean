/-
  No cell of these rows narrows 'for every input' (looked for: loops, veiled, ifaces, maps, wideKeys, modest, calm, conditions, laid).
  DERIVED. THE GIVEN ROWS OF THIS SEAT. 5 by the template 'for every input the law returns true; each argument reads behind the call as it read before'; 0 by the template 'total and deterministic' (their statements: YtbdmmijfcgafcaaTotals.lean).
  GIVEN WITH THE SEED: the statements are not yours to turn. If you find one false, say at which input.
  Laid BY PROGRAM, IN A SANDBOX (cutbox-rows.mjs): the forced cells as the released guide's own fill.sh prints them over the translation 7139b97e28f58c90… (all of the seat's roots in one cut). By AI agents, Wed Nov 11 2026. No macro, syntax, notation, axiom, sorry.
-/
import Derived.Test.YtbdmmijfcgafcaaChecked
import GoSem.Claim
import GoSem.ClaimJoined
import GoSem.ClaimMapViews
import Derived.JoinedTies
import Derived.KernelRfl
namespace Go.Proofs.Ytbdmmijfcgafcaa
/- THE CELL 'sum', in the pinned program and in every row, IS THE sha256 OF THE DUMP (.gsa) THAT YtbdmmijfcgafcaaProg.lean LOADS. Nothing in Lean hashes anything: it is a label: what it is worth is what the hold of that sum in a sandbox is worth. -/
noncomputable def Try.pinned : Pinned := { name := "ytbdmmijfcgafcaa", sum := "7139b97e28f58c90b6a0aaae054b5824835ca72fad22b0518646aeaaee024fe6", checked := Try.checked }
namespace Rows
def none {H : Type} : Left H := { results := [], args := [] }

/-- 'eddywheellaw14.TimerOrder': WHATEVER THE INPUT: true; the input reads as it did. -/
def timerOrderSpec : ChangeSpec := { name := "timerOrder", fn := fun _ => fun
  | [d1, d2] => { results := [.lit (.bool true)], args := [d1, d2] }
  | _ => none }
def timerOrderRow : OpenClaim := { program := "ytbdmmijfcgafcaa", sum := "7139b97e28f58c90b6a0aaae054b5824835ca72fad22b0518646aeaaee024fe6", func := "eddywheel/eddywheellaw14.TimerOrder", spec := "timerOrder", apart := false }
def TimerOrderSaid : Prop := timerOrderRow.holds Try.pinned (OpenSpec.ofChange timerOrderSpec)

/-- ITS FALSE NEIGHBOUR: 'it returns false'. Refute it at one input. -/
def timerOrderWrong : ChangeSpec := { name := "timerOrder", fn := fun _ => fun
  | [d1, d2] => { results := [.lit (.bool false)], args := [d1, d2] }
  | _ => none }
def TimerOrderWrongFalsely : Prop := timerOrderRow.holds Try.pinned (OpenSpec.ofChange timerOrderWrong)

/-- 'eddywheellaw14.TimerSteps': WHATEVER THE INPUT: true; the input reads as it did. -/
def timerStepsSpec : ChangeSpec := { name := "timerSteps", fn := fun _ => fun
  | [d1, d2] => { results := [.lit (.bool true)], args := [d1, d2] }
  | _ => none }
def timerStepsRow : OpenClaim := { program := "ytbdmmijfcgafcaa", sum := "7139b97e28f58c90b6a0aaae054b5824835ca72fad22b0518646aeaaee024fe6", func := "eddywheel/eddywheellaw14.TimerSteps", spec := "timerSteps", apart := false }
def TimerStepsSaid : Prop := timerStepsRow.holds Try.pinned (OpenSpec.ofChange timerStepsSpec)

/-- ITS FALSE NEIGHBOUR: 'it returns false'. Refute it at one input. -/
def timerStepsWrong : ChangeSpec := { name := "timerSteps", fn := fun _ => fun
  | [d1, d2] => { results := [.lit (.bool false)], args := [d1, d2] }
  | _ => none }
def TimerStepsWrongFalsely : Prop := timerStepsRow.holds Try.pinned (OpenSpec.ofChange timerStepsWrong)

/-- 'eddywheellaw14.TimerPlays': WHATEVER THE INPUT: true; the input reads as it did. -/
def timerPlaysSpec : ChangeSpec := { name := "timerPlays", fn := fun _ => fun
  | [d] => { results := [.lit (.bool true)], args := [d] }
  | _ => none }
def timerPlaysRow : OpenClaim := { program := "ytbdmmijfcgafcaa", sum := "7139b97e28f58c90b6a0aaae054b5824835ca72fad22b0518646aeaaee024fe6", func := "eddywheel/eddywheellaw14.TimerPlays", spec := "timerPlays", unfollowed := true, recurses := true, apart := false }
def TimerPlaysSaid : Prop := timerPlaysRow.holds Try.pinned (OpenSpec.ofChange timerPlaysSpec)

/-- ITS FALSE NEIGHBOUR: 'it returns false'. Refute it at one input. -/
def timerPlaysWrong : ChangeSpec := { name := "timerPlays", fn := fun _ => fun
  | [d] => { results := [.lit (.bool false)], args := [d] }
  | _ => none }
def TimerPlaysWrongFalsely : Prop := timerPlaysRow.holds Try.pinned (OpenSpec.ofChange timerPlaysWrong)

/-- 'eddywheellaw14.TimerFull': WHATEVER THE INPUT: true; the input reads as it did. -/
def timerFullSpec : ChangeSpec := { name := "timerFull", fn := fun _ => fun
  | [d] => { results := [.lit (.bool true)], args := [d] }
  | _ => none }
def timerFullRow : OpenClaim := { program := "ytbdmmijfcgafcaa", sum := "7139b97e28f58c90b6a0aaae054b5824835ca72fad22b0518646aeaaee024fe6", func := "eddywheel/eddywheellaw14.TimerFull", spec := "timerFull", unfollowed := true, recurses := true, apart := false }
def TimerFullSaid : Prop := timerFullRow.holds Try.pinned (OpenSpec.ofChange timerFullSpec)

/-- ITS FALSE NEIGHBOUR: 'it returns false'. Refute it at one input. -/
def timerFullWrong : ChangeSpec := { name := "timerFull", fn := fun _ => fun
  | [d] => { results := [.lit (.bool false)], args := [d] }
  | _ => none }
def TimerFullWrongFalsely : Prop := timerFullRow.holds Try.pinned (OpenSpec.ofChange timerFullWrong)

/-- 'eddywheellaw14.TimerRemoves': WHATEVER THE INPUT: true; the input reads as it did. -/
def timerRemovesSpec : ChangeSpec := { name := "timerRemoves", fn := fun _ => fun
  | [d1, d2] => { results := [.lit (.bool true)], args := [d1, d2] }
  | _ => none }
def timerRemovesRow : OpenClaim := { program := "ytbdmmijfcgafcaa", sum := "7139b97e28f58c90b6a0aaae054b5824835ca72fad22b0518646aeaaee024fe6", func := "eddywheel/eddywheellaw14.TimerRemoves", spec := "timerRemoves", unfollowed := true, recurses := true, apart := false }
def TimerRemovesSaid : Prop := timerRemovesRow.holds Try.pinned (OpenSpec.ofChange timerRemovesSpec)

/-- ITS FALSE NEIGHBOUR: 'it returns false'. Refute it at one input. -/
def timerRemovesWrong : ChangeSpec := { name := "timerRemoves", fn := fun _ => fun
  | [d1, d2] => { results := [.lit (.bool false)], args := [d1, d2] }
  | _ => none }
def TimerRemovesWrongFalsely : Prop := timerRemovesRow.holds Try.pinned (OpenSpec.ofChange timerRemovesWrong)

/- THE SECOND FORM. 'bulk': how many values and letters a reading holds, each counted each time it is reached (what is shared counts as often as it is met; a slice's spare places count too). A statement '..UptoSaid' is the law's where the arguments, and the package variables that the reading takes, are together of bulk at most 1048576: NARROWER than '..Said'. Prove '..Said' where nothing that the law and all that it calls make is longer than what came in: it says more and counts as full. Else prove '..UptoSaid'. A law counts once. -/
mutual
def uptoBulk {H : Type} : DataW H → Nat
  | .lit (.string bytes) => bytes.length + 1
  | .lit _ => 1
  | .nil => 1
  | .ptr d => uptoBulk d + 1
  | .slice elems spare => uptoBulkAll elems + uptoBulkAll spare + 1
  | .agg parts => uptoBulkAll parts + 1
  | .iface _ d => uptoBulk d + 1
  | .map entries => uptoBulkEntries entries + 1
  | .held _ => 1
def uptoBulkAll {H : Type} : List (DataW H) → Nat
  | [] => 0
  | d :: r => uptoBulk d + uptoBulkAll r
def uptoBulkEntries {H : Type} : List (Lit × DataW H) → Nat
  | [] => 0
  | x :: r => uptoBulkEntry x + uptoBulkEntries r
def uptoBulkEntry {H : Type} : Lit × DataW H → Nat
  | (.string bytes, d) => bytes.length + uptoBulk d + 1
  | (_, d) => uptoBulk d + 1
 end
def uptoSmall : (H : Type) → List (DataW H) → Bool := fun _ ds => decide (uptoBulkAll ds ≤ 1048576)
def OpenSpec.upto (s : _root_.Go.ChangeSpec) : _root_.Go.OpenSpec := { _root_.Go.OpenSpec.ofChange s with cond := some uptoSmall }

/-- 'eddywheellaw14.TimerOrder', WHERE WHAT IT READS IS OF BULK AT MOST 1048576: true; the input reads as it did. -/
def timerOrderUptoRow : OpenClaim := { program := "ytbdmmijfcgafcaa", sum := "7139b97e28f58c90b6a0aaae054b5824835ca72fad22b0518646aeaaee024fe6", func := "eddywheel/eddywheellaw14.TimerOrder", spec := "timerOrder", apart := false, narrowed := true }
def TimerOrderUptoSaid : Prop := timerOrderUptoRow.holds Try.pinned (OpenSpec.upto timerOrderSpec)

/-- 'eddywheellaw14.TimerSteps', WHERE WHAT IT READS IS OF BULK AT MOST 1048576: true; the input reads as it did. -/
def timerStepsUptoRow : OpenClaim := { program := "ytbdmmijfcgafcaa", sum := "7139b97e28f58c90b6a0aaae054b5824835ca72fad22b0518646aeaaee024fe6", func := "eddywheel/eddywheellaw14.TimerSteps", spec := "timerSteps", apart := false, narrowed := true }
def TimerStepsUptoSaid : Prop := timerStepsUptoRow.holds Try.pinned (OpenSpec.upto timerStepsSpec)

/-- 'eddywheellaw14.TimerPlays', WHERE WHAT IT READS IS OF BULK AT MOST 1048576: true; the input reads as it did. -/
def timerPlaysUptoRow : OpenClaim := { program := "ytbdmmijfcgafcaa", sum := "7139b97e28f58c90b6a0aaae054b5824835ca72fad22b0518646aeaaee024fe6", func := "eddywheel/eddywheellaw14.TimerPlays", spec := "timerPlays", unfollowed := true, recurses := true, apart := false, narrowed := true }
def TimerPlaysUptoSaid : Prop := timerPlaysUptoRow.holds Try.pinned (OpenSpec.upto timerPlaysSpec)

/-- 'eddywheellaw14.TimerFull', WHERE WHAT IT READS IS OF BULK AT MOST 1048576: true; the input reads as it did. -/
def timerFullUptoRow : OpenClaim := { program := "ytbdmmijfcgafcaa", sum := "7139b97e28f58c90b6a0aaae054b5824835ca72fad22b0518646aeaaee024fe6", func := "eddywheel/eddywheellaw14.TimerFull", spec := "timerFull", unfollowed := true, recurses := true, apart := false, narrowed := true }
def TimerFullUptoSaid : Prop := timerFullUptoRow.holds Try.pinned (OpenSpec.upto timerFullSpec)

/-- 'eddywheellaw14.TimerRemoves', WHERE WHAT IT READS IS OF BULK AT MOST 1048576: true; the input reads as it did. -/
def timerRemovesUptoRow : OpenClaim := { program := "ytbdmmijfcgafcaa", sum := "7139b97e28f58c90b6a0aaae054b5824835ca72fad22b0518646aeaaee024fe6", func := "eddywheel/eddywheellaw14.TimerRemoves", spec := "timerRemoves", unfollowed := true, recurses := true, apart := false, narrowed := true }
def TimerRemovesUptoSaid : Prop := timerRemovesUptoRow.holds Try.pinned (OpenSpec.upto timerRemovesSpec)

end Rows
end Go.Proofs.Ytbdmmijfcgafcaa
