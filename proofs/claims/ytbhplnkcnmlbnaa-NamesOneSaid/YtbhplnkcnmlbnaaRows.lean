/-
  No cell of these rows narrows 'for every input' (looked for: loops, veiled, ifaces, maps, wideKeys, modest, calm, conditions, laid).
  DERIVED. THE GIVEN ROWS OF THIS SEAT. 5 by the template 'for every input the law returns true; each argument reads behind the call as it read before'; 0 by the template 'total and deterministic' (their statements: YtbhplnkcnmlbnaaTotals.lean).
  GIVEN WITH THE SEED: the statements are not yours to turn. If you find one false, say at which input.
  Laid BY PROGRAM, IN A SANDBOX (cutbox-rows.mjs): the forced cells as the released guide's own fill.sh prints them over the translation 31919787d8d86f66… (all of the seat's roots in one cut). By AI agents, Wed Nov 11 2026. No macro, syntax, notation, axiom, sorry.
-/
import Derived.Test.YtbhplnkcnmlbnaaChecked
import GoSem.Claim
import GoSem.ClaimJoined
import GoSem.ClaimMapViews
import Derived.JoinedTies
import Derived.KernelRfl
namespace Go.Proofs.Ytbhplnkcnmlbnaa
/- THE CELL 'sum', in the pinned program and in every row, IS THE sha256 OF THE DUMP (.gsa) THAT YtbhplnkcnmlbnaaProg.lean LOADS. Nothing in Lean hashes anything: it is a label: what it is worth is what the hold of that sum in a sandbox is worth. -/
noncomputable def Try.pinned : Pinned := { name := "ytbhplnkcnmlbnaa", sum := "31919787d8d86f6627ae8c12a67431e90ebe9e24a5a8f37da6feb44842284d6a", checked := Try.checked }
namespace Rows
def none {H : Type} : Left H := { results := [], args := [] }

/-- 'eddywheellaw04.NamesOrder': WHATEVER THE INPUT: true; the input reads as it did. -/
def namesOrderSpec : ChangeSpec := { name := "namesOrder", fn := fun _ => fun
  | [d] => { results := [.lit (.bool true)], args := [d] }
  | _ => none }
def namesOrderRow : OpenClaim := { program := "ytbhplnkcnmlbnaa", sum := "31919787d8d86f6627ae8c12a67431e90ebe9e24a5a8f37da6feb44842284d6a", func := "eddywheel/eddywheellaw04.NamesOrder", spec := "namesOrder", apart := false }
def NamesOrderSaid : Prop := namesOrderRow.holds Try.pinned (OpenSpec.ofChange namesOrderSpec)

/-- ITS FALSE NEIGHBOUR: 'it returns false'. Refute it at one input. -/
def namesOrderWrong : ChangeSpec := { name := "namesOrder", fn := fun _ => fun
  | [d] => { results := [.lit (.bool false)], args := [d] }
  | _ => none }
def NamesOrderWrongFalsely : Prop := namesOrderRow.holds Try.pinned (OpenSpec.ofChange namesOrderWrong)

/-- 'eddywheellaw04.NamesApart': WHATEVER THE INPUT: true; the input reads as it did. -/
def namesApartSpec : ChangeSpec := { name := "namesApart", fn := fun _ => fun
  | [d1, d2] => { results := [.lit (.bool true)], args := [d1, d2] }
  | _ => none }
def namesApartRow : OpenClaim := { program := "ytbhplnkcnmlbnaa", sum := "31919787d8d86f6627ae8c12a67431e90ebe9e24a5a8f37da6feb44842284d6a", func := "eddywheel/eddywheellaw04.NamesApart", spec := "namesApart", apart := false }
def NamesApartSaid : Prop := namesApartRow.holds Try.pinned (OpenSpec.ofChange namesApartSpec)

/-- ITS FALSE NEIGHBOUR: 'it returns false'. Refute it at one input. -/
def namesApartWrong : ChangeSpec := { name := "namesApart", fn := fun _ => fun
  | [d1, d2] => { results := [.lit (.bool false)], args := [d1, d2] }
  | _ => none }
def NamesApartWrongFalsely : Prop := namesApartRow.holds Try.pinned (OpenSpec.ofChange namesApartWrong)

/-- 'eddywheellaw04.NamesPuts': WHATEVER THE INPUT: true; the input reads as it did. -/
def namesPutsSpec : ChangeSpec := { name := "namesPuts", fn := fun _ => fun
  | [d1, d2] => { results := [.lit (.bool true)], args := [d1, d2] }
  | _ => none }
def namesPutsRow : OpenClaim := { program := "ytbhplnkcnmlbnaa", sum := "31919787d8d86f6627ae8c12a67431e90ebe9e24a5a8f37da6feb44842284d6a", func := "eddywheel/eddywheellaw04.NamesPuts", spec := "namesPuts", apart := false }
def NamesPutsSaid : Prop := namesPutsRow.holds Try.pinned (OpenSpec.ofChange namesPutsSpec)

/-- ITS FALSE NEIGHBOUR: 'it returns false'. Refute it at one input. -/
def namesPutsWrong : ChangeSpec := { name := "namesPuts", fn := fun _ => fun
  | [d1, d2] => { results := [.lit (.bool false)], args := [d1, d2] }
  | _ => none }
def NamesPutsWrongFalsely : Prop := namesPutsRow.holds Try.pinned (OpenSpec.ofChange namesPutsWrong)

/-- 'eddywheellaw04.NamesOne': WHATEVER THE INPUT: true; the input reads as it did. -/
def namesOneSpec : ChangeSpec := { name := "namesOne", fn := fun _ => fun
  | [d] => { results := [.lit (.bool true)], args := [d] }
  | _ => none }
def namesOneRow : OpenClaim := { program := "ytbhplnkcnmlbnaa", sum := "31919787d8d86f6627ae8c12a67431e90ebe9e24a5a8f37da6feb44842284d6a", func := "eddywheel/eddywheellaw04.NamesOne", spec := "namesOne", apart := false }
def NamesOneSaid : Prop := namesOneRow.holds Try.pinned (OpenSpec.ofChange namesOneSpec)

/-- ITS FALSE NEIGHBOUR: 'it returns false'. Refute it at one input. -/
def namesOneWrong : ChangeSpec := { name := "namesOne", fn := fun _ => fun
  | [d] => { results := [.lit (.bool false)], args := [d] }
  | _ => none }
def NamesOneWrongFalsely : Prop := namesOneRow.holds Try.pinned (OpenSpec.ofChange namesOneWrong)

/-- 'eddywheellaw04.NamesFull': WHATEVER THE INPUT: true; the input reads as it did. -/
def namesFullSpec : ChangeSpec := { name := "namesFull", fn := fun _ => fun
  | [d] => { results := [.lit (.bool true)], args := [d] }
  | _ => none }
def namesFullRow : OpenClaim := { program := "ytbhplnkcnmlbnaa", sum := "31919787d8d86f6627ae8c12a67431e90ebe9e24a5a8f37da6feb44842284d6a", func := "eddywheel/eddywheellaw04.NamesFull", spec := "namesFull", unfollowed := true, recurses := true, apart := false }
def NamesFullSaid : Prop := namesFullRow.holds Try.pinned (OpenSpec.ofChange namesFullSpec)

/-- ITS FALSE NEIGHBOUR: 'it returns false'. Refute it at one input. -/
def namesFullWrong : ChangeSpec := { name := "namesFull", fn := fun _ => fun
  | [d] => { results := [.lit (.bool false)], args := [d] }
  | _ => none }
def NamesFullWrongFalsely : Prop := namesFullRow.holds Try.pinned (OpenSpec.ofChange namesFullWrong)

/- THE SECOND FORM. 'bulk': how many values and letters a reading holds, each counted each time it is reached (what is shared counts as often as it is met; a slice's spare places count too). A statement '..UptoSaid' is the law's where the arguments, and the package variables that the reading takes, are together of bulk at most 1048576: NARROWER than '..Said'. Prove '..Said' where nothing that the law and all that it calls make is longer than what came in: it says more and counts as full. Else prove '..UptoSaid'. A law counts once. -/
mutual
def uptoBulk {H : Type} : DataW H → Nat
  | .lit (.string bytes) => bytes.length + 1
  | .lit _ => 1
  | .nil => 1
  | .ptr d => uptoBulk d + 1
  | .slice elems spare => uptoBulkAll elems + uptoBulkAll spare + 1
  | .agg parts => uptoBulkAll parts + 1
  | .iface _ d => uptoBulk d + 1
  | .map entries => uptoBulkEntries entries + 1
  | .held _ => 1
def uptoBulkAll {H : Type} : List (DataW H) → Nat
  | [] => 0
  | d :: r => uptoBulk d + uptoBulkAll r
def uptoBulkEntries {H : Type} : List (Lit × DataW H) → Nat
  | [] => 0
  | x :: r => uptoBulkEntry x + uptoBulkEntries r
def uptoBulkEntry {H : Type} : Lit × DataW H → Nat
  | (.string bytes, d) => bytes.length + uptoBulk d + 1
  | (_, d) => uptoBulk d + 1
 end
def uptoSmall : (H : Type) → List (DataW H) → Bool := fun _ ds => decide (uptoBulkAll ds ≤ 1048576)
def OpenSpec.upto (s : _root_.Go.ChangeSpec) : _root_.Go.OpenSpec := { _root_.Go.OpenSpec.ofChange s with cond := some uptoSmall }

/-- 'eddywheellaw04.NamesOrder', WHERE WHAT IT READS IS OF BULK AT MOST 1048576: true; the input reads as it did. -/
def namesOrderUptoRow : OpenClaim := { program := "ytbhplnkcnmlbnaa", sum := "31919787d8d86f6627ae8c12a67431e90ebe9e24a5a8f37da6feb44842284d6a", func := "eddywheel/eddywheellaw04.NamesOrder", spec := "namesOrder", apart := false, narrowed := true }
def NamesOrderUptoSaid : Prop := namesOrderUptoRow.holds Try.pinned (OpenSpec.upto namesOrderSpec)

/-- 'eddywheellaw04.NamesApart', WHERE WHAT IT READS IS OF BULK AT MOST 1048576: true; the input reads as it did. -/
def namesApartUptoRow : OpenClaim := { program := "ytbhplnkcnmlbnaa", sum := "31919787d8d86f6627ae8c12a67431e90ebe9e24a5a8f37da6feb44842284d6a", func := "eddywheel/eddywheellaw04.NamesApart", spec := "namesApart", apart := false, narrowed := true }
def NamesApartUptoSaid : Prop := namesApartUptoRow.holds Try.pinned (OpenSpec.upto namesApartSpec)

/-- 'eddywheellaw04.NamesPuts', WHERE WHAT IT READS IS OF BULK AT MOST 1048576: true; the input reads as it did. -/
def namesPutsUptoRow : OpenClaim := { program := "ytbhplnkcnmlbnaa", sum := "31919787d8d86f6627ae8c12a67431e90ebe9e24a5a8f37da6feb44842284d6a", func := "eddywheel/eddywheellaw04.NamesPuts", spec := "namesPuts", apart := false, narrowed := true }
def NamesPutsUptoSaid : Prop := namesPutsUptoRow.holds Try.pinned (OpenSpec.upto namesPutsSpec)

/-- 'eddywheellaw04.NamesOne', WHERE WHAT IT READS IS OF BULK AT MOST 1048576: true; the input reads as it did. -/
def namesOneUptoRow : OpenClaim := { program := "ytbhplnkcnmlbnaa", sum := "31919787d8d86f6627ae8c12a67431e90ebe9e24a5a8f37da6feb44842284d6a", func := "eddywheel/eddywheellaw04.NamesOne", spec := "namesOne", apart := false, narrowed := true }
def NamesOneUptoSaid : Prop := namesOneUptoRow.holds Try.pinned (OpenSpec.upto namesOneSpec)

/-- 'eddywheellaw04.NamesFull', WHERE WHAT IT READS IS OF BULK AT MOST 1048576: true; the input reads as it did. -/
def namesFullUptoRow : OpenClaim := { program := "ytbhplnkcnmlbnaa", sum := "31919787d8d86f6627ae8c12a67431e90ebe9e24a5a8f37da6feb44842284d6a", func := "eddywheel/eddywheellaw04.NamesFull", spec := "namesFull", unfollowed := true, recurses := true, apart := false, narrowed := true }
def NamesFullUptoSaid : Prop := namesFullUptoRow.holds Try.pinned (OpenSpec.upto namesFullSpec)

end Rows
end Go.Proofs.Ytbhplnkcnmlbnaa
