/-
  No cell of these rows narrows 'for every input' (looked for: loops, veiled, ifaces, maps, wideKeys, modest, calm, conditions, laid).
  DERIVED. THE GIVEN ROWS OF THIS SEAT. 6 by the template 'for every input the law returns true; each argument reads behind the call as it read before'; 0 by the template 'total and deterministic' (their statements: YtfmkjnlelijnoaaTotals.lean).
  GIVEN WITH THE SEED: the statements are not yours to turn. If you find one false, say at which input.
  Laid BY PROGRAM, IN A SANDBOX (cutbox-rows.mjs): the forced cells as the released guide's own fill.sh prints them over the translation 0c47fcf540727aab… (all of the seat's roots in one cut). By AI agents, Wed Nov 11 2026. No macro, syntax, notation, axiom, sorry.
-/
import Derived.Test.YtfmkjnlelijnoaaChecked
import GoSem.Claim
import GoSem.ClaimJoined
import GoSem.ClaimMapViews
import Derived.JoinedTies
import Derived.KernelRfl
namespace Go.Proofs.Ytfmkjnlelijnoaa
/- THE CELL 'sum', in the pinned program and in every row, IS THE sha256 OF THE DUMP (.gsa) THAT YtfmkjnlelijnoaaProg.lean LOADS. Nothing in Lean hashes anything: it is a label: what it is worth is what the hold of that sum in a sandbox is worth. -/
noncomputable def Try.pinned : Pinned := { name := "ytfmkjnlelijnoaa", sum := "0c47fcf540727aab97a50b986fc230ea0e1ad57ce2376280433231d212a4a1d3", checked := Try.checked }
namespace Rows
def none {H : Type} : Left H := { results := [], args := [] }

/-- 'eddywheellaw16.PromiseZero': WHATEVER THE INPUT: true; the input reads as it did. -/
def promiseZeroSpec : ChangeSpec := { name := "promiseZero", fn := fun _ => fun
  | [d1, d2] => { results := [.lit (.bool true)], args := [d1, d2] }
  | _ => none }
def promiseZeroRow : OpenClaim := { program := "ytfmkjnlelijnoaa", sum := "0c47fcf540727aab97a50b986fc230ea0e1ad57ce2376280433231d212a4a1d3", func := "eddywheel/eddywheellaw16.PromiseZero", spec := "promiseZero", apart := false }
def PromiseZeroSaid : Prop := promiseZeroRow.holds Try.pinned (OpenSpec.ofChange promiseZeroSpec)

/-- ITS FALSE NEIGHBOUR: 'it returns false'. Refute it at one input. -/
def promiseZeroWrong : ChangeSpec := { name := "promiseZero", fn := fun _ => fun
  | [d1, d2] => { results := [.lit (.bool false)], args := [d1, d2] }
  | _ => none }
def PromiseZeroWrongFalsely : Prop := promiseZeroRow.holds Try.pinned (OpenSpec.ofChange promiseZeroWrong)

/-- 'eddywheellaw16.PromisePlays': WHATEVER THE INPUT: true; the input reads as it did. -/
def promisePlaysSpec : ChangeSpec := { name := "promisePlays", fn := fun _ => fun
  | [d] => { results := [.lit (.bool true)], args := [d] }
  | _ => none }
def promisePlaysRow : OpenClaim := { program := "ytfmkjnlelijnoaa", sum := "0c47fcf540727aab97a50b986fc230ea0e1ad57ce2376280433231d212a4a1d3", func := "eddywheel/eddywheellaw16.PromisePlays", spec := "promisePlays", apart := false }
def PromisePlaysSaid : Prop := promisePlaysRow.holds Try.pinned (OpenSpec.ofChange promisePlaysSpec)

/-- ITS FALSE NEIGHBOUR: 'it returns false'. Refute it at one input. -/
def promisePlaysWrong : ChangeSpec := { name := "promisePlays", fn := fun _ => fun
  | [d] => { results := [.lit (.bool false)], args := [d] }
  | _ => none }
def PromisePlaysWrongFalsely : Prop := promisePlaysRow.holds Try.pinned (OpenSpec.ofChange promisePlaysWrong)

/-- 'eddywheellaw16.PromiseOnce': WHATEVER THE INPUT: true; the input reads as it did. -/
def promiseOnceSpec : ChangeSpec := { name := "promiseOnce", fn := fun _ => fun
  | [d1, d2, d3, d4] => { results := [.lit (.bool true)], args := [d1, d2, d3, d4] }
  | _ => none }
def promiseOnceRow : OpenClaim := { program := "ytfmkjnlelijnoaa", sum := "0c47fcf540727aab97a50b986fc230ea0e1ad57ce2376280433231d212a4a1d3", func := "eddywheel/eddywheellaw16.PromiseOnce", spec := "promiseOnce", apart := false }
def PromiseOnceSaid : Prop := promiseOnceRow.holds Try.pinned (OpenSpec.ofChange promiseOnceSpec)

/-- ITS FALSE NEIGHBOUR: 'it returns false'. Refute it at one input. -/
def promiseOnceWrong : ChangeSpec := { name := "promiseOnce", fn := fun _ => fun
  | [d1, d2, d3, d4] => { results := [.lit (.bool false)], args := [d1, d2, d3, d4] }
  | _ => none }
def PromiseOnceWrongFalsely : Prop := promiseOnceRow.holds Try.pinned (OpenSpec.ofChange promiseOnceWrong)

/-- 'eddywheellaw16.PromiseMany': WHATEVER THE INPUT: true; the input reads as it did. -/
def promiseManySpec : ChangeSpec := { name := "promiseMany", fn := fun _ => fun
  | [d1, d2] => { results := [.lit (.bool true)], args := [d1, d2] }
  | _ => none }
def promiseManyRow : OpenClaim := { program := "ytfmkjnlelijnoaa", sum := "0c47fcf540727aab97a50b986fc230ea0e1ad57ce2376280433231d212a4a1d3", func := "eddywheel/eddywheellaw16.PromiseMany", spec := "promiseMany", apart := false }
def PromiseManySaid : Prop := promiseManyRow.holds Try.pinned (OpenSpec.ofChange promiseManySpec)

/-- ITS FALSE NEIGHBOUR: 'it returns false'. Refute it at one input. -/
def promiseManyWrong : ChangeSpec := { name := "promiseMany", fn := fun _ => fun
  | [d1, d2] => { results := [.lit (.bool false)], args := [d1, d2] }
  | _ => none }
def PromiseManyWrongFalsely : Prop := promiseManyRow.holds Try.pinned (OpenSpec.ofChange promiseManyWrong)

/-- 'eddywheellaw16.PromiseApart': WHATEVER THE INPUT: true; the input reads as it did. -/
def promiseApartSpec : ChangeSpec := { name := "promiseApart", fn := fun _ => fun
  | [d1, d2] => { results := [.lit (.bool true)], args := [d1, d2] }
  | _ => none }
def promiseApartRow : OpenClaim := { program := "ytfmkjnlelijnoaa", sum := "0c47fcf540727aab97a50b986fc230ea0e1ad57ce2376280433231d212a4a1d3", func := "eddywheel/eddywheellaw16.PromiseApart", spec := "promiseApart", apart := false }
def PromiseApartSaid : Prop := promiseApartRow.holds Try.pinned (OpenSpec.ofChange promiseApartSpec)

/-- ITS FALSE NEIGHBOUR: 'it returns false'. Refute it at one input. -/
def promiseApartWrong : ChangeSpec := { name := "promiseApart", fn := fun _ => fun
  | [d1, d2] => { results := [.lit (.bool false)], args := [d1, d2] }
  | _ => none }
def PromiseApartWrongFalsely : Prop := promiseApartRow.holds Try.pinned (OpenSpec.ofChange promiseApartWrong)

/-- 'eddywheellaw16.PromiseNone': WHATEVER THE INPUT: true; the input reads as it did. -/
def promiseNoneSpec : ChangeSpec := { name := "promiseNone", fn := fun _ => fun
  | [d1, d2] => { results := [.lit (.bool true)], args := [d1, d2] }
  | _ => none }
def promiseNoneRow : OpenClaim := { program := "ytfmkjnlelijnoaa", sum := "0c47fcf540727aab97a50b986fc230ea0e1ad57ce2376280433231d212a4a1d3", func := "eddywheel/eddywheellaw16.PromiseNone", spec := "promiseNone", apart := false }
def PromiseNoneSaid : Prop := promiseNoneRow.holds Try.pinned (OpenSpec.ofChange promiseNoneSpec)

/-- ITS FALSE NEIGHBOUR: 'it returns false'. Refute it at one input. -/
def promiseNoneWrong : ChangeSpec := { name := "promiseNone", fn := fun _ => fun
  | [d1, d2] => { results := [.lit (.bool false)], args := [d1, d2] }
  | _ => none }
def PromiseNoneWrongFalsely : Prop := promiseNoneRow.holds Try.pinned (OpenSpec.ofChange promiseNoneWrong)

/- THE SECOND FORM. 'bulk': how many values and letters a reading holds, each counted each time it is reached (what is shared counts as often as it is met; a slice's spare places count too). A statement '..UptoSaid' is the law's where the arguments, and the package variables that the reading takes, are together of bulk at most 1048576: NARROWER than '..Said'. Prove '..Said' where nothing that the law and all that it calls make is longer than what came in: it says more and counts as full. Else prove '..UptoSaid'. A law counts once. -/
mutual
def uptoBulk {H : Type} : DataW H → Nat
  | .lit (.string bytes) => bytes.length + 1
  | .lit _ => 1
  | .nil => 1
  | .ptr d => uptoBulk d + 1
  | .slice elems spare => uptoBulkAll elems + uptoBulkAll spare + 1
  | .agg parts => uptoBulkAll parts + 1
  | .iface _ d => uptoBulk d + 1
  | .map entries => uptoBulkEntries entries + 1
  | .held _ => 1
def uptoBulkAll {H : Type} : List (DataW H) → Nat
  | [] => 0
  | d :: r => uptoBulk d + uptoBulkAll r
def uptoBulkEntries {H : Type} : List (Lit × DataW H) → Nat
  | [] => 0
  | x :: r => uptoBulkEntry x + uptoBulkEntries r
def uptoBulkEntry {H : Type} : Lit × DataW H → Nat
  | (.string bytes, d) => bytes.length + uptoBulk d + 1
  | (_, d) => uptoBulk d + 1
 end
def uptoSmall : (H : Type) → List (DataW H) → Bool := fun _ ds => decide (uptoBulkAll ds ≤ 1048576)
def OpenSpec.upto (s : _root_.Go.ChangeSpec) : _root_.Go.OpenSpec := { _root_.Go.OpenSpec.ofChange s with cond := some uptoSmall }

/-- 'eddywheellaw16.PromiseZero', WHERE WHAT IT READS IS OF BULK AT MOST 1048576: true; the input reads as it did. -/
def promiseZeroUptoRow : OpenClaim := { program := "ytfmkjnlelijnoaa", sum := "0c47fcf540727aab97a50b986fc230ea0e1ad57ce2376280433231d212a4a1d3", func := "eddywheel/eddywheellaw16.PromiseZero", spec := "promiseZero", apart := false, narrowed := true }
def PromiseZeroUptoSaid : Prop := promiseZeroUptoRow.holds Try.pinned (OpenSpec.upto promiseZeroSpec)

/-- 'eddywheellaw16.PromisePlays', WHERE WHAT IT READS IS OF BULK AT MOST 1048576: true; the input reads as it did. -/
def promisePlaysUptoRow : OpenClaim := { program := "ytfmkjnlelijnoaa", sum := "0c47fcf540727aab97a50b986fc230ea0e1ad57ce2376280433231d212a4a1d3", func := "eddywheel/eddywheellaw16.PromisePlays", spec := "promisePlays", apart := false, narrowed := true }
def PromisePlaysUptoSaid : Prop := promisePlaysUptoRow.holds Try.pinned (OpenSpec.upto promisePlaysSpec)

/-- 'eddywheellaw16.PromiseOnce', WHERE WHAT IT READS IS OF BULK AT MOST 1048576: true; the input reads as it did. -/
def promiseOnceUptoRow : OpenClaim := { program := "ytfmkjnlelijnoaa", sum := "0c47fcf540727aab97a50b986fc230ea0e1ad57ce2376280433231d212a4a1d3", func := "eddywheel/eddywheellaw16.PromiseOnce", spec := "promiseOnce", apart := false, narrowed := true }
def PromiseOnceUptoSaid : Prop := promiseOnceUptoRow.holds Try.pinned (OpenSpec.upto promiseOnceSpec)

/-- 'eddywheellaw16.PromiseMany', WHERE WHAT IT READS IS OF BULK AT MOST 1048576: true; the input reads as it did. -/
def promiseManyUptoRow : OpenClaim := { program := "ytfmkjnlelijnoaa", sum := "0c47fcf540727aab97a50b986fc230ea0e1ad57ce2376280433231d212a4a1d3", func := "eddywheel/eddywheellaw16.PromiseMany", spec := "promiseMany", apart := false, narrowed := true }
def PromiseManyUptoSaid : Prop := promiseManyUptoRow.holds Try.pinned (OpenSpec.upto promiseManySpec)

/-- 'eddywheellaw16.PromiseApart', WHERE WHAT IT READS IS OF BULK AT MOST 1048576: true; the input reads as it did. -/
def promiseApartUptoRow : OpenClaim := { program := "ytfmkjnlelijnoaa", sum := "0c47fcf540727aab97a50b986fc230ea0e1ad57ce2376280433231d212a4a1d3", func := "eddywheel/eddywheellaw16.PromiseApart", spec := "promiseApart", apart := false, narrowed := true }
def PromiseApartUptoSaid : Prop := promiseApartUptoRow.holds Try.pinned (OpenSpec.upto promiseApartSpec)

/-- 'eddywheellaw16.PromiseNone', WHERE WHAT IT READS IS OF BULK AT MOST 1048576: true; the input reads as it did. -/
def promiseNoneUptoRow : OpenClaim := { program := "ytfmkjnlelijnoaa", sum := "0c47fcf540727aab97a50b986fc230ea0e1ad57ce2376280433231d212a4a1d3", func := "eddywheel/eddywheellaw16.PromiseNone", spec := "promiseNone", apart := false, narrowed := true }
def PromiseNoneUptoSaid : Prop := promiseNoneUptoRow.holds Try.pinned (OpenSpec.upto promiseNoneSpec)

end Rows
end Go.Proofs.Ytfmkjnlelijnoaa
