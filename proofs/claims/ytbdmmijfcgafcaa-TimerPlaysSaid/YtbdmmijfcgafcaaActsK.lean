/- A row of acts that came in: a small number (below 256) and two numbers each. -/
import Derived.Test.YtbdmmijfcgafcaaProg
import Derived.Test.YtbdmmijfcgafcaaArgs
namespace Go.Proofs.Ytbdmmijfcgafcaa
open Go.RowKit Go.Deep

abbrev Ak := Nat × Int × Int
def ak0 : Ak := (0, 0, 0)

theorem acts_of {H : Type} {enc : TypeId × Value → H} {w : World} {base : Nat} {held : Bool} (V : Nat → Nat → Value) (len : Nat)
    (h : ∀ i, i < len → (∃ (n : Nat) (y : DataW H × List MemPlace), DataW.trod enc Try.prog w base (fun _ => true) held n 5 [V i 0] = some y) ∧
      (∃ (n : Nat) (y : DataW H × List MemPlace), DataW.trod enc Try.prog w base (fun _ => true) held n 3 [V i 1] = some y) ∧
      (∃ (n : Nat) (y : DataW H × List MemPlace), DataW.trod enc Try.prog w base (fun _ => true) held n 3 [V i 2] = some y)) :
    ∃ l : List Ak, l.length = len ∧ ∀ i, i < l.length → (V i 0 = .int .u8 ((l.getD i ak0).1 : Int) ∧ (l.getD i ak0).1 ≤ 255) ∧ V i 1 = .int .i64 (l.getD i ak0).2.1 ∧ V i 2 = .int .i64 (l.getD i ak0).2.2 := by
  have each : ∀ i, i < len → ∃ x : Ak, (V i 0 = .int .u8 (x.1 : Int) ∧ x.1 ≤ 255) ∧ V i 1 = .int .i64 x.2.1 ∧ V i 2 = .int .i64 x.2.2 := by
    intro i hi
    obtain ⟨⟨n1, y1, e1⟩, ⟨n2, y2, e2⟩, ⟨n3, y3, e3⟩⟩ := h i hi
    obtain ⟨k, hk, _, hw⟩ := DataW.trod_int Try.underlying5 e1
    obtain ⟨x, hx, _⟩ := DataW.trod_int Try.underlying3 e2
    obtain ⟨y, hy, _⟩ := DataW.trod_int Try.underlying3 e3
    simp only [List.cons.injEq, and_true] at hk hx hy
    obtain ⟨a0, a1⟩ := wf_bounds hw
    simp only [IntKind.min, IntKind.max, IntKind.signed, IntKind.bits] at a0 a1
    obtain ⟨m, rfl⟩ := Int.eq_ofNat_of_zero_le (show 0 ≤ k by simpa using a0)
    exact ⟨(m, x, y), ⟨hk, by simp at a1; omega⟩, hx, hy⟩
  obtain ⟨f, hf⟩ := choose_lt each
  refine ⟨(List.range len).map f, by simp, fun i hi => ?_⟩
  have hi' : i < len := by simpa using hi
  have e : ((List.range len).map f).getD i ak0 = f i := by simp [List.getD_eq_getElem?_getD, hi']
  rw [e]
  exact hf i hi'
end Go.Proofs.Ytbdmmijfcgafcaa
