/- A row of acts that came in: a bool and two numbers each. -/
import Derived.Test.YtmmnilckdlkggaaProg
import Derived.Test.YtmmnilckdlkggaaArgs
namespace Go.Proofs.Ytmmnilckdlkggaa
open Go.RowKit Go.Deep

abbrev Ac := Bool × Int × Int
def ac0 : Ac := (false, 0, 0)

theorem acts_of {H : Type} {enc : TypeId × Value → H} {w : World} {base : Nat} {held : Bool} (V : Nat → Nat → Value) (len : Nat)
    (h : ∀ i, i < len → (∃ (n : Nat) (y : DataW H × List MemPlace), DataW.trod enc Try.prog w base (fun _ => true) held n 4 [V i 0] = some y) ∧
      (∃ (n : Nat) (y : DataW H × List MemPlace), DataW.trod enc Try.prog w base (fun _ => true) held n 3 [V i 1] = some y) ∧
      (∃ (n : Nat) (y : DataW H × List MemPlace), DataW.trod enc Try.prog w base (fun _ => true) held n 3 [V i 2] = some y)) :
    ∃ l : List Ac, l.length = len ∧ ∀ i, i < l.length → V i 0 = .bool (l.getD i ac0).1 ∧ V i 1 = .int .i64 (l.getD i ac0).2.1 ∧ V i 2 = .int .i64 (l.getD i ac0).2.2 := by
  have each : ∀ i, i < len → ∃ x : Ac, V i 0 = .bool x.1 ∧ V i 1 = .int .i64 x.2.1 ∧ V i 2 = .int .i64 x.2.2 := by
    intro i hi
    obtain ⟨⟨n1, y1, e1⟩, ⟨n2, y2, e2⟩, ⟨n3, y3, e3⟩⟩ := h i hi
    obtain ⟨b, hb, _⟩ := DataW.trod_bool Try.underlying4 e1
    obtain ⟨x, hx, _⟩ := DataW.trod_int Try.underlying3 e2
    obtain ⟨y, hy, _⟩ := DataW.trod_int Try.underlying3 e3
    simp only [List.cons.injEq, and_true] at hb hx hy
    exact ⟨(b, x, y), hb, hx, hy⟩
  obtain ⟨f, hf⟩ := choose_lt each
  refine ⟨(List.range len).map f, by simp, fun i hi => ?_⟩
  have hi' : i < len := by simpa using hi
  have e : ((List.range len).map f).getD i ac0 = f i := by simp [List.getD_eq_getElem?_getD, hi']
  rw [e]
  exact hf i hi'
end Go.Proofs.Ytmmnilckdlkggaa
