/- A slice of one's own: a cell of it is set; it is cut short. -/
import Derived.Test.YtipbimbnpikbcaaSlices
namespace Go.Proofs.Ytipbimbnpikbcaa
open Go.RowKit

section
variable {w w' : World} {e : TypeId} {sz n cap g : Nat} {A : Option Addr} {xs : List Value} {G : Option Nat}
theorem Sl.blkOf (h : Sl w e sz A n cap xs (some g)) : ∃ cur : Array Value, A = some ⟨g, 0, none⟩ ∧ w.heap[g]? = some (.cells cur e (0, 0)) ∧ n ≤ cap ∧ cap ≤ maxLen ∧ cur.size = cap * sz ∧ cur.toList.take (n * sz) = xs := by
  have hb := h.blk
  rcases h.own.2 with ⟨hv, _⟩ | ⟨g', c, cur, hv, _, hh, h1, h2, h3, h4⟩
  · rw [hv] at hb
    cases hb
  · injection hv with e1 e2 e3
    subst e1
    subst e3
    have hg : some g' = some g := hb
    injection hg with hg
    subst hg
    exact ⟨cur, rfl, hh, h1, h2, h3, h4⟩
theorem Sl.free (h : Sl w e sz A n cap xs (some g)) (i : Nat) : w.frozen? ⟨g, i, none⟩ = false := by
  obtain ⟨cur, _, hh, _⟩ := h.blkOf
  simp [World.frozen?, hh]
theorem Sl.set (h : Sl w e sz A n cap xs (some g)) (i : Nat) (v : Value) : Sl (w.setCell ⟨g, i, none⟩ v) e sz A n cap (xs.set i v) (some g) := by
  obtain ⟨cur, rfl, hh, h1, h2, h3, h4⟩ := h.blkOf
  refine ⟨⟨by rw [List.length_set]; exact h.own.1, .inr ⟨g, cap, cur.setIfInBounds i v, rfl, Nat.zero_le _, ?_, h1, h2, by rw [Array.size_setIfInBounds]; exact h3, ?_⟩⟩, rfl⟩
  · simp [World.setCell, Array.getElem?_modify, hh]
  · rw [Array.toList_setIfInBounds, List.take_set, h4]
theorem Sl.setT (_h : Sl w e sz A n cap xs (some g)) (i : Nat) (v : Value) : Tch (· = g) w (w.setCell ⟨g, i, none⟩ v) := (Tch.refl (· = g) w).setCell (p := ⟨g, i, none⟩) (fun _ => rfl) _
theorem Sl.less (h : Sl w e sz A n cap xs G) {m : Nat} (hm : m ≤ n) : Sl w e sz A m cap (xs.take (m * sz)) G := by
  refine ⟨⟨?_, ?_⟩, ?_⟩
  · rw [List.length_take, h.own.1]
    exact Nat.min_eq_left (Nat.mul_le_mul_right _ hm)
  · rcases h.own.2 with ⟨hv, h0⟩ | ⟨g', c, cur, hv, hb, hh, h1, h2, h3, h4⟩
    · left
      injection hv with e1 e2 e3
      have : m = 0 := by omega
      subst this
      subst e1
      subst e3
      exact ⟨rfl, rfl⟩
    · right
      injection hv with e1 e2 e3
      subst e1
      subst e3
      refine ⟨g', cap, cur, rfl, hb, hh, by omega, h2, h3, ?_⟩
      rw [← h4, List.take_take, Nat.min_eq_left (Nat.mul_le_mul_right _ hm)]
  · rw [← h.blk]
    cases A <;> rfl
end
end Go.Proofs.Ytipbimbnpikbcaa
