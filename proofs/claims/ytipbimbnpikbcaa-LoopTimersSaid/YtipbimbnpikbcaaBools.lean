/- Rows of bools that the program makes. -/
import Derived.Test.YtipbimbnpikbcaaProg
import Derived.Test.YtipbimbnpikbcaaSlSet
import Derived.OwnWalk
namespace Go.Proofs.Ytipbimbnpikbcaa
open Go.RowKit

def bools (l : List Bool) : List Value := l.map fun x => .bool x
theorem bools_length (l : List Bool) : (bools l).length = l.length := by simp [bools]
theorem bools_get (l : List Bool) (k : Nat) (h : k < l.length) : (bools l)[k]? = some (.bool (l.getD k false)) := by simp [bools, List.getD_eq_getElem?_getD, h]
theorem bools_set (l : List Bool) (k : Nat) (x : Bool) : (bools l).set k (.bool x) = bools (l.set k x) := by simp [bools, List.map_set]
theorem infoBool : (Try.prog.info? 4).map (fun i => (i.zero, i.size, i.bytes)) = some (some (.bool false), 1, 1) := by kernel_rfl
theorem bools_set_get (l : List Bool) (k j : Nat) (x : Bool) (hj : j < l.length) : (l.set k x).getD j false = if j = k then x else l.getD j false := by
  by_cases e : j = k
  · subst e
    simp [List.getD_eq_getElem?_getD, hj]
  · rw [if_neg e]
    simp [List.getD_eq_getElem?_getD, Ne.symm e]

/-- 'make([]T, n)' of elements of one cell. -/
theorem wpList_mk {P : Program} {w : World} {ops : Array Oper} {rest : List Oper} {o : Oper} {a : Act} {Q : Exit → Act → World → Prop}
    (hg : o.guard = none) (l c : Operand) (t : TypeId) (hop : o.op = Op.makeSlice t l c)
    (e : TypeId) (z : Value) (bytes : Nat) (h1 : P.underlying t = some (.slice e)) (hinfo : (P.info? e).map (fun i => (i.zero, i.size, i.bytes)) = some (some z, 1, bytes)) (hz : z.cells = #[z])
    (n : Nat) (hl : a.eval l = .int .i64 n) (hc : a.eval c = .int .i64 n) (b2 : bytes * n ≤ 281474976710656) (b3 : n ≤ 9223372036854775807)
    (hK : ∀ w', Sl w' e 1 (some ⟨w.heap.size, 0, none⟩) n n (List.replicate n z) (some w.heap.size) → Tch NoBlk w w' → wpList P ops Q rest (a.put o.dst (.slice (some ⟨w.heap.size, 0, none⟩) n n)) w') : wpList P ops Q (o :: rest) a w := by
  obtain ⟨i, hi, hzz⟩ := Option.map_eq_some_iff.1 hinfo
  simp only [Prod.mk.injEq] at hzz
  obtain ⟨hz0, hz1, hz2⟩ := hzz
  refine wpList_make_full w hg l c t hop 0 e i z 1 h1 hi hz0 hz1 .i64 .i64 n n n hl hc rfl rfl (by rw [hz2]; exact b2) (by unfold maxLen; omega) (Nat.zero_le _) fun w' ho hgr => hK w' ⟨?_, rfl⟩ ?_
  · rw [hz, Nat.mul_one, toList_madeCells_one] at ho
    exact ho
  · exact (Tch.refl NoBlk w).grown hgr (fun k e => by cases e)
end Go.Proofs.Ytipbimbnpikbcaa
