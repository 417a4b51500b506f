/- Ranging over a map that nobody writes meanwhile. -/
import Derived.Test.YtbhplnkcnmlbnaaMaps
import Derived.Maps.RangeWalk
namespace Go.Proofs.Ytbhplnkcnmlbnaa
open Go.RowKit

/-- At block it: a walk over the map r of n entries, those of the numbers 'seen' having come. -/
def RangeAt (w : World) (it r n : Nat) (seen : List Nat) : Prop := w.heap[it]? = some (.mapIter (some r) n seen.toArray n)

theorem RangeAt.lt {w : World} {it r n : Nat} {seen : List Nat} (h : RangeAt w it r n seen) : it < w.heap.size := (Array.getElem?_eq_some_iff.1 h).1
theorem RangeAt.keep {w w' : World} {it r n : Nat} {seen : List Nat} {S : Nat → Prop} (h : RangeAt w it r n seen) (ht : Tch S w w') (hi : ¬ S it) : RangeAt w' it r n seen := (ht.block it h.lt hi).trans h

/-- How many are still to come. -/
def left (n : Nat) (seen : List Nat) : Nat := ((List.range n).filter fun i => !seen.contains i).length
theorem left_lt {n i : Nat} {seen : List Nat} (hi : i < n) (hs : i ∉ seen) : left n (seen ++ [i]) < left n seen := by
  unfold left
  have h1 : (List.range n).filter (fun j => !(seen ++ [i]).contains j) = ((List.range n).filter fun j => !seen.contains j).filter fun j => !(j == i) := by
    rw [List.filter_filter]
    apply List.filter_congr
    intro j _
    rw [Bool.eq_iff_iff]
    simp
    constructor
    · rintro ⟨h1, h2⟩
      exact ⟨h2, h1⟩
    · rintro ⟨h1, h2⟩
      exact ⟨h2, h1⟩
  rw [h1]
  apply List.length_filter_lt_length_iff_exists.2
  exact ⟨i, by simp [hi, hs], by simp⟩
def leftAt (w : World) (it : Nat) : Nat := match w.heap[it]? with | some (.mapIter _ n seen _) => left n seen.toList | _ => 0
theorem leftAt_eq {w : World} {it r n : Nat} {seen : List Nat} (h : RangeAt w it r n seen) : leftAt w it = left n seen := by
  unfold leftAt
  unfold RangeAt at h
  rw [h]

section
variable {P : Program} {ops : Array Oper} {rest : List Oper} {o : Oper} {a : Act} {Q : Exit → Act → World → Prop} {w : World}

theorem wpList_rng (hg : o.guard = none) (m : Operand) (T K E : TypeId) (hop : o.op = Op.range T m) (hT : P.underlying T = some (.map K E)) (r : Nat) (D : List (Value × Value)) (hm : a.eval m = .map (some r)) (h : MapAt w r D)
    (hK : RangeAt (w.alloc (.mapIter (some r) D.length #[] D.length)) w.heap.size r D.length [] → wpList P ops Q rest (a.put o.dst (.pointer (some ⟨w.heap.size, 0, none⟩))) (w.alloc (.mapIter (some r) D.length #[] D.length))) :
    wpList P ops Q (o :: rest) a w := by
  obtain ⟨es, hh, he, _⟩ := h
  have hl : es.size = D.length := by
    have := congrArg List.length he
    simpa using this
  refine wpList_plain hg fun K' hK' => ?_
  have hrun : (Instr.range T (.map (some r))).run P w = .ok (.pointer (some ⟨w.heap.size, 0, none⟩)) (w.alloc (.mapIter (some r) D.length #[] D.length)) := by
    simp [Instr.range, run_underlying hT, getObj, newObj, Sem.run, hh, hl]
  unfold Oper.wp
  simp [execOp, hop, hm, hrun, Result.andThen]
  exact hK' _ _ (hK (heap_alloc_new w _))

theorem wpList_nxt (hg : o.guard = none) (it : Operand) (hop : o.op = Op.next it false) (r i0 : Nat) (D : List (Value × Value)) (seen : List Nat) (hit : a.eval it = .pointer (some ⟨i0, 0, none⟩)) (hm : MapAt w r D) (h : RangeAt w i0 r D.length seen) (hne : i0 ≠ r)
    (hDone : (∀ i, i < D.length → i ∈ seen) → wpList P ops Q rest (a.put o.dst (.tuple #[.bool false])) w)
    (hMore : ∀ (i : Nat) (p : Value × Value) (w' : World), i < D.length → i ∉ seen → D[i]? = some p → RangeAt w' i0 r D.length (seen ++ [i]) → Tch (· = i0) w w' → w'.heap.size = w.heap.size →
      (Instr.entry (.pointer (some ⟨i0, 0, none⟩))).run P w' = .ok (.tuple #[p.1, p.2]) w' → wpList P ops Q rest (a.put o.dst (.tuple #[.bool true, p.1, p.2])) w') :
    wpList P ops Q (o :: rest) a w := by
  obtain ⟨es, hh, he, hb⟩ := hm
  have hl : es.size = D.length := by
    have := congrArg List.length he
    simpa using this
  unfold RangeAt at h
  rw [← hl] at h
  have hmem : ∀ e ∈ es, ∃ i, i < es.size ∧ es.toList[i]? = some e ∧ e.born = i := by
    intro e hm
    obtain ⟨i, hi, hie⟩ := List.mem_iff_getElem.1 (Array.mem_toList_iff.2 hm)
    have h1 : es.toList[i]? = some e := by rw [List.getElem?_eq_getElem hi, hie]
    exact ⟨i, by simpa using hi, h1, hb i e h1⟩
  have hall : (!seen.toArray.isEmpty && !es.isEmpty && es.all (fun e => decide (e.born ≥ es.size))) = false := by
    rw [Bool.and_eq_false_iff]
    by_cases h0 : es.size = 0
    · left
      rw [Bool.and_eq_false_iff]
      right
      simp [Array.isEmpty, h0]
    · right
      rw [Array.all_eq_false]
      refine ⟨0, by omega, ?_⟩
      obtain ⟨k, hk, _, hbk⟩ := hmem (es[0]'(by omega)) (Array.getElem_mem _)
      rw [hbk]
      simp
      exact hk
  have hold : (es.filter fun e => !seen.toArray.contains e.born).filter (fun e => decide (e.born < es.size)) = es.filter fun e => !seen.toArray.contains e.born := by
    rw [Array.filter_eq_self]
    intro e hm
    obtain ⟨k, hk, _, hbk⟩ := hmem e (Array.mem_filter.1 hm).1
    simp [hbk, hk]
  have hnew : (es.filter fun e => !seen.toArray.contains e.born).filter (fun e => decide (e.born ≥ es.size)) = #[] := by
    rw [Array.filter_eq_empty_iff]
    intro e hm
    obtain ⟨k, hk, _, hbk⟩ := hmem e (Array.mem_filter.1 hm).1
    simp [hbk, hk]
  obtain ⟨L, hL⟩ : ∃ L, (es.filter fun e => !seen.toArray.contains e.born) = L := ⟨_, rfl⟩
  have hLm : ∀ e, e ∈ L ↔ e ∈ es ∧ e.born ∉ seen := by
    intro e
    rw [← hL, Array.mem_filter]
    simp
  rw [hL] at hold hnew
  refine wpList_plain hg fun K' hK' => ?_
  unfold Oper.wp
  by_cases hemp : L = #[]
  · have hrun : (Instr.next (.pointer (some ⟨i0, 0, none⟩)) false o.type).run P w = .ok (.tuple #[.bool false]) w := by
      simp only [Instr.next, Sem.run_bind, getObj, Sem.run, h, hh, Result.andThen_ok, hall, hL, hemp]
      simp [choose, Sem.run, Question.forced]
    simp [execOp, hop, hit, hrun, Result.andThen]
    refine hK' _ _ (hDone fun i hi => ?_)
    by_cases hc : i ∈ seen
    · exact hc
    · exfalso
      have hi' : i < es.toList.length := by simpa [hl] using hi
      have h1 : es.toList[i]? = some es.toList[i] := List.getElem?_eq_getElem hi'
      have h2 : es.toList[i] ∈ L := (hLm _).2 ⟨Array.mem_toList_iff.1 (List.getElem_mem hi'), by rw [hb i _ h1]; exact hc⟩
      rw [hemp] at h2
      simp at h2
  · have hpos : 0 < L.size := by
      rcases Nat.eq_zero_or_pos L.size with h0 | h0
      · exact absurd (Array.eq_empty_of_size_eq_zero h0) hemp
      · exact h0
    have hne0 : L.isEmpty = false := by simpa using hemp
    obtain ⟨j, w1, hj, hw1, hch⟩ : ∃ j w1, j < L.size ∧ (w1 = w ∨ w1 = w.drew) ∧ (choose (.mapNext L.size)).run P w = .ok j w1 := by
      by_cases hf : L.size ≤ 1
      · exact ⟨0, w, hpos, .inl rfl, by simp [choose, Sem.run, Question.forced, hf]⟩
      · exact ⟨_, w.drew, Nat.mod_lt (w.tape w.drawn (.mapNext L.size)) hpos, .inr rfl, by simp [choose, Sem.run, Question.forced, hf, Question.cut]⟩
    have hheap : w1.heap = w.heap := by rcases hw1 with rfl | rfl <;> rfl
    have hT1 : Tch (· = i0) w w1 := by
      rcases hw1 with rfl | rfl
      · exact Tch.refl _ _
      · exact (Tch.refl _ _).drew
    have hLj : L[j]? = some L[j] := Array.getElem?_eq_getElem hj
    obtain ⟨e, hej⟩ : ∃ e, L[j] = e := ⟨_, rfl⟩
    rw [hej] at hLj
    have heL : e ∈ L := hej ▸ Array.getElem_mem hj
    obtain ⟨hees, hens⟩ := (hLm e).1 heL
    obtain ⟨i, hi, hie, hbi⟩ := hmem e hees
    have h1 : w1.heap[i0]? = some (.mapIter (some r) es.size seen.toArray es.size) := by rw [hheap]; exact h
    have hlt : i0 < w1.heap.size := (Array.getElem?_eq_some_iff.1 h1).1
    have hrun : (Instr.next (.pointer (some ⟨i0, 0, none⟩)) false o.type).run P w = .ok (.tuple #[.bool true, e.key, e.val]) { w1 with heap := w1.heap.setIfInBounds i0 (.mapIter (some r) es.size (seen.toArray.push e.born) es.size) } := by
      simp only [Instr.next, Sem.run_bind, getObj, Sem.run, h, hh, Result.andThen_ok, hall, hL, hold, hnew, hne0]
      simp only [Bool.false_eq_true, if_false, Array.append_empty, Array.empty_append, Array.size_map, Sem.run_bind, hch, Result.andThen_ok, Array.getElem?_map, hLj, Option.map_some]
      simp [setObj, Sem.run, h1]
    simp [execOp, hop, hit, hrun, Result.andThen]
    have hDi : D[i]? = some (e.key, e.val) := by rw [← he, List.getElem?_map, hie]; rfl
    have hset : ({ w1 with heap := w1.heap.setIfInBounds i0 (.mapIter (some r) es.size (seen.toArray.push e.born) es.size) } : World).heap[i0]? = some (.mapIter (some r) es.size (seen.toArray.push e.born) es.size) := by
      show (w1.heap.setIfInBounds i0 _)[i0]? = _
      rw [Array.getElem?_setIfInBounds]
      simp [hlt]
    have hmap : ({ w1 with heap := w1.heap.setIfInBounds i0 (.mapIter (some r) es.size (seen.toArray.push e.born) es.size) } : World).heap[r]? = some (.map es es.size) := by
      show (w1.heap.setIfInBounds i0 _)[r]? = _
      rw [Array.getElem?_setIfInBounds]
      simp [hne, hheap, hh]
    have hpush : seen.toArray.push e.born = (seen ++ [e.born]).toArray := by simp
    rw [hpush] at hset hmap
    refine hK' _ _ (hMore i (e.key, e.val) _ (by rw [← hl]; exact hi) (by rw [← hbi]; exact hens) hDi ?_ ?_ ?_ ?_)
    · unfold RangeAt
      rw [hset, hl, hbi]
    · refine hT1.trans ⟨rfl, rfl, rfl, by simp, fun k hk hS => ?_⟩
      show (w1.heap.setIfInBounds i0 _)[k]? = _
      rw [Array.getElem?_setIfInBounds]
      simp [Ne.symm hS]
    · simp [hheap]
    · have hfind : es.find? (fun x => x.born == e.born) = some e := by
        cases hf : es.find? (fun x => x.born == e.born) with
        | none =>
          have := Array.find?_eq_none.1 hf e hees
          simp at this
        | some e' =>
          have hp := Array.find?_some hf
          have hm' := Array.mem_of_find?_eq_some hf
          obtain ⟨i', _, hie', hbi'⟩ := hmem e' hm'
          have : i' = i := by
            have : e'.born = e.born := by simpa using hp
            omega
          subst this
          rw [hie] at hie'
          exact hie'.symm
      generalize ({ w1 with heap := w1.heap.setIfInBounds i0 (.mapIter (some r) es.size (seen ++ [e.born]).toArray es.size) } : World) = wz at hset hmap ⊢
      simp only [Instr.entry, Sem.run_bind, getObj, Sem.run, hset, Result.andThen_ok]
      simp [Sem.run, hmap, hfind]

end
end Go.Proofs.Ytbhplnkcnmlbnaa
