/- Calling off, as a plain law: one by one, going down. No program in sight. -/
import Derived.Test.YtipbimbnpikbcaaTree
namespace Go.Proofs.Ytipbimbnpikbcaa

/-- Of what is below i: i itself, and what is below the first m that are next below it. -/
def OffTo (ab : List Int) (i m j : Nat) : Prop := j = i ∨ ∃ c : Nat, (c : Int) ∈ (belowL ab i).take m ∧ Comes ab c j

theorem belowL_inc (ab : List Int) (i : Nat) : (belowL ab i).Pairwise (· < ·) :=
  List.pairwise_map.2 ((List.Pairwise.filter _ List.pairwise_lt_range).imp (fun {a b} e => by omega))
section
variable {ab : List Int} {os os' os'' : List Bool} {i j m c : Nat} {new new2 : List Nat}
theorem offTo_take (hm : m < (belowL ab i).length) (hc : (belowL ab i).getD m 0 = (c : Int)) : OffTo ab i (m + 1) j ↔ OffTo ab i m j ∨ Comes ab c j := by
  have e : (belowL ab i).take (m + 1) = (belowL ab i).take m ++ [(c : Int)] := by rw [take_snoc _ _ hm, hc]
  unfold OffTo
  rw [e]
  constructor
  · rintro (h | ⟨d, h1, h2⟩)
    · exact .inl (.inl h)
    · rcases List.mem_append.1 h1 with h | h
      · exact .inl (.inr ⟨d, h, h2⟩)
      · have := List.mem_singleton.1 h
        obtain rfl : d = c := by omega
        exact .inr h2
  · rintro ((h | ⟨d, h1, h2⟩) | h)
    · exact .inl h
    · exact .inr ⟨d, List.mem_append_left _ h1, h2⟩
    · exact .inr ⟨c, List.mem_append_right _ (List.mem_singleton.2 rfl), h⟩
theorem child_up (hm : m < (belowL ab i).length) (hc : (belowL ab i).getD m 0 = (c : Int)) : up ab c = some i := by
  have h1 : (c : Int) ∈ belowL ab i := by
    rw [← hc, List.getD_eq_getElem?_getD, List.getElem?_eq_getElem hm]
    exact List.getElem_mem _
  obtain ⟨j, e, _, h⟩ := belowL_mem.1 h1
  obtain rfl : c = j := by omega
  exact h
theorem child_of (hm : m < (belowL ab i).length) : ∃ c : Nat, (belowL ab i).getD m 0 = (c : Int) := by
  have h1 : (belowL ab i).getD m 0 ∈ belowL ab i := by
    rw [List.getD_eq_getElem?_getD, List.getElem?_eq_getElem hm]
    exact List.getElem_mem _
  obtain ⟨j, e, _, _⟩ := belowL_mem.1 h1
  exact ⟨j, e⟩
/-- What is below the child is not reached by what was before. -/
theorem offTo_not (H : TreeWf ab) (hm : m < (belowL ab i).length) (hc : (belowL ab i).getD m 0 = (c : Int)) (h : Comes ab c j) : ¬ OffTo ab i m j := by
  have hu := child_up hm hc
  rintro (rfl | ⟨d, h1, h2⟩)
  · have := h.le H
    have := (H.up hu).1
    omega
  · obtain ⟨d', e, _, hd⟩ := belowL_mem.1 (List.mem_of_mem_take h1)
    obtain rfl : d = d' := by omega
    have := h2.same H hd hu h
    subst this
    obtain ⟨k, hk, e2⟩ := List.mem_iff_getElem.1 h1
    have hk2 : k < m := by rw [List.length_take] at hk; omega
    rw [List.getElem_take] at e2
    have h3 := List.pairwise_iff_getElem.1 (belowL_inc ab i) k m (by omega) hm hk2
    rw [List.getD_eq_getElem?_getD, List.getElem?_eq_getElem hm] at hc
    simp at hc
    omega
theorem marks_start (hi : i < os.length) : Marks ab os (os.set i true) (OffTo ab i 0) := by
  refine ⟨by simp, fun j hj => ?_⟩
  unfold OffTo
  by_cases e : j = i
  · subst e
    simp [List.getD_eq_getElem?_getD, hi]
  · simp [List.getD_eq_getElem?_getD, Ne.symm e, e]
theorem told_start (ho : os.getD i false = false) : ToldOff os (OffTo ab i 0) [i] := by
  refine ⟨by simp, fun j => ?_⟩
  unfold OffTo
  constructor
  · intro h
    have := List.mem_singleton.1 h
    subst this
    exact ⟨.inl rfl, ho⟩
  · rintro ⟨h | ⟨d, h1, _⟩, _⟩
    · exact List.mem_singleton.2 h
    · simp at h1
theorem closed_child (H : TreeWf ab) (hC : ClosedAt ab os i) (hm : m < (belowL ab i).length) (hc : (belowL ab i).getD m 0 = (c : Int)) (hM : Marks ab os os' (OffTo ab i m)) : ClosedAt ab os' c := by
  intro p q h1 h2 h3
  have hu := child_up hm hc
  have hcl := (H.up hu).2.1
  have hpl := h1.lt H hcl
  have hql := h2.lt H hpl
  rw [hM.2 p hpl] at h3
  rcases h3 with h3 | h3
  · exact (hM.2 q hql).2 (.inl (hC p q ((Comes.child hu).trans h1) h2 h3))
  · exact absurd h3 (offTo_not H hm hc h1)
theorem marks_child (hm : m < (belowL ab i).length) (hc : (belowL ab i).getD m 0 = (c : Int)) (hM : Marks ab os os' (OffTo ab i m)) (hM2 : Marks ab os' os'' (Comes ab c)) : Marks ab os os'' (OffTo ab i (m + 1)) := by
  refine ⟨hM2.1.trans hM.1, fun j hj => ?_⟩
  rw [hM2.2 j hj, hM.2 j hj, offTo_take hm hc, or_assoc]
theorem told_child (H : TreeWf ab) (hm : m < (belowL ab i).length) (hc : (belowL ab i).getD m 0 = (c : Int)) (hM : Marks ab os os' (OffTo ab i m)) (hT : ToldOff os (OffTo ab i m) new) (hT2 : ToldOff os' (Comes ab c) new2) : ToldOff os (OffTo ab i (m + 1)) (new ++ new2) := by
  have hcl := (H.up (child_up hm hc)).2.1
  have key : ∀ j, Comes ab c j → (os'.getD j false = false ↔ os.getD j false = false) := fun j h => by
    have h1 := hM.2 j (h.lt H hcl)
    have h2 := offTo_not H hm hc h
    cases e : os.getD j false <;> cases e' : os'.getD j false <;> simp_all
  refine ⟨List.nodup_append.2 ⟨hT.nodup, hT2.nodup, fun a ha b hb e => ?_⟩, fun j => ?_⟩
  · subst e
    exact offTo_not H hm hc ((hT2.mem a).1 hb).1 ((hT.mem a).1 ha).1
  · rw [List.mem_append, hT.mem, hT2.mem, offTo_take hm hc]
    constructor
    · rintro (⟨h1, h2⟩ | ⟨h1, h2⟩)
      · exact ⟨.inl h1, h2⟩
      · exact ⟨.inr h1, (key j h1).1 h2⟩
    · rintro ⟨h1 | h1, h2⟩
      · exact .inl ⟨h1, h2⟩
      · exact .inr ⟨h1, (key j h1).2 h2⟩
theorem offTo_all : OffTo ab i (belowL ab i).length j ↔ Comes ab i j := by
  unfold OffTo
  rw [List.take_length]
  constructor
  · rintro (rfl | ⟨d, h1, h2⟩)
    · exact .self
    · obtain ⟨d', e, _, hd⟩ := belowL_mem.1 h1
      obtain rfl : d = d' := by omega
      exact (Comes.child hd).trans h2
  · intro h
    rcases h.down with h | ⟨d, h1, h2⟩
    · exact .inl h
    · refine .inr ⟨d, belowL_mem.2 ⟨d, rfl, ?_, h1⟩, h2⟩
      unfold up at h1
      cases e : ab[d]? with
      | none => rw [e] at h1; cases h1
      | some x => exact (List.getElem?_eq_some_iff.1 e).1
theorem marks_done (h : Marks ab os os' (OffTo ab i (belowL ab i).length)) : Marks ab os os' (Comes ab i) := ⟨h.1, fun j hj => by rw [h.2 j hj, offTo_all]⟩
theorem told_done (h : ToldOff os (OffTo ab i (belowL ab i).length) new) : ToldOff os (Comes ab i) new := ⟨h.nodup, fun j => by rw [h.mem, offTo_all]⟩
theorem marks_none (hC : ClosedAt ab os i) (ho : os.getD i false = true) : Marks ab os os (Comes ab i) := by
  refine ⟨rfl, fun j hj => ⟨.inl, fun h => h.elim (fun e => e) (fun h => hC i j .self h ho)⟩⟩
theorem told_none (hC : ClosedAt ab os i) (ho : os.getD i false = true) : ToldOff os (Comes ab i) [] := by
  refine ⟨List.nodup_nil, fun j => ⟨fun h => by simp at h, fun h => ?_⟩⟩
  have := hC i j .self h.1 ho
  rw [h.2] at this
  cases this
/-- The marks behind a calling off. -/
theorem marks_with {off : List Bool} (H : TreeWf ab) (hl : off.length = ab.length) (h : Marks ab off os' (Comes ab i)) : os' = offWith ab off i := by
  apply List.ext_getElem?
  intro j
  by_cases hj : j < ab.length
  · have h1 := h.2 j hj
    have e1 := offWith_get (ab := ab) (off := off) (c := i) hj
    have hl1 : j < os'.length := by rw [h.1]; omega
    have hl2 : j < (offWith ab off i).length := by simp [offWith]; exact hj
    rw [List.getD_eq_getElem?_getD, List.getElem?_eq_getElem hl2] at e1
    rw [List.getD_eq_getElem?_getD, List.getElem?_eq_getElem hl1, ← comes_iff H] at h1
    rw [List.getElem?_eq_getElem hl1, List.getElem?_eq_getElem hl2]
    simp only [Option.getD_some] at e1 h1
    rw [e1]
    congr 1
    rw [Bool.eq_iff_iff, h1, Bool.or_eq_true]
  · rw [List.getElem?_eq_none (by rw [h.1]; omega), List.getElem?_eq_none (by simp [offWith]; omega)]
end
end Go.Proofs.Ytipbimbnpikbcaa
