/- A tree of tokens, as plain lists: which one each is below, which are called off. No program in sight. -/
import Derived.Test.YtipbimbnpikbcaaIota
namespace Go.Proofs.Ytipbimbnpikbcaa

/-- The one above. -/
def up (ab : List Int) (j : Nat) : Option Nat := match ab[j]? with
  | some x => if 0 ≤ x then some x.toNat else none
  | none => none
/-- j is c, or below it. -/
inductive Comes (ab : List Int) (c : Nat) : Nat → Prop
  | self : Comes ab c c
  | step {j k : Nat} : up ab j = some k → Comes ab c k → Comes ab c j
/-- Each is below an earlier one, or none. -/
def TreeWf (ab : List Int) : Prop := ∀ (j : Nat) (x : Int), ab[j]? = some x → -1 ≤ x ∧ x < j

section
variable {ab : List Int} {c i j k : Nat}
theorem TreeWf.up (H : TreeWf ab) (h : up ab j = some k) : k < j ∧ j < ab.length ∧ ab[j]? = some (k : Int) := by
  unfold Proofs.Ytipbimbnpikbcaa.up at h
  cases e : ab[j]? with
  | none => rw [e] at h; cases h
  | some x =>
    rw [e] at h
    dsimp only at h
    split at h
    · rename_i h0
      injection h with h
      have := (H j x e).2
      obtain ⟨hl, _⟩ := List.getElem?_eq_some_iff.1 e
      exact ⟨by omega, hl, by congr 1; omega⟩
    · cases h
theorem up_of (h : ab[j]? = some (k : Int)) : up ab j = some k := by
  unfold up
  rw [h]
  dsimp only
  rw [if_pos (by omega)]
  congr 1
theorem up_none (h : ab[j]? = some (-1)) : up ab j = none := by
  unfold up
  rw [h]
  rfl
theorem Comes.le (H : TreeWf ab) (h : Comes ab c j) : c ≤ j := by
  induction h with
  | self => exact Nat.le_refl _
  | step h1 _ ih => have := (H.up h1).1; omega
theorem Comes.trans (h : Comes ab c i) (k : Comes ab i j) : Comes ab c j := by
  induction k with
  | self => exact h
  | step h1 _ ih => exact .step h1 ih
theorem Comes.child (h : up ab j = some c) : Comes ab c j := .step h .self
/-- Two that j is below are in one row. -/
theorem Comes.row (h : Comes ab c j) (h2 : Comes ab k j) : Comes ab c k ∨ Comes ab k c := by
  induction h with
  | self => exact .inr h2
  | step h1 _ ih =>
    cases h2 with
    | self => exact .inl (.step h1 ‹_›)
    | step h3 h4 =>
      rw [h1] at h3
      injection h3 with h3
      subst h3
      exact ih h4
/-- Two that are next below the same one: what is below both makes them one. -/
theorem Comes.same (H : TreeWf ab) {a b : Nat} (ha : up ab a = some i) (hb : up ab b = some i) (h : Comes ab a j) (h2 : Comes ab b j) : a = b := by
  have key : ∀ {a b : Nat}, up ab a = some i → up ab b = some i → Comes ab a b → a = b := by
    intro a b ha hb h
    cases h with
    | self => rfl
    | step h1 h3 =>
      rw [hb] at h1
      injection h1 with h1
      subst h1
      have := h3.le H
      have := (H.up ha).1
      omega
  rcases h.row h2 with h | h
  · exact key ha hb h
  · exact (key hb ha h).symm
/-- What is below it: it, or what is below one that is next below it. -/
theorem Comes.down (h : Comes ab c j) : j = c ∨ ∃ d, up ab d = some c ∧ Comes ab d j := by
  induction h with
  | self => exact .inl rfl
  | @step a b h1 _ ih =>
    rcases ih with rfl | ⟨d, h3, h4⟩
    · exact .inr ⟨a, h1, .self⟩
    · exact .inr ⟨d, h3, .step h1 h4⟩
theorem Comes.lt (H : TreeWf ab) (h : Comes ab c j) (hc : c < ab.length) : j < ab.length := by
  cases h with
  | self => exact hc
  | step h1 _ => exact (H.up h1).2.1
end

/-- With a bound on how far it goes up. -/
def comesB (ab : List Int) (c : Nat) : Nat → Nat → Bool
  | 0, j => j == c
  | f + 1, j => j == c || match up ab j with
    | some k => comesB ab c f k
    | none => false
def comes (ab : List Int) (c j : Nat) : Bool := comesB ab c j j
section
variable {ab : List Int} {c j : Nat}
theorem comesB_of (f : Nat) (h : comesB ab c f j = true) : Comes ab c j := by
  induction f generalizing j with
  | zero =>
    have : j = c := by simpa [comesB] using h
    rw [this]
    exact .self
  | succ f ih =>
    simp only [comesB, Bool.or_eq_true] at h
    rcases h with h | h
    · have : j = c := by simpa using h
      rw [this]
      exact .self
    · split at h
      · rename_i k e
        exact .step e (ih h)
      · cases h
theorem comesB_to (H : TreeWf ab) (f : Nat) (h : Comes ab c j) (hf : j ≤ f) : comesB ab c f j = true := by
  induction f generalizing j with
  | zero =>
    have := h.le H
    have : j = c := by omega
    simp [comesB, this]
  | succ f ih =>
    simp only [comesB, Bool.or_eq_true]
    cases h with
    | self => exact .inl (by simp)
    | step h1 h2 =>
      right
      rw [h1]
      exact ih h2 (by have := (H.up h1).1; omega)
theorem comes_iff (H : TreeWf ab) : comes ab c j = true ↔ Comes ab c j := ⟨comesB_of j, fun h => comesB_to H j h (Nat.le_refl _)⟩
end

/-- A state: which one each is below; which are called off. -/
structure TreeOk (ab : List Int) (off : List Bool) : Prop where
  wf : TreeWf ab
  len : off.length = ab.length
  down : ∀ i j, up ab j = some i → off.getD i false = true → off.getD j false = true
  le : ab.length ≤ 1024
theorem TreeOk.closed {ab : List Int} {off : List Bool} (H : TreeOk ab off) {i j : Nat} (h : Comes ab i j) (ho : off.getD i false = true) : off.getD j false = true := by
  induction h with
  | self => exact ho
  | step h1 _ ih => exact H.down _ _ h1 ih

/-- What Off answers. -/
def toffM (off : List Bool) (id : Int) : Bool := decide (0 ≤ id) && off.getD id.toNat false
/-- What Make answers. -/
def tmakeM (ab : List Int) (off : List Bool) (above : Int) : (List Int × List Bool) × Int × Nat :=
  if above ≠ -1 ∧ ¬ (0 ≤ above ∧ above < ab.length) then ((ab, off), 0, 2)
  else if 1024 ≤ ab.length then ((ab, off), 0, 3)
  else ((ab ++ [above], off ++ [toffM off above]), (ab.length : Int), 0)
/-- Those that are called off by calling off c. -/
def newOff (ab : List Int) (off : List Bool) (c : Nat) : List Nat := (List.range ab.length).filter fun j => comes ab c j && !off.getD j false
def offWith (ab : List Int) (off : List Bool) (c : Nat) : List Bool := (List.range ab.length).map fun j => off.getD j false || comes ab c j
/-- What Cancel answers. -/
def tcancelM (ab : List Int) (off : List Bool) (id : Int) : List Bool × List Int × Nat :=
  if 0 ≤ id ∧ id < ab.length then (offWith ab off id.toNat, (newOff ab off id.toNat).map (fun (j : Nat) => (j : Int)), 0) else (off, [], 2)

theorem offWith_get {ab : List Int} {off : List Bool} {c j : Nat} (hj : j < ab.length) : (offWith ab off c).getD j false = (off.getD j false || comes ab c j) := by
  simp [offWith, List.getD_eq_getElem?_getD, hj]
theorem offWith_ok {ab : List Int} {off : List Bool} (H : TreeOk ab off) (c : Nat) : TreeOk ab (offWith ab off c) := by
  refine ⟨H.wf, by simp [offWith], fun i j h1 h2 => ?_, H.le⟩
  obtain ⟨h3, h4, _⟩ := H.wf.up h1
  rw [offWith_get (by omega), Bool.or_eq_true] at h2
  rw [offWith_get h4, Bool.or_eq_true]
  rcases h2 with h2 | h2
  · exact .inl (H.down i j h1 h2)
  · exact .inr ((comes_iff H.wf).2 (.step h1 ((comes_iff H.wf).1 h2)))
theorem tcancelM_ok {ab : List Int} {off : List Bool} (H : TreeOk ab off) (id : Int) : TreeOk ab (tcancelM ab off id).1 := by
  unfold tcancelM
  split
  · exact offWith_ok H _
  · exact H
theorem tmakeM_ok {ab : List Int} {off : List Bool} (H : TreeOk ab off) (a : Int) : TreeOk (tmakeM ab off a).1.1 (tmakeM ab off a).1.2 := by
  unfold tmakeM
  split
  · exact H
  · rename_i h1
    split
    · exact H
    · rename_i h2
      have hn : a = -1 ∨ (0 ≤ a ∧ a < ab.length) := by
        by_cases e : a = -1
        · exact .inl e
        · right
          by_cases h : 0 ≤ a ∧ a < ab.length
          · exact h
          · exact absurd ⟨e, h⟩ h1
      dsimp only
      have hlt : ∀ j, j < ab.length → (ab ++ [a])[j]? = ab[j]? := fun j hj => List.getElem?_append_left hj
      have hlast : (ab ++ [a])[ab.length]? = some a := by simp
      refine ⟨fun j x hx => ?_, by simp [H.len], fun i j h3 h4 => ?_, by simp; omega⟩
      · by_cases hj : j < ab.length
        · rw [hlt j hj] at hx
          exact H.wf j x hx
        · have hj2 : j < (ab ++ [a]).length := (List.getElem?_eq_some_iff.1 hx).1
          simp at hj2
          have : j = ab.length := by omega
          subst this
          rw [hlast] at hx
          injection hx with hx
          omega
      · by_cases hj : j < ab.length
        · have e : up (ab ++ [a]) j = up ab j := by unfold up; rw [hlt j hj]
          rw [e] at h3
          obtain ⟨h5, h6, _⟩ := H.wf.up h3
          have e2 : ∀ q, q < ab.length → (off ++ [toffM off a]).getD q false = off.getD q false := fun q hq => by
            rw [List.getD_eq_getElem?_getD, List.getD_eq_getElem?_getD, List.getElem?_append_left (by rw [H.len]; exact hq)]
          rw [e2 _ (by omega)] at h4
          rw [e2 _ hj]
          exact H.down i j h3 h4
        · have hx : j < (ab ++ [a]).length := by
            unfold up at h3
            cases e : (ab ++ [a])[j]? with
            | none => rw [e] at h3; cases h3
            | some x => exact (List.getElem?_eq_some_iff.1 e).1
          simp at hx
          have : j = ab.length := by omega
          subst this
          unfold up at h3
          rw [hlast] at h3
          dsimp only at h3
          split at h3
          · rename_i h0
            injection h3 with h3
            have hal : a < ab.length := by omega
            rw [List.getD_eq_getElem?_getD, List.getElem?_append_left (by rw [H.len]; omega), ← List.getD_eq_getElem?_getD] at h4
            rw [List.getD_eq_getElem?_getD, ← H.len, List.getElem?_append_right (Nat.le_refl _)]
            simp [toffM, h0, h3]
            simpa [List.getD_eq_getElem?_getD] using h4
          · cases h3

/-- Rows that grow, of the same members, are the same. -/
theorem rows_same {a b : List Int} (ha : a.Pairwise (· < ·)) (hb : b.Pairwise (· < ·)) (h : ∀ j, j ∈ a ↔ j ∈ b) : a = b := by
  induction a generalizing b with
  | nil =>
    cases b with
    | nil => rfl
    | cons y b => exact absurd ((h y).2 List.mem_cons_self) (by simp)
  | cons x a ih =>
    cases b with
    | nil => exact absurd ((h x).1 List.mem_cons_self) (by simp)
    | cons y b =>
      obtain ⟨hx, ha2⟩ := List.pairwise_cons.1 ha
      obtain ⟨hy, hb2⟩ := List.pairwise_cons.1 hb
      have e : x = y := by
        rcases List.mem_cons.1 ((h x).1 List.mem_cons_self) with e | e
        · exact e
        · rcases List.mem_cons.1 ((h y).2 List.mem_cons_self) with e2 | e2
          · exact e2.symm
          · have := hy x e
            have := hx y e2
            omega
      subst e
      congr 1
      refine ih ha2 hb2 fun j => ?_
      constructor
      · intro hj
        rcases List.mem_cons.1 ((h j).1 (List.mem_cons_of_mem _ hj)) with e | e
        · have := hx j hj
          omega
        · exact e
      · intro hj
        rcases List.mem_cons.1 ((h j).2 (List.mem_cons_of_mem _ hj)) with e | e
        · have := hy j hj
          omega
        · exact e
theorem newOff_inc (ab : List Int) (off : List Bool) (c : Nat) : (newOff ab off c).Pairwise (· < ·) := List.Pairwise.filter _ List.pairwise_lt_range
theorem newOff_mem {ab : List Int} {off : List Bool} (H : TreeWf ab) {c j : Nat} : j ∈ newOff ab off c ↔ j < ab.length ∧ Comes ab c j ∧ off.getD j false = false := by
  simp [newOff, comes_iff H]

/-- Those that are next below one, in order. -/
def belowL (ab : List Int) (i : Nat) : List Int := ((List.range ab.length).filter fun j => decide (up ab j = some i)).map (fun (j : Nat) => (j : Int))
theorem belowL_mem {ab : List Int} {i : Nat} {x : Int} : x ∈ belowL ab i ↔ ∃ j : Nat, x = j ∧ j < ab.length ∧ up ab j = some i := by
  simp only [belowL, List.mem_map, List.mem_filter, List.mem_range, decide_eq_true_eq]
  constructor
  · rintro ⟨j, ⟨h1, h2⟩, rfl⟩
    exact ⟨j, rfl, h1, h2⟩
  · rintro ⟨j, rfl, h1, h2⟩
    exact ⟨j, ⟨h1, h2⟩, rfl⟩
theorem up_snoc (ab : List Int) (a : Int) (j : Nat) (hj : j < ab.length) : up (ab ++ [a]) j = up ab j := by
  unfold up
  rw [List.getElem?_append_left hj]
theorem belowL_snoc (ab : List Int) (a : Int) (i : Nat) : belowL (ab ++ [a]) i = belowL ab i ++ if a = (i : Int) then [(ab.length : Int)] else [] := by
  have e1 : (List.range ab.length).filter (fun j => decide (up (ab ++ [a]) j = some i)) = (List.range ab.length).filter (fun j => decide (up ab j = some i)) :=
    List.filter_congr fun j hj => by rw [up_snoc ab a j (List.mem_range.1 hj)]
  have e2 : (up (ab ++ [a]) ab.length = some i) ↔ a = (i : Int) := by
    unfold up
    rw [List.getElem?_append_right (Nat.le_refl _)]
    simp only [Nat.sub_self, List.getElem?_cons_zero]
    split
    · rename_i h
      constructor
      · intro e
        injection e with e
        omega
      · intro e
        congr 1
        omega
    · rename_i h
      constructor
      · intro e
        cases e
      · intro e
        omega
  simp only [belowL, List.length_append, List.length_singleton, List.range_succ, List.filter_append, List.map_append, e1]
  congr 1
  by_cases h : a = (i : Int)
  · rw [if_pos h]
    simp [e2.2 h]
  · rw [if_neg h]
    simp
    exact fun e => h (e2.1 e)
theorem belowL_le (ab : List Int) (i : Nat) : (belowL ab i).length ≤ ab.length := by
  rw [belowL, List.length_map]
  exact Nat.le_trans (List.length_filter_le _ _) (by simp)

/-- Within a calling off: the mark of each, after some were marked. -/
def Marks (ab : List Int) (off off' : List Bool) (P : Nat → Prop) : Prop := off'.length = off.length ∧ ∀ j, j < ab.length → (off'.getD j false = true ↔ off.getD j false = true ∨ P j)
/-- What was told, of what is in P: those that were not marked. -/
structure ToldOff (off : List Bool) (P : Nat → Prop) (new : List Nat) : Prop where
  nodup : new.Nodup
  mem : ∀ j, j ∈ new ↔ P j ∧ off.getD j false = false
/-- Of what is below c: what is below a marked one is marked. -/
def ClosedAt (ab : List Int) (off : List Bool) (c : Nat) : Prop := ∀ i j, Comes ab c i → Comes ab i j → off.getD i false = true → off.getD j false = true
theorem told_sort {ab : List Int} {off : List Bool} (H : TreeWf ab) {c : Nat} {new : List Nat} (hc : c < ab.length) (h : ToldOff off (Comes ab c) new) :
    (new.map (fun (j : Nat) => (j : Int))).mergeSort (fun x y => decide (x ≤ y)) = (newOff ab off c).map (fun (j : Nat) => (j : Int)) := by
  have hp := List.mergeSort_perm (new.map (fun (j : Nat) => (j : Int))) (fun x y => decide (x ≤ y))
  have hs : ((new.map (fun (j : Nat) => (j : Int))).mergeSort (fun x y => decide (x ≤ y))).Pairwise (fun x y => decide (x ≤ y) = true) :=
    List.pairwise_mergeSort (fun a b c h1 h2 => by simp at *; omega) (fun a b => by simp; omega) _
  have hn : (new.map (fun (j : Nat) => (j : Int))).Nodup := List.pairwise_map.2 (h.nodup.imp (fun {a b} e e2 => e (by omega)))
  refine rows_same ?_ (List.pairwise_map.2 ((newOff_inc ab off c).imp (fun {a b} e => by omega))) fun j => ?_
  · refine (hs.and (hp.nodup_iff.2 hn)).imp ?_
    rintro x y ⟨h1, h2⟩
    simp at h1
    omega
  · rw [hp.mem_iff, List.mem_map, List.mem_map]
    constructor
    · rintro ⟨k, h1, rfl⟩
      obtain ⟨h2, h3⟩ := (h.mem k).1 h1
      exact ⟨k, (newOff_mem H).2 ⟨h2.lt H hc, h2, h3⟩, rfl⟩
    · rintro ⟨k, h1, rfl⟩
      obtain ⟨_, h2, h3⟩ := (newOff_mem H).1 h1
      exact ⟨k, (h.mem k).2 ⟨h2, h3⟩, rfl⟩
end Go.Proofs.Ytipbimbnpikbcaa
