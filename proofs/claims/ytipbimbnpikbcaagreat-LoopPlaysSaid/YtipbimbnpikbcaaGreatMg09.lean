import Derived.Test.YtipbimbnpikbcaaGreatMg03
import Derived.Test.YtipbimbnpikbcaaGreatMg04
import Derived.Test.YtipbimbnpikbcaaGreatMg08
/- A tree of tokens, as plain lists: which one each is below, which are called off. No program in sight. -/
namespace Go.Proofs.YtipbimbnpikbcaaGreat

/-- The one above. -/
def up (ab : List Int) (j : Nat) : Option Nat := match ab[j]? with
  | some x => if 0 ≤ x then some x.toNat else none
  | none => none
/-- j is c, or below it. -/
inductive Comes (ab : List Int) (c : Nat) : Nat → Prop
  | self : Comes ab c c
  | step {j k : Nat} : up ab j = some k → Comes ab c k → Comes ab c j
/-- Each is below an earlier one, or none. -/
def TreeWf (ab : List Int) : Prop := ∀ (j : Nat) (x : Int), ab[j]? = some x → -1 ≤ x ∧ x < j

section
variable {ab : List Int} {c i j k : Nat}
theorem TreeWf.up (H : TreeWf ab) (h : up ab j = some k) : k < j ∧ j < ab.length ∧ ab[j]? = some (k : Int) := by
  unfold Proofs.YtipbimbnpikbcaaGreat.up at h
  cases e : ab[j]? with
  | none => rw [e] at h; cases h
  | some x =>
    rw [e] at h
    dsimp only at h
    split at h
    · rename_i h0
      injection h with h
      have := (H j x e).2
      obtain ⟨hl, _⟩ := List.getElem?_eq_some_iff.1 e
      exact ⟨by omega, hl, by congr 1; omega⟩
    · cases h
theorem up_of (h : ab[j]? = some (k : Int)) : up ab j = some k := by
  unfold up
  rw [h]
  dsimp only
  rw [if_pos (by omega)]
  congr 1
theorem up_none (h : ab[j]? = some (-1)) : up ab j = none := by
  unfold up
  rw [h]
  rfl
theorem Comes.le (H : TreeWf ab) (h : Comes ab c j) : c ≤ j := by
  induction h with
  | self => exact Nat.le_refl _
  | step h1 _ ih => have := (H.up h1).1; omega
theorem Comes.trans (h : Comes ab c i) (k : Comes ab i j) : Comes ab c j := by
  induction k with
  | self => exact h
  | step h1 _ ih => exact .step h1 ih
theorem Comes.child (h : up ab j = some c) : Comes ab c j := .step h .self
/-- Two that j is below are in one row. -/
theorem Comes.row (h : Comes ab c j) (h2 : Comes ab k j) : Comes ab c k ∨ Comes ab k c := by
  induction h with
  | self => exact .inr h2
  | step h1 _ ih =>
    cases h2 with
    | self => exact .inl (.step h1 ‹_›)
    | step h3 h4 =>
      rw [h1] at h3
      injection h3 with h3
      subst h3
      exact ih h4
/-- Two that are next below the same one: what is below both makes them one. -/
theorem Comes.same (H : TreeWf ab) {a b : Nat} (ha : up ab a = some i) (hb : up ab b = some i) (h : Comes ab a j) (h2 : Comes ab b j) : a = b := by
  have key : ∀ {a b : Nat}, up ab a = some i → up ab b = some i → Comes ab a b → a = b := by
    intro a b ha hb h
    cases h with
    | self => rfl
    | step h1 h3 =>
      rw [hb] at h1
      injection h1 with h1
      subst h1
      have := h3.le H
      have := (H.up ha).1
      omega
  rcases h.row h2 with h | h
  · exact key ha hb h
  · exact (key hb ha h).symm
/-- What is below it: it, or what is below one that is next below it. -/
theorem Comes.down (h : Comes ab c j) : j = c ∨ ∃ d, up ab d = some c ∧ Comes ab d j := by
  induction h with
  | self => exact .inl rfl
  | @step a b h1 _ ih =>
    rcases ih with rfl | ⟨d, h3, h4⟩
    · exact .inr ⟨a, h1, .self⟩
    · exact .inr ⟨d, h3, .step h1 h4⟩
theorem Comes.lt (H : TreeWf ab) (h : Comes ab c j) (hc : c < ab.length) : j < ab.length := by
  cases h with
  | self => exact hc
  | step h1 _ => exact (H.up h1).2.1
end

/-- With a bound on how far it goes up. -/
def comesB (ab : List Int) (c : Nat) : Nat → Nat → Bool
  | 0, j => j == c
  | f + 1, j => j == c || match up ab j with
    | some k => comesB ab c f k
    | none => false
def comes (ab : List Int) (c j : Nat) : Bool := comesB ab c j j
section
variable {ab : List Int} {c j : Nat}
theorem comesB_of (f : Nat) (h : comesB ab c f j = true) : Comes ab c j := by
  induction f generalizing j with
  | zero =>
    have : j = c := by simpa [comesB] using h
    rw [this]
    exact .self
  | succ f ih =>
    simp only [comesB, Bool.or_eq_true] at h
    rcases h with h | h
    · have : j = c := by simpa using h
      rw [this]
      exact .self
    · split at h
      · rename_i k e
        exact .step e (ih h)
      · cases h
theorem comesB_to (H : TreeWf ab) (f : Nat) (h : Comes ab c j) (hf : j ≤ f) : comesB ab c f j = true := by
  induction f generalizing j with
  | zero =>
    have := h.le H
    have : j = c := by omega
    simp [comesB, this]
  | succ f ih =>
    simp only [comesB, Bool.or_eq_true]
    cases h with
    | self => exact .inl (by simp)
    | step h1 h2 =>
      right
      rw [h1]
      exact ih h2 (by have := (H.up h1).1; omega)
theorem comes_iff (H : TreeWf ab) : comes ab c j = true ↔ Comes ab c j := ⟨comesB_of j, fun h => comesB_to H j h (Nat.le_refl _)⟩
end

/-- A state: which one each is below; which are called off. -/
structure TreeOk (ab : List Int) (off : List Bool) : Prop where
  wf : TreeWf ab
  len : off.length = ab.length
  down : ∀ i j, up ab j = some i → off.getD i false = true → off.getD j false = true
  le : ab.length ≤ 1024
theorem TreeOk.closed {ab : List Int} {off : List Bool} (H : TreeOk ab off) {i j : Nat} (h : Comes ab i j) (ho : off.getD i false = true) : off.getD j false = true := by
  induction h with
  | self => exact ho
  | step h1 _ ih => exact H.down _ _ h1 ih

/-- What Off answers. -/
def toffM (off : List Bool) (id : Int) : Bool := decide (0 ≤ id) && off.getD id.toNat false
/-- What Make answers. -/
def tmakeM (ab : List Int) (off : List Bool) (above : Int) : (List Int × List Bool) × Int × Nat :=
  if above ≠ -1 ∧ ¬ (0 ≤ above ∧ above < ab.length) then ((ab, off), 0, 2)
  else if 1024 ≤ ab.length then ((ab, off), 0, 3)
  else ((ab ++ [above], off ++ [toffM off above]), (ab.length : Int), 0)
/-- Those that are called off by calling off c. -/
def newOff (ab : List Int) (off : List Bool) (c : Nat) : List Nat := (List.range ab.length).filter fun j => comes ab c j && !off.getD j false
def offWith (ab : List Int) (off : List Bool) (c : Nat) : List Bool := (List.range ab.length).map fun j => off.getD j false || comes ab c j
/-- What Cancel answers. -/
def tcancelM (ab : List Int) (off : List Bool) (id : Int) : List Bool × List Int × Nat :=
  if 0 ≤ id ∧ id < ab.length then (offWith ab off id.toNat, (newOff ab off id.toNat).map (fun (j : Nat) => (j : Int)), 0) else (off, [], 2)

theorem offWith_get {ab : List Int} {off : List Bool} {c j : Nat} (hj : j < ab.length) : (offWith ab off c).getD j false = (off.getD j false || comes ab c j) := by
  simp [offWith, List.getD_eq_getElem?_getD, hj]
theorem offWith_ok {ab : List Int} {off : List Bool} (H : TreeOk ab off) (c : Nat) : TreeOk ab (offWith ab off c) := by
  refine ⟨H.wf, by simp [offWith], fun i j h1 h2 => ?_, H.le⟩
  obtain ⟨h3, h4, _⟩ := H.wf.up h1
  rw [offWith_get (by omega), Bool.or_eq_true] at h2
  rw [offWith_get h4, Bool.or_eq_true]
  rcases h2 with h2 | h2
  · exact .inl (H.down i j h1 h2)
  · exact .inr ((comes_iff H.wf).2 (.step h1 ((comes_iff H.wf).1 h2)))
theorem tcancelM_ok {ab : List Int} {off : List Bool} (H : TreeOk ab off) (id : Int) : TreeOk ab (tcancelM ab off id).1 := by
  unfold tcancelM
  split
  · exact offWith_ok H _
  · exact H
theorem tmakeM_ok {ab : List Int} {off : List Bool} (H : TreeOk ab off) (a : Int) : TreeOk (tmakeM ab off a).1.1 (tmakeM ab off a).1.2 := by
  unfold tmakeM
  split
  · exact H
  · rename_i h1
    split
    · exact H
    · rename_i h2
      have hn : a = -1 ∨ (0 ≤ a ∧ a < ab.length) := by
        by_cases e : a = -1
        · exact .inl e
        · right
          by_cases h : 0 ≤ a ∧ a < ab.length
          · exact h
          · exact absurd ⟨e, h⟩ h1
      dsimp only
      have hlt : ∀ j, j < ab.length → (ab ++ [a])[j]? = ab[j]? := fun j hj => List.getElem?_append_left hj
      have hlast : (ab ++ [a])[ab.length]? = some a := by simp
      refine ⟨fun j x hx => ?_, by simp [H.len], fun i j h3 h4 => ?_, by simp; omega⟩
      · by_cases hj : j < ab.length
        · rw [hlt j hj] at hx
          exact H.wf j x hx
        · have hj2 : j < (ab ++ [a]).length := (List.getElem?_eq_some_iff.1 hx).1
          simp at hj2
          have : j = ab.length := by omega
          subst this
          rw [hlast] at hx
          injection hx with hx
          omega
      · by_cases hj : j < ab.length
        · have e : up (ab ++ [a]) j = up ab j := by unfold up; rw [hlt j hj]
          rw [e] at h3
          obtain ⟨h5, h6, _⟩ := H.wf.up h3
          have e2 : ∀ q, q < ab.length → (off ++ [toffM off a]).getD q false = off.getD q false := fun q hq => by
            rw [List.getD_eq_getElem?_getD, List.getD_eq_getElem?_getD, List.getElem?_append_left (by rw [H.len]; exact hq)]
          rw [e2 _ (by omega)] at h4
          rw [e2 _ hj]
          exact H.down i j h3 h4
        · have hx : j < (ab ++ [a]).length := by
            unfold up at h3
            cases e : (ab ++ [a])[j]? with
            | none => rw [e] at h3; cases h3
            | some x => exact (List.getElem?_eq_some_iff.1 e).1
          simp at hx
          have : j = ab.length := by omega
          subst this
          unfold up at h3
          rw [hlast] at h3
          dsimp only at h3
          split at h3
          · rename_i h0
            injection h3 with h3
            have hal : a < ab.length := by omega
            rw [List.getD_eq_getElem?_getD, List.getElem?_append_left (by rw [H.len]; omega), ← List.getD_eq_getElem?_getD] at h4
            rw [List.getD_eq_getElem?_getD, ← H.len, List.getElem?_append_right (Nat.le_refl _)]
            simp [toffM, h0, h3]
            simpa [List.getD_eq_getElem?_getD] using h4
          · cases h3

/-- Rows that grow, of the same members, are the same. -/
theorem rows_same {a b : List Int} (ha : a.Pairwise (· < ·)) (hb : b.Pairwise (· < ·)) (h : ∀ j, j ∈ a ↔ j ∈ b) : a = b := by
  induction a generalizing b with
  | nil =>
    cases b with
    | nil => rfl
    | cons y b => exact absurd ((h y).2 List.mem_cons_self) (by simp)
  | cons x a ih =>
    cases b with
    | nil => exact absurd ((h x).1 List.mem_cons_self) (by simp)
    | cons y b =>
      obtain ⟨hx, ha2⟩ := List.pairwise_cons.1 ha
      obtain ⟨hy, hb2⟩ := List.pairwise_cons.1 hb
      have e : x = y := by
        rcases List.mem_cons.1 ((h x).1 List.mem_cons_self) with e | e
        · exact e
        · rcases List.mem_cons.1 ((h y).2 List.mem_cons_self) with e2 | e2
          · exact e2.symm
          · have := hy x e
            have := hx y e2
            omega
      subst e
      congr 1
      refine ih ha2 hb2 fun j => ?_
      constructor
      · intro hj
        rcases List.mem_cons.1 ((h j).1 (List.mem_cons_of_mem _ hj)) with e | e
        · have := hx j hj
          omega
        · exact e
      · intro hj
        rcases List.mem_cons.1 ((h j).2 (List.mem_cons_of_mem _ hj)) with e | e
        · have := hy j hj
          omega
        · exact e
theorem newOff_inc (ab : List Int) (off : List Bool) (c : Nat) : (newOff ab off c).Pairwise (· < ·) := List.Pairwise.filter _ List.pairwise_lt_range
theorem newOff_mem {ab : List Int} {off : List Bool} (H : TreeWf ab) {c j : Nat} : j ∈ newOff ab off c ↔ j < ab.length ∧ Comes ab c j ∧ off.getD j false = false := by
  simp [newOff, comes_iff H]

/-- Those that are next below one, in order. -/
def belowL (ab : List Int) (i : Nat) : List Int := ((List.range ab.length).filter fun j => decide (up ab j = some i)).map (fun (j : Nat) => (j : Int))
theorem belowL_mem {ab : List Int} {i : Nat} {x : Int} : x ∈ belowL ab i ↔ ∃ j : Nat, x = j ∧ j < ab.length ∧ up ab j = some i := by
  simp only [belowL, List.mem_map, List.mem_filter, List.mem_range, decide_eq_true_eq]
  constructor
  · rintro ⟨j, ⟨h1, h2⟩, rfl⟩
    exact ⟨j, rfl, h1, h2⟩
  · rintro ⟨j, rfl, h1, h2⟩
    exact ⟨j, ⟨h1, h2⟩, rfl⟩
theorem up_snoc (ab : List Int) (a : Int) (j : Nat) (hj : j < ab.length) : up (ab ++ [a]) j = up ab j := by
  unfold up
  rw [List.getElem?_append_left hj]
theorem belowL_snoc (ab : List Int) (a : Int) (i : Nat) : belowL (ab ++ [a]) i = belowL ab i ++ if a = (i : Int) then [(ab.length : Int)] else [] := by
  have e1 : (List.range ab.length).filter (fun j => decide (up (ab ++ [a]) j = some i)) = (List.range ab.length).filter (fun j => decide (up ab j = some i)) :=
    List.filter_congr fun j hj => by rw [up_snoc ab a j (List.mem_range.1 hj)]
  have e2 : (up (ab ++ [a]) ab.length = some i) ↔ a = (i : Int) := by
    unfold up
    rw [List.getElem?_append_right (Nat.le_refl _)]
    simp only [Nat.sub_self, List.getElem?_cons_zero]
    split
    · rename_i h
      constructor
      · intro e
        injection e with e
        omega
      · intro e
        congr 1
        omega
    · rename_i h
      constructor
      · intro e
        cases e
      · intro e
        omega
  simp only [belowL, List.length_append, List.length_singleton, List.range_succ, List.filter_append, List.map_append, e1]
  congr 1
  by_cases h : a = (i : Int)
  · rw [if_pos h]
    simp [e2.2 h]
  · rw [if_neg h]
    simp
    exact fun e => h (e2.1 e)
theorem belowL_le (ab : List Int) (i : Nat) : (belowL ab i).length ≤ ab.length := by
  rw [belowL, List.length_map]
  exact Nat.le_trans (List.length_filter_le _ _) (by simp)

/-- Within a calling off: the mark of each, after some were marked. -/
def Marks (ab : List Int) (off off' : List Bool) (P : Nat → Prop) : Prop := off'.length = off.length ∧ ∀ j, j < ab.length → (off'.getD j false = true ↔ off.getD j false = true ∨ P j)
/-- What was told, of what is in P: those that were not marked. -/
structure ToldOff (off : List Bool) (P : Nat → Prop) (new : List Nat) : Prop where
  nodup : new.Nodup
  mem : ∀ j, j ∈ new ↔ P j ∧ off.getD j false = false
/-- Of what is below c: what is below a marked one is marked. -/
def ClosedAt (ab : List Int) (off : List Bool) (c : Nat) : Prop := ∀ i j, Comes ab c i → Comes ab i j → off.getD i false = true → off.getD j false = true
theorem told_sort {ab : List Int} {off : List Bool} (H : TreeWf ab) {c : Nat} {new : List Nat} (hc : c < ab.length) (h : ToldOff off (Comes ab c) new) :
    (new.map (fun (j : Nat) => (j : Int))).mergeSort (fun x y => decide (x ≤ y)) = (newOff ab off c).map (fun (j : Nat) => (j : Int)) := by
  have hp := List.mergeSort_perm (new.map (fun (j : Nat) => (j : Int))) (fun x y => decide (x ≤ y))
  have hs : ((new.map (fun (j : Nat) => (j : Int))).mergeSort (fun x y => decide (x ≤ y))).Pairwise (fun x y => decide (x ≤ y) = true) :=
    List.pairwise_mergeSort (fun a b c h1 h2 => by simp at *; omega) (fun a b => by simp; omega) _
  have hn : (new.map (fun (j : Nat) => (j : Int))).Nodup := List.pairwise_map.2 (h.nodup.imp (fun {a b} e e2 => e (by omega)))
  refine rows_same ?_ (List.pairwise_map.2 ((newOff_inc ab off c).imp (fun {a b} e => by omega))) fun j => ?_
  · refine (hs.and (hp.nodup_iff.2 hn)).imp ?_
    rintro x y ⟨h1, h2⟩
    simp at h1
    omega
  · rw [hp.mem_iff, List.mem_map, List.mem_map]
    constructor
    · rintro ⟨k, h1, rfl⟩
      obtain ⟨h2, h3⟩ := (h.mem k).1 h1
      exact ⟨k, (newOff_mem H).2 ⟨h2.lt H hc, h2, h3⟩, rfl⟩
    · rintro ⟨k, h1, rfl⟩
      obtain ⟨_, h2, h3⟩ := (newOff_mem H).1 h1
      exact ⟨k, (h.mem k).2 ⟨h2, h3⟩, rfl⟩
end Go.Proofs.YtipbimbnpikbcaaGreat

/- A loop, as plain lists: what its functions do. No program in sight. -/
namespace Go.Proofs.YtipbimbnpikbcaaGreat

/-- A task: its kind, two numbers, its token. -/
structure Tk where
  kind : Int
  fn : Int
  arg : Int
  tok : Int
def tk0 : Tk := ⟨0, 0, 0, 0⟩
/-- A loop. -/
structure Lp where
  budget : Nat
  told : Nat
  token : Int
  mac : List Tk
  mic : List Tk
  wai : List Tk
  L : List Tm
  n : Int
  prs : List Pr
  ab : List Int
  off : List Bool
  str : List (Nat × St)
def TokOk (ab : List Int) (t : Int) : Prop := t = -1 ∨ (0 ≤ t ∧ t < ab.length)
theorem TokOk.snoc {ab : List Int} {t : Int} (h : TokOk ab t) (x : Int) : TokOk (ab ++ [x]) t := by
  unfold TokOk at *
  simp
  omega
structure LOk (s : Lp) : Prop where
  bud : 1 ≤ s.budget ∧ s.budget ≤ 64
  told : s.told ≤ 64
  tok : TokOk s.ab s.token
  mac : ∀ t ∈ s.mac, TokOk s.ab t.tok
  mic : ∀ t ∈ s.mic, TokOk s.ab t.tok
  wai : ∀ t ∈ s.wai, TokOk s.ab t.tok
  waiLe : s.wai.length ≤ s.ab.length
  n : 0 ≤ s.n ∧ s.n ≤ s.wai.length
  row : RowOk s.L s.n
  tml : s.L.length ≤ 64
  items : ∀ y ∈ s.L, 0 ≤ y.2.2 ∧ y.2.2 < s.wai.length
  reacts : ∀ p ∈ s.prs, ∀ k ∈ p.q, 0 ≤ k ∧ k < (s.wai.length : Int)
  tree : TreeOk s.ab s.off
  str : s.str.length ≤ 16

def newL (budget : Nat) : Lp := ⟨budget, 0, -1, [], [], [], [], 0, [], [], [], []⟩
/-- One token more, below the one that goes on. -/
def moreL (s : Lp) : Lp := { s with ab := s.ab ++ [s.token], off := s.off ++ [toffM s.off s.token] }
def macL (s : Lp) (x : Tk) : Lp := { s with mac := s.mac ++ [x] }
def micL (s : Lp) (x : Tk) : Lp := { s with mic := s.mic ++ [x] }
def waiL (s : Lp) (x : Tk) : Lp := { s with wai := s.wai ++ [x] }
def spawnL (s : Lp) (fn : Int) : Lp × Nat × Nat := if 1024 ≤ s.ab.length then (s, 0, 3) else (macL (moreL s) ⟨1, fn, 0, s.ab.length⟩, s.ab.length, 0)
def microL (s : Lp) (fn : Int) : Lp × Nat × Nat := if 1024 ≤ s.ab.length then (s, 0, 3) else (micL (moreL s) ⟨2, fn, 0, s.ab.length⟩, s.ab.length, 0)
def putL (s : Lp) (due : Int) : Lp := { s with L := s.L ++ [(due, s.n, (s.wai.length : Int) - 1)], n := s.n + 1 }
def afterL (s : Lp) (due fn : Int) : Lp × Nat × Nat :=
  if 64 ≤ s.L.length then (s, 0, 140) else if 1024 ≤ s.ab.length then (s, 0, 3) else (putL (waiL (moreL s) ⟨3, fn, 0, s.ab.length⟩) due, s.ab.length, 0)
def resumeL (s : Lp) (fn : Int) : Lp := macL s ⟨5, fn, 0, s.token⟩
def cancelL (s : Lp) (id : Int) : Lp × Nat := ({ s with off := (tcancelM s.ab s.off id).1 }, (tcancelM s.ab s.off id).2.2)
def promiseL (s : Lp) : Lp × Nat × Nat := ({ s with prs := (makeM s.prs).1 }, (makeM s.prs).2)
def getL (s : Lp) (k : Int) : Tk := s.wai.getD k.toNat tk0
def withArg (v : Int) (t : Tk) : Tk := ⟨t.kind, t.fn, v, t.tok⟩
def settleL (s : Lp) (id v : Int) : Lp × Nat :=
  ({ s with prs := (settleM s.prs id v).1, mic := s.mic ++ (settleM s.prs id v).2.1.map fun k => withArg v (getL s k) }, (settleM s.prs id v).2.2)
def thenL (s : Lp) (id fn : Int) : Lp × Nat × Nat :=
  if (valueM s.prs id).2.2 ≠ 0 then (s, 0, (valueM s.prs id).2.2)
  else if (valueM s.prs id).2.1 = false ∧ 256 ≤ waitsM s.prs id then (s, 0, 140)
  else if 1024 ≤ s.ab.length then (s, 0, 3)
  else if (valueM s.prs id).2.1 then (micL (moreL s) ⟨4, fn, (valueM s.prs id).1, s.ab.length⟩, s.ab.length, 0)
  else ({ waiL (moreL s) ⟨4, fn, 0, s.ab.length⟩ with prs := (thenM s.prs id s.wai.length).1 }, s.ab.length, 0)
def streamL (s : Lp) (room : Int) : Lp × Nat × Nat :=
  if room < 1 ∨ 32 < room then (s, 0, 1) else if 16 ≤ s.str.length then (s, 0, 3) else ({ s with str := s.str ++ [(room.toNat, ⟨[], [], []⟩)] }, s.str.length, 0)
def settlesL (s : Lp) (l : List (Int × Int)) : Lp := l.foldl (fun s x => (settleL s x.1 x.2).1) s
def movesL (s : Lp) (id : Int) (f : Nat → St → Int → St × List (Int × Int) × Int) : Lp × Nat × Int :=
  if id < 0 ∨ (s.str.length : Int) ≤ id then (s, 0, 2)
  else if 512 ≤ s.prs.length then (s, 0, 3)
  else
    let x := s.str.getD id.toNat (0, ⟨[], [], []⟩)
    let r := f x.1 x.2 s.prs.length
    let s1 := { s with str := s.str.set id.toNat (x.1, r.1) }
    if r.2.2 ≠ 0 then (s1, 0, r.2.2) else (settlesL (promiseL s1).1 r.2.1, s.prs.length, 0)
def writeL (s : Lp) (id v : Int) : Lp × Nat × Int := movesL s id fun room st who => writeM room st v who
def readL (s : Lp) (id : Int) : Lp × Nat × Int := movesL s id fun _ st who => readM st who
def advL : Nat → Lp → Int → Lp
  | 0, s, _ => s
  | k + 1, s, now => if (dueM s.L now).2.2 then advL k { s with L := (dueM s.L now).1, mac := s.mac ++ [getL s (dueM s.L now).2.1] } now else s
/-- The first that is not off, and those behind it. -/
def takeM (off : List Bool) : List Tk → Option Tk × List Tk
  | [] => (none, [])
  | x :: r => if toffM off x.tok then takeM off r else (some x, r)
def turnL (s : Lp) (t : Tk) (told : Nat) : Lp := { s with told := told, token := t.tok }
def nextL (s : Lp) : Lp × Option Tk :=
  let a := if s.told < s.budget then takeM s.off s.mic else (none, s.mic)
  match a.1 with
  | some t => (turnL { s with mic := a.2 } t (s.told + 1), some t)
  | none =>
    let b := takeM s.off s.mac
    match b.1 with
    | some t => (turnL { s with mic := a.2, mac := b.2 } t 0, some t)
    | none =>
      let c := takeM s.off a.2
      match c.1 with
      | some t => (turnL { s with mic := c.2, mac := b.2 } t 1, some t)
      | none => ({ s with told := 0, mic := c.2, mac := b.2 }, none)

section
variable {s : Lp}
theorem newL_ok {k : Nat} (h1 : 1 ≤ k) (h2 : k ≤ 64) : LOk (newL k) := by
  refine ⟨⟨h1, h2⟩, by simp [newL], .inl rfl, by simp [newL], by simp [newL], by simp [newL], by simp [newL], by simp [newL], ⟨List.Pairwise.nil, by simp [newL]⟩, by simp [newL], by simp [newL], by simp [newL], ⟨fun j x h => by simp [newL] at h, rfl, fun i j h => by simp [up, newL] at h, by simp [newL]⟩, by simp [newL]⟩
theorem tmakeM_tok (h : LOk s) (hl : s.ab.length < 1024) : tmakeM s.ab s.off s.token = ((s.ab ++ [s.token], s.off ++ [toffM s.off s.token]), (s.ab.length : Int), 0) := by
  have := h.tok
  unfold TokOk at this
  unfold tmakeM
  rw [if_neg (by omega), if_neg (by omega)]
theorem tmakeM_full (h : LOk s) (hl : 1024 ≤ s.ab.length) : tmakeM s.ab s.off s.token = ((s.ab, s.off), 0, 3) := by
  have := h.tok
  unfold TokOk at this
  unfold tmakeM
  rw [if_neg (by omega), if_pos (by omega)]
theorem LOk.more (h : LOk s) (hl : s.ab.length < 1024) : LOk (moreL s) := by
  have e := tmakeM_tok h hl
  have o := tmakeM_ok h.tree s.token
  rw [e] at o
  refine ⟨h.bud, h.told, h.tok.snoc _, fun t ht => (h.mac t ht).snoc _, fun t ht => (h.mic t ht).snoc _, fun t ht => (h.wai t ht).snoc _, ?_, h.n, h.row, h.tml, h.items, h.reacts, o, h.str⟩
  have := h.waiLe
  simp [moreL]
  omega
theorem LOk.putMac (h : LOk s) {x : Tk} (hx : TokOk s.ab x.tok) : LOk (macL s x) :=
  ⟨h.bud, h.told, h.tok, fun t ht => by
    rcases List.mem_append.1 ht with ht | ht
    · exact h.mac t ht
    · rw [List.mem_singleton.1 ht]; exact hx, h.mic, h.wai, h.waiLe, h.n, h.row, h.tml, h.items, h.reacts, h.tree, h.str⟩
theorem LOk.putMic (h : LOk s) {x : Tk} (hx : TokOk s.ab x.tok) : LOk (micL s x) :=
  ⟨h.bud, h.told, h.tok, h.mac, fun t ht => by
    rcases List.mem_append.1 ht with ht | ht
    · exact h.mic t ht
    · rw [List.mem_singleton.1 ht]; exact hx, h.wai, h.waiLe, h.n, h.row, h.tml, h.items, h.reacts, h.tree, h.str⟩
theorem LOk.putWai (h : LOk s) {x : Tk} (hx : TokOk s.ab x.tok) (hl : s.wai.length < s.ab.length) : LOk (waiL s x) := by
  have hn := h.n
  refine ⟨h.bud, h.told, h.tok, h.mac, h.mic, fun t ht => ?_, ?_, ?_, h.row, h.tml, fun y hy => ?_, fun p hp k hk => ?_, h.tree, h.str⟩
  · rcases List.mem_append.1 ht with ht | ht
    · exact h.wai t ht
    · rw [List.mem_singleton.1 ht]; exact hx
  · simp [waiL]; omega
  · simp [waiL]; omega
  · have := h.items y hy
    simp [waiL]; omega
  · have := h.reacts p hp k hk
    simp [waiL]; omega
theorem LOk.put (h : LOk s) (due : Int) (hl : s.L.length < 64) (hn : s.n < s.wai.length) : LOk (putL s due) := by
  have h0 := h.n
  refine ⟨h.bud, h.told, h.tok, h.mac, h.mic, h.wai, h.waiLe, ?_, h.row.put _ _, ?_, fun y hy => ?_, h.reacts, h.tree, h.str⟩
  · simp [putL]; omega
  · simp [putL]; omega
  · rcases List.mem_append.1 hy with hy | hy
    · exact h.items y hy
    · rw [List.mem_singleton.1 hy]
      simp [putL]; omega
theorem LOk.cancel (h : LOk s) (id : Int) : LOk (cancelL s id).1 :=
  ⟨h.bud, h.told, h.tok, h.mac, h.mic, h.wai, h.waiLe, h.n, h.row, h.tml, h.items, h.reacts, tcancelM_ok h.tree id, h.str⟩
theorem LOk.prs (h : LOk s) {p : List Pr} (hp : ∀ x ∈ p, ∀ k ∈ x.q, 0 ≤ k ∧ k < (s.wai.length : Int)) : LOk { s with prs := p } :=
  ⟨h.bud, h.told, h.tok, h.mac, h.mic, h.wai, h.waiLe, h.n, h.row, h.tml, h.items, hp, h.tree, h.str⟩
theorem LOk.promise (h : LOk s) : LOk (promiseL s).1 := by
  refine h.prs fun x hx k hk => ?_
  unfold makeM at hx
  split at hx
  · exact h.reacts x hx k hk
  · rcases List.mem_append.1 hx with hx | hx
    · exact h.reacts x hx k hk
    · rw [List.mem_singleton.1 hx] at hk
      simp at hk
theorem LOk.strs (h : LOk s) {l : List (Nat × St)} (hl : l.length ≤ 16) : LOk { s with str := l } :=
  ⟨h.bud, h.told, h.tok, h.mac, h.mic, h.wai, h.waiLe, h.n, h.row, h.tml, h.items, h.reacts, h.tree, hl⟩
theorem prOf_mem {l : List Pr} {id : Int} {x : Pr} (h : prOf l id = some x) : x ∈ l := by
  obtain ⟨i, _, hi⟩ := prOf_some h
  exact List.mem_of_getElem? hi
theorem settleM_reacts (h : LOk s) (id v : Int) : ∀ k ∈ (settleM s.prs id v).2.1, 0 ≤ k ∧ k < (s.wai.length : Int) := by
  intro k hk
  unfold settleM at hk
  split at hk
  · simp at hk
  · rename_i x hx
    split at hk
    · simp at hk
    · exact h.reacts x (prOf_mem hx) k hk
theorem getL_mem (_h : LOk s) {k : Int} (hk : 0 ≤ k ∧ k < (s.wai.length : Int)) : getL s k ∈ s.wai := by
  have : k.toNat < s.wai.length := by omega
  simp [getL, List.getD_eq_getElem?_getD, this]
theorem LOk.get (h : LOk s) {k : Int} (hk : 0 ≤ k ∧ k < (s.wai.length : Int)) : TokOk s.ab (getL s k).tok := h.wai _ (getL_mem h hk)
theorem mem_set_of {α : Type} {l : List α} {i : Nat} {a x : α} (h : x ∈ l.set i a) : x ∈ l ∨ x = a := List.mem_or_eq_of_mem_set h
theorem LOk.settled (h : LOk s) (id v : Int) : LOk { s with prs := (settleM s.prs id v).1 } := by
  refine h.prs fun x hx k hk => ?_
  unfold settleM at hx
  split at hx
  · exact h.reacts x hx k hk
  · split at hx
    · exact h.reacts x hx k hk
    · rcases mem_set_of hx with hx | rfl
      · exact h.reacts x hx k hk
      · simp at hk
theorem LOk.mics (h : LOk s) {l : List Tk} (hl : ∀ t ∈ l, TokOk s.ab t.tok) : LOk { s with mic := s.mic ++ l } :=
  ⟨h.bud, h.told, h.tok, h.mac, fun t ht => by
    rcases List.mem_append.1 ht with ht | ht
    · exact h.mic t ht
    · exact hl t ht, h.wai, h.waiLe, h.n, h.row, h.tml, h.items, h.reacts, h.tree, h.str⟩
theorem LOk.settle (h : LOk s) (id v : Int) : LOk (settleL s id v).1 := by
  refine (h.settled id v).mics fun t ht => ?_
  obtain ⟨k, hk, rfl⟩ := List.mem_map.1 ht
  exact h.get (settleM_reacts h id v k hk)
theorem LOk.thenP (h : LOk s) (id : Int) {k : Int} (hk : 0 ≤ k ∧ k < (s.wai.length : Int)) : LOk { s with prs := (thenM s.prs id k).1 } := by
  refine h.prs fun x hx j hj => ?_
  unfold thenM at hx
  split at hx
  · exact h.reacts x hx j hj
  · rename_i y hy
    split at hx
    · exact h.reacts x hx j hj
    · split at hx
      · rcases mem_set_of hx with hx | rfl
        · exact h.reacts x hx j hj
        · rcases List.mem_append.1 hj with hj | hj
          · exact h.reacts y (prOf_mem hy) j hj
          · rw [List.mem_singleton.1 hj]; exact hk
      · exact h.reacts x hx j hj
theorem dueM_mem {L L' : List Tm} {now x : Int} (h : dueM L now = (L', x, true)) : ∃ m ∈ L, x = m.2.2 ∧ L' = L.erase m := by
  unfold dueM at h
  split at h
  · simp at h
  · rename_i m hm
    split at h
    · simp at h
    · injection h with h1 h2
      injection h2 with h2 h3
      exact ⟨m, (firstM_of hm).1, h2.symm, h1.symm⟩
theorem LOk.due (h : LOk s) {L' : List Tm} {now x : Int} (e : dueM s.L now = (L', x, true)) : LOk { s with L := L', mac := s.mac ++ [getL s x] } ∧ (0 ≤ x ∧ x < (s.wai.length : Int)) := by
  obtain ⟨m, hm, rfl, rfl⟩ := dueM_mem e
  have hi := h.items m hm
  refine ⟨⟨h.bud, h.told, h.tok, fun t ht => ?_, h.mic, h.wai, h.waiLe, h.n, h.row.erase _, Nat.le_trans List.length_erase_le h.tml, fun y hy => h.items y (List.mem_of_mem_erase hy), h.reacts, h.tree, h.str⟩, hi⟩
  rcases List.mem_append.1 ht with ht | ht
  · exact h.mac t ht
  · rw [List.mem_singleton.1 ht]; exact h.get hi
theorem takeM_sub (off : List Bool) (l : List Tk) : ∀ t ∈ (takeM off l).2, t ∈ l := by
  induction l with
  | nil => intro t h; exact h
  | cons x r ih =>
    intro t h
    unfold takeM at h
    split at h
    · exact List.mem_cons_of_mem _ (ih t h)
    · exact List.mem_cons_of_mem _ h
theorem takeM_some {off : List Bool} {l : List Tk} {t : Tk} (h : (takeM off l).1 = some t) : t ∈ l := by
  induction l with
  | nil => simp [takeM] at h
  | cons x r ih =>
    unfold takeM at h
    split at h
    · exact List.mem_cons_of_mem _ (ih h)
    · injection h with h
      rw [h]
      exact List.mem_cons_self
theorem LOk.lessMac (h : LOk s) {l : List Tk} (hl : ∀ t ∈ l, t ∈ s.mac) : LOk { s with mac := l } :=
  ⟨h.bud, h.told, h.tok, fun t ht => h.mac t (hl t ht), h.mic, h.wai, h.waiLe, h.n, h.row, h.tml, h.items, h.reacts, h.tree, h.str⟩
theorem LOk.lessMic (h : LOk s) {l : List Tk} (hl : ∀ t ∈ l, t ∈ s.mic) : LOk { s with mic := l } :=
  ⟨h.bud, h.told, h.tok, h.mac, fun t ht => h.mic t (hl t ht), h.wai, h.waiLe, h.n, h.row, h.tml, h.items, h.reacts, h.tree, h.str⟩
theorem LOk.turn (h : LOk s) {t : Tk} {k : Nat} (ht : TokOk s.ab t.tok) (hk : k ≤ 64) : LOk (turnL s t k) :=
  ⟨h.bud, hk, ht, h.mac, h.mic, h.wai, h.waiLe, h.n, h.row, h.tml, h.items, h.reacts, h.tree, h.str⟩
theorem LOk.rest (h : LOk s) : LOk { s with told := 0 } :=
  ⟨h.bud, by simp, h.tok, h.mac, h.mic, h.wai, h.waiLe, h.n, h.row, h.tml, h.items, h.reacts, h.tree, h.str⟩
end
end Go.Proofs.YtipbimbnpikbcaaGreat
