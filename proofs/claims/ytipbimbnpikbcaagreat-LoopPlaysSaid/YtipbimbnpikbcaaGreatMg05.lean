import Derived.Test.YtipbimbnpikbcaaGreatMg03
/- A heap of timers, as a list: what bringing one up, bringing one down, and taking one away do to it. No program in sight. -/
namespace Go.Proofs.YtipbimbnpikbcaaGreat

/-- When it is due, its number, its item. -/
abbrev Tm := Int × Int × Int
def tm0 : Tm := (0, 0, 0)
def Tlt (x y : Tm) : Prop := x.1 < y.1 ∨ (x.1 = y.1 ∧ x.2.1 < y.2.1)
instance (x y : Tm) : Decidable (Tlt x y) := inferInstanceAs (Decidable (_ ∨ _))
theorem Tlt.asymm {x y : Tm} (h : Tlt x y) : ¬ Tlt y x := by unfold Tlt at *; omega
theorem Tlt.irrefl (x : Tm) : ¬ Tlt x x := by unfold Tlt; omega
theorem tle_trans {x y z : Tm} (h : ¬ Tlt y x) (k : ¬ Tlt z y) : ¬ Tlt z x := by unfold Tlt at *; omega
theorem tlt_le {x y z : Tm} (h : Tlt x y) (k : ¬ Tlt z y) : ¬ Tlt z x := by unfold Tlt at *; omega

def tat (h : List Tm) (i : Nat) : Tm := h.getD i tm0
def swapL (h : List Tm) (i k : Nat) : List Tm := (h.set i (tat h k)).set k (tat h i)
theorem swapL_length (h : List Tm) (i k : Nat) : (swapL h i k).length = h.length := by simp [swapL]
theorem tat_set (h : List Tm) (i j : Nat) (x : Tm) (hj : j < h.length) : tat (h.set i x) j = if j = i then x else tat h j := by
  by_cases e : j = i
  · subst e
    simp [tat, List.getD_eq_getElem?_getD, hj]
  · rw [if_neg e]
    simp [tat, List.getD_eq_getElem?_getD, Ne.symm e]
theorem tat_swap (h : List Tm) (i k j : Nat) (hj : j < h.length) : tat (swapL h i k) j = if j = k then tat h i else if j = i then tat h k else tat h j := by
  rw [swapL, tat_set _ _ _ _ (by simpa using hj), tat_set _ _ _ _ hj]
theorem swapL_perm (h : List Tm) (i k : Nat) (hi : i < h.length) (hk : k < h.length) : (swapL h i k).Perm h := by
  have e1 : tat h i = h[i] := by simp [tat, List.getD_eq_getElem?_getD, hi]
  have e2 : tat h k = h[k] := by simp [tat, List.getD_eq_getElem?_getD, hk]
  rw [swapL, e1, e2]
  exact List.set_set_perm hi hk

def IsHeap (h : List Tm) : Prop := ∀ j, 0 < j → j < h.length → ¬ Tlt (tat h j) (tat h ((j - 1) / 2))
structure UpInv (h : List Tm) (i : Nat) : Prop where
  lt : i < h.length
  one : ∀ j, 0 < j → j < h.length → j ≠ i → ¬ Tlt (tat h j) (tat h ((j - 1) / 2))
  two : ∀ j, 0 < j → j < h.length → (j - 1) / 2 = i → 0 < i → ¬ Tlt (tat h j) (tat h ((i - 1) / 2))
structure DownInv (h : List Tm) (i : Nat) : Prop where
  lt : i < h.length
  one : ∀ j, 0 < j → j < h.length → (j - 1) / 2 ≠ i → ¬ Tlt (tat h j) (tat h ((j - 1) / 2))
  two : ∀ j, 0 < j → j < h.length → (j - 1) / 2 = i → 0 < i → ¬ Tlt (tat h j) (tat h ((i - 1) / 2))

theorem UpInv.step {h : List Tm} {i : Nat} (H : UpInv h i) (hi : 0 < i) (hl : Tlt (tat h i) (tat h ((i - 1) / 2))) : UpInv (swapL h i ((i - 1) / 2)) ((i - 1) / 2) := by
  have hlt := H.lt
  have hp : (i - 1) / 2 < i := by omega
  refine ⟨by rw [swapL_length]; omega, fun j h0 hj hne => ?_, fun j h0 hj hq hp0 => ?_⟩
  · rw [swapL_length] at hj
    rw [tat_swap _ _ _ _ hj, tat_swap _ _ _ _ (by omega)]
    rw [if_neg hne]
    by_cases hji : j = i
    · subst hji
      rw [if_pos rfl, if_pos rfl]
      exact hl.asymm
    · rw [if_neg hji]
      by_cases hq : (j - 1) / 2 = (i - 1) / 2
      · rw [if_pos hq]
        have := H.one j h0 hj hji
        rw [hq] at this
        exact tlt_le hl this
      · rw [if_neg hq]
        by_cases hq2 : (j - 1) / 2 = i
        · rw [if_pos hq2]
          exact H.two j h0 hj hq2 hi
        · rw [if_neg hq2]
          exact H.one j h0 hj hji
  · rw [swapL_length] at hj
    rw [tat_swap _ _ _ _ hj, tat_swap _ _ _ _ (by omega)]
    rw [if_neg (by omega), if_neg (by omega : ¬ ((i - 1) / 2 - 1) / 2 = (i - 1) / 2), if_neg (by omega : ¬ ((i - 1) / 2 - 1) / 2 = i)]
    have hpp := H.one ((i - 1) / 2) hp0 (by omega) (by omega)
    by_cases hji : j = i
    · rw [if_pos hji]
      exact hpp
    · rw [if_neg hji]
      have := H.one j h0 hj hji
      rw [hq] at this
      exact tle_trans hpp this
theorem UpInv.done {h : List Tm} {i : Nat} (H : UpInv h i) (hl : i = 0 ∨ ¬ Tlt (tat h i) (tat h ((i - 1) / 2))) : IsHeap h := by
  intro j h0 hj
  by_cases hji : j = i
  · subst hji
    rcases hl with e | e
    · omega
    · exact e
  · exact H.one j h0 hj hji

theorem DownInv.step {h : List Tm} {i k : Nat} (H : DownInv h i) (hk : k < h.length) (hk0 : 0 < k) (hki : (k - 1) / 2 = i) (hl : Tlt (tat h k) (tat h i)) (hm : ∀ c, 0 < c → c < h.length → (c - 1) / 2 = i → ¬ Tlt (tat h c) (tat h k)) : DownInv (swapL h i k) k := by
  have hlt := H.lt
  have hik : i < k := by omega
  refine ⟨by rw [swapL_length]; exact hk, fun j h0 hj hne => ?_, fun j h0 hj hq hp0 => ?_⟩
  · rw [swapL_length] at hj
    rw [tat_swap _ _ _ _ hj, tat_swap _ _ _ _ (by omega)]
    rw [if_neg hne]
    by_cases hq : (j - 1) / 2 = i
    · rw [if_pos hq]
      by_cases hjk : j = k
      · rw [if_pos hjk]
        exact hl.asymm
      · rw [if_neg hjk, if_neg (by omega)]
        exact hm j h0 hj hq
    · rw [if_neg hq]
      have hjk : j ≠ k := fun e => hq (e ▸ hki)
      rw [if_neg hjk]
      by_cases hji : j = i
      · rw [if_pos hji, hji]
        exact H.two k hk0 hk hki (by omega)
      · rw [if_neg hji]
        exact H.one j h0 hj hq
  · rw [swapL_length] at hj
    rw [hki, tat_swap _ _ _ _ hj, tat_swap _ _ _ _ (by omega)]
    rw [if_neg (by omega), if_neg (by omega), if_neg (by omega), if_pos rfl]
    have := H.one j h0 hj (by omega)
    rw [hq] at this
    exact this
theorem DownInv.done {h : List Tm} {i : Nat} (H : DownInv h i) (hm : ∀ c, 0 < c → c < h.length → (c - 1) / 2 = i → ¬ Tlt (tat h c) (tat h i)) : IsHeap h := by
  intro j h0 hj
  by_cases hq : (j - 1) / 2 = i
  · rw [hq]
    exact hm j h0 hj hq
  · exact H.one j h0 hj hq
theorem IsHeap.down {h : List Tm} (H : IsHeap h) {i : Nat} (hi : i < h.length) : DownInv h i :=
  ⟨hi, fun j h0 hj _ => H j h0 hj, fun j h0 hj hq hi0 => by
    have h1 := H j h0 hj
    rw [hq] at h1
    exact tle_trans (H i hi0 hi) h1⟩

theorem tat_append_left (h : List Tm) (x : Tm) (j : Nat) (hj : j < h.length) : tat (h ++ [x]) j = tat h j := by
  simp [tat, List.getD_eq_getElem?_getD, List.getElem?_append_left hj]
theorem tat_append_last (h : List Tm) (x : Tm) : tat (h ++ [x]) h.length = x := by simp [tat, List.getD_eq_getElem?_getD]
/-- One is put behind. -/
theorem IsHeap.put {h : List Tm} (H : IsHeap h) (x : Tm) : UpInv (h ++ [x]) h.length := by
  refine ⟨by simp, fun j h0 hj hne => ?_, fun j h0 hj hq _ => ?_⟩
  · have hj2 : j < h.length := by simp at hj; omega
    rw [tat_append_left _ _ _ hj2, tat_append_left _ _ _ (by omega)]
    exact H j h0 hj2
  · simp at hj
    omega

/-- One is taken away: the last stands in its place. -/
def cutL (h : List Tm) (i : Nat) : List Tm := (swapL h i (h.length - 1)).take (h.length - 1)
theorem cutL_length (h : List Tm) (i : Nat) : (cutL h i).length = h.length - 1 := by simp [cutL, swapL_length]
theorem tat_cut (h : List Tm) (i j : Nat) (hj : j < h.length - 1) : tat (cutL h i) j = if j = i then tat h (h.length - 1) else tat h j := by
  have e : tat (cutL h i) j = tat (swapL h i (h.length - 1)) j := by
    simp [tat, cutL, List.getD_eq_getElem?_getD, hj]
  rw [e, tat_swap _ _ _ _ (by omega), if_neg (by omega)]
theorem IsHeap.cutUp {h : List Tm} (H : IsHeap h) {i : Nat} (hi : i < h.length - 1) (h0 : 0 < i) (hl : Tlt (tat (cutL h i) i) (tat (cutL h i) ((i - 1) / 2))) : UpInv (cutL h i) i := by
  rw [tat_cut _ _ _ hi, tat_cut _ _ _ (by omega), if_pos rfl, if_neg (by omega)] at hl
  have hip := H i h0 (by omega)
  refine ⟨by rw [cutL_length]; exact hi, fun j hj0 hj hne => ?_, fun j hj0 hj hq _ => ?_⟩
  · rw [cutL_length] at hj
    rw [tat_cut _ _ _ hj, tat_cut _ _ _ (by omega), if_neg hne]
    have h1 := H j hj0 (by omega)
    by_cases hq : (j - 1) / 2 = i
    · rw [if_pos hq]
      rw [hq] at h1
      exact tlt_le hl (tle_trans hip h1)
    · rw [if_neg hq]
      exact h1
  · rw [cutL_length] at hj
    rw [tat_cut _ _ _ hj, tat_cut _ _ _ (by omega), if_neg (by omega), if_neg (by omega)]
    have h1 := H j hj0 (by omega)
    rw [hq] at h1
    exact tle_trans hip h1
theorem IsHeap.cutDown {h : List Tm} (H : IsHeap h) {i : Nat} (hi : i < h.length - 1) (hl : ¬ (0 < i ∧ Tlt (tat (cutL h i) i) (tat (cutL h i) ((i - 1) / 2)))) : DownInv (cutL h i) i := by
  refine ⟨by rw [cutL_length]; exact hi, fun j hj0 hj hne => ?_, fun j hj0 hj hq h0 => ?_⟩
  · by_cases hji : j = i
    · subst hji
      exact fun h => hl ⟨hj0, h⟩
    · rw [cutL_length] at hj
      rw [tat_cut _ _ _ hj, tat_cut _ _ _ (by omega), if_neg hji, if_neg hne]
      exact H j hj0 (by omega)
  · rw [cutL_length] at hj
    rw [tat_cut _ _ _ hj, tat_cut _ _ _ (by omega), if_neg (by omega), if_neg (by omega)]
    have h1 := H j hj0 (by omega)
    rw [hq] at h1
    exact tle_trans (H i h0 (by omega)) h1
theorem IsHeap.cutLast {h : List Tm} (H : IsHeap h) : IsHeap (cutL h (h.length - 1)) := by
  intro j h0 hj
  rw [cutL_length] at hj
  rw [tat_cut _ _ _ hj, tat_cut _ _ _ (by omega), if_neg (by omega), if_neg (by omega)]
  exact H j h0 (by omega)

/-- None is ahead of the first. -/
theorem IsHeap.first {h : List Tm} (H : IsHeap h) : ∀ j, j < h.length → ¬ Tlt (tat h j) (tat h 0) := by
  intro j
  induction j using Nat.strongRecOn with
  | _ j ih =>
    intro hj
    by_cases h0 : j = 0
    · subst h0
      exact Tlt.irrefl _
    · exact tle_trans (ih ((j - 1) / 2) (by omega) (by omega)) (H j (by omega) hj)
theorem swapL_cut (h : List Tm) (i : Nat) (hi : i < h.length) : swapL h i (h.length - 1) = cutL h i ++ [tat h i] := by
  apply List.ext_getElem?
  intro j
  by_cases hj : j < h.length - 1
  · rw [List.getElem?_append_left (by rw [cutL_length]; exact hj)]
    simp [cutL, hj]
  · by_cases hj2 : j = h.length - 1
    · subst hj2
      rw [List.getElem?_append_right (by rw [cutL_length]; omega), cutL_length]
      simp [swapL, show h.length - 1 < h.length from by omega]
    · rw [List.getElem?_eq_none (by rw [swapL_length]; omega), List.getElem?_eq_none (by rw [List.length_append, cutL_length]; simp; omega)]
theorem cutL_perm (h : List Tm) (i : Nat) (hi : i < h.length) : h.Perm (tat h i :: cutL h i) := by
  have h1 := (swapL_perm h i (h.length - 1) hi (by omega)).symm
  rw [swapL_cut h i hi] at h1
  exact h1.trans (List.perm_append_singleton _ _)
end Go.Proofs.YtipbimbnpikbcaaGreat

/- A slice of one's own: a cell of it is set; it is cut short. -/
namespace Go.Proofs.YtipbimbnpikbcaaGreat
open Go.RowKit

section
variable {w w' : World} {e : TypeId} {sz n cap g : Nat} {A : Option Addr} {xs : List Value} {G : Option Nat}
theorem Sl.blkOf (h : Sl w e sz A n cap xs (some g)) : ∃ cur : Array Value, A = some ⟨g, 0, none⟩ ∧ w.heap[g]? = some (.cells cur e (0, 0)) ∧ n ≤ cap ∧ cap ≤ maxLen ∧ cur.size = cap * sz ∧ cur.toList.take (n * sz) = xs := by
  have hb := h.blk
  rcases h.own.2 with ⟨hv, _⟩ | ⟨g', c, cur, hv, _, hh, h1, h2, h3, h4⟩
  · rw [hv] at hb
    cases hb
  · injection hv with e1 e2 e3
    subst e1
    subst e3
    have hg : some g' = some g := hb
    injection hg with hg
    subst hg
    exact ⟨cur, rfl, hh, h1, h2, h3, h4⟩
theorem Sl.free (h : Sl w e sz A n cap xs (some g)) (i : Nat) : w.frozen? ⟨g, i, none⟩ = false := by
  obtain ⟨cur, _, hh, _⟩ := h.blkOf
  simp [World.frozen?, hh]
theorem Sl.set (h : Sl w e sz A n cap xs (some g)) (i : Nat) (v : Value) : Sl (w.setCell ⟨g, i, none⟩ v) e sz A n cap (xs.set i v) (some g) := by
  obtain ⟨cur, rfl, hh, h1, h2, h3, h4⟩ := h.blkOf
  refine ⟨⟨by rw [List.length_set]; exact h.own.1, .inr ⟨g, cap, cur.setIfInBounds i v, rfl, Nat.zero_le _, ?_, h1, h2, by rw [Array.size_setIfInBounds]; exact h3, ?_⟩⟩, rfl⟩
  · simp [World.setCell, Array.getElem?_modify, hh]
  · rw [Array.toList_setIfInBounds, List.take_set, h4]
theorem Sl.setT (_h : Sl w e sz A n cap xs (some g)) (i : Nat) (v : Value) : Tch (· = g) w (w.setCell ⟨g, i, none⟩ v) := (Tch.refl (· = g) w).setCell (p := ⟨g, i, none⟩) (fun _ => rfl) _
theorem Sl.less (h : Sl w e sz A n cap xs G) {m : Nat} (hm : m ≤ n) : Sl w e sz A m cap (xs.take (m * sz)) G := by
  refine ⟨⟨?_, ?_⟩, ?_⟩
  · rw [List.length_take, h.own.1]
    exact Nat.min_eq_left (Nat.mul_le_mul_right _ hm)
  · rcases h.own.2 with ⟨hv, h0⟩ | ⟨g', c, cur, hv, hb, hh, h1, h2, h3, h4⟩
    · left
      injection hv with e1 e2 e3
      have : m = 0 := by omega
      subst this
      subst e1
      subst e3
      exact ⟨rfl, rfl⟩
    · right
      injection hv with e1 e2 e3
      subst e1
      subst e3
      refine ⟨g', cap, cur, rfl, hb, hh, by omega, h2, h3, ?_⟩
      rw [← h4, List.take_take, Nat.min_eq_left (Nat.mul_le_mul_right _ hm)]
  · rw [← h.blk]
    cases A <;> rfl
end
end Go.Proofs.YtipbimbnpikbcaaGreat
