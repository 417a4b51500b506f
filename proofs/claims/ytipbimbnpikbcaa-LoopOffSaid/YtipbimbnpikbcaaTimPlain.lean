/- What the statements on timers say of rows, as plain laws. -/
import Derived.Test.YtipbimbnpikbcaaTimRow
namespace Go.Proofs.Ytipbimbnpikbcaa
open Go.RowKit

section
variable {L : List Tm} {n : Int} {m : Tm}
theorem RowOk.nodup (H : RowOk L n) : L.Nodup := H.inc.imp (fun {x y} h e => by rw [e] at h; omega)
theorem RowOk.mem_erase (H : RowOk L n) {y : Tm} (m : Tm) (hy : y ∈ L.erase m) : y ≠ m ∧ y ∈ L := H.nodup.mem_erase_iff.1 hy
theorem RowOk.ahead (H : RowOk L n) (hm : FirstOf L m) {y : Tm} (hy : y ∈ L.erase m) : Tlt m y := by
  obtain ⟨h1, h2⟩ := H.mem_erase m hy
  have h3 := hm.2 y h2
  have h4 : y.2.1 ≠ m.2.1 := fun e => h1 (H.inj h2 hm.1 e)
  unfold Tlt at *
  omega
end
/-- The i-th of a row of times that were put in order. -/
def trip (l : List Int) (i : Nat) : Tm := (l.getD i 0, (i : Int), (i : Int))
structure DueSt (l : List Int) (L : List Tm) (last : Int) : Prop where
  mem : ∀ y ∈ L, ∃ i : Nat, i < l.length ∧ y = trip l i
  ahead : last = -1 ∨ ∃ k : Nat, last = k ∧ k < l.length ∧ ∀ y ∈ L, Tlt (trip l k) y
section
variable {l : List Int} {L : List Tm} {last n : Int}
theorem DueSt.step (H : DueSt l L last) (O : RowOk L n) (now : Int) (h : ∃ y ∈ L, y.1 ≤ now) :
    ∃ i : Nat, i < l.length ∧ l.getD i 0 ≤ now ∧ trip l i ∈ L ∧ dueM L now = (L.erase (trip l i), (i : Int), true) ∧ DueSt l (L.erase (trip l i)) i ∧
      (last = -1 ∨ ∃ k : Nat, last = k ∧ k < l.length ∧ Tlt (trip l k) (trip l i)) := by
  obtain ⟨y, hy, hn⟩ := h
  cases e : firstM L with
  | none =>
    have := firstM_none e
    subst this
    exact absurd hy (by simp)
  | some m =>
    have hm := firstM_of e
    obtain ⟨i, hi, rfl⟩ := H.mem m hm.1
    have h1 := hm.2 y hy
    have h2 : l.getD i 0 ≤ now := by
      unfold Tlt trip at h1
      dsimp only at h1
      omega
    refine ⟨i, hi, h2, hm.1, ?_, ⟨fun z hz => H.mem z (O.mem_erase _ hz).2, .inr ⟨i, rfl, hi, fun z hz => O.ahead hm hz⟩⟩, H.ahead.imp_right fun ⟨k, h3, h4, h5⟩ => ⟨k, h3, h4, h5 _ hm.1⟩⟩
    unfold dueM
    rw [e]
    dsimp only
    rw [if_neg (by unfold trip; dsimp only; omega)]
    rfl
theorem count_some {now : Int} {k : Nat} (h : L.countP (fun y => decide (y.1 ≤ now)) = k + 1) : ∃ y ∈ L, y.1 ≤ now := by
  have : 0 < L.countP (fun y => decide (y.1 ≤ now)) := by omega
  obtain ⟨y, hy, hd⟩ := List.countP_pos_iff.1 this
  exact ⟨y, hy, by simpa using hd⟩
theorem count_less {now : Int} {k : Nat} {m : Tm} (h : L.countP (fun y => decide (y.1 ≤ now)) = k + 1) (hm : m ∈ L) (hn : m.1 ≤ now) : (L.erase m).countP (fun y => decide (y.1 ≤ now)) = k := by
  have := (List.perm_cons_erase hm).countP_eq (fun y => decide (y.1 ≤ now))
  rw [List.countP_cons_of_pos (by simpa using hn)] at this
  omega
theorem count_none {now : Int} (h : L.countP (fun y => decide (y.1 ≤ now)) = 0) : dueM L now = (L, 0, false) := by
  unfold dueM
  cases e : firstM L with
  | none => rfl
  | some m =>
    have := List.countP_eq_zero.1 h m (firstM_of e).1
    dsimp only
    rw [if_pos (by simpa using this)]
theorem erase_len {m : Tm} (hm : m ∈ L) : (L.erase m).length + 1 = L.length := by
  have := (List.perm_cons_erase hm).length_eq
  simpa using this.symm
/-- Those that were put so far. -/
def trips (l : List Int) (k : Nat) : List Tm := (List.range k).map (trip l)
theorem trips_zero (l : List Int) : trips l 0 = [] := rfl
theorem trips_snoc (l : List Int) (k : Nat) : trips l (k + 1) = trips l k ++ [(l.getD k 0, (k : Int), (k : Int))] := by simp [trips, trip, List.range_succ]
theorem trips_length (l : List Int) (k : Nat) : (trips l k).length = k := by simp [trips]
theorem trips_mem {l : List Int} {k : Nat} {y : Tm} (hy : y ∈ trips l k) : ∃ i : Nat, i < k ∧ y = trip l i := by
  obtain ⟨i, hi, rfl⟩ := List.mem_map.1 hy
  exact ⟨i, List.mem_range.1 hi, rfl⟩
theorem trip_mem (l : List Int) {k i : Nat} (hi : i < k) : trip l i ∈ trips l k := List.mem_map.2 ⟨i, List.mem_range.2 hi, rfl⟩
theorem dueSt_start (l : List Int) {k : Nat} (hk : k = l.length) : DueSt l (trips l k) (-1) := ⟨fun y hy => by
  obtain ⟨i, hi, e⟩ := trips_mem hy
  exact ⟨i, by omega, e⟩, .inl rfl⟩
theorem trips_count_snoc (l : List Int) (k : Nat) (now : Int) : (trips l (k + 1)).countP (fun y => decide (y.1 ≤ now)) = (trips l k).countP (fun y => decide (y.1 ≤ now)) + if l.getD k 0 ≤ now then 1 else 0 := by
  rw [trips_snoc, List.countP_append, List.countP_singleton]
  simp
theorem trips_count_le (l : List Int) (k : Nat) (now : Int) : (trips l k).countP (fun y => decide (y.1 ≤ now)) ≤ k := by
  have := List.countP_le_length (p := fun (y : Tm) => decide (y.1 ≤ now)) (l := trips l k)
  rwa [trips_length] at this

/-- What a removal of one that is there answers. -/
theorem remM_at (O : RowOk L n) {m : Tm} (hm : m ∈ L) : remM L m.2.1 = (L.erase m, m.2.2, true) := by
  unfold remM
  cases e : L.find? (fun z => z.2.1 == m.2.1) with
  | none => exact absurd (List.find?_eq_none.1 e m hm) (by simp)
  | some m' =>
    have h7 : m'.2.1 = m.2.1 := by simpa using List.find?_some e
    obtain rfl := O.inj hm (List.mem_of_find?_eq_some e) h7.symm
    rfl

/-- Those told in turn, one by one, no later than now. -/
def Pops (now : Int) : List Tm → List Tm → List Tm → Prop
  | L, [], S => S = L
  | L, m :: ms, S => firstM L = some m ∧ m.1 ≤ now ∧ Pops now (L.erase m) ms S
theorem Pops.snoc {now : Int} {ms S : List Tm} {m : Tm} (h : Pops now L ms S) (hm : firstM S = some m) (hn : m.1 ≤ now) : Pops now L (ms ++ [m]) (S.erase m) := by
  induction ms generalizing L with
  | nil =>
    obtain rfl : S = L := h
    exact ⟨hm, hn, rfl⟩
  | cons x ms ih => exact ⟨h.1, h.2.1, ih h.2.2⟩
theorem Pops.later {now now' : Int} {ms S : List Tm} (h : Pops now L ms S) (hn : now ≤ now') : Pops now' L ms S := by
  induction ms generalizing L with
  | nil => exact h
  | cons x ms ih => exact ⟨h.1, by have := h.2.1; omega, ih h.2.2⟩
theorem Pops.due {now : Int} {ms S : List Tm} {m : Tm} (h : Pops now L (m :: ms) S) : dueM L now = (L.erase m, m.2.2, true) ∧ Pops now (L.erase m) ms S := by
  refine ⟨?_, h.2.2⟩
  unfold dueM
  rw [h.1]
  dsimp only
  rw [if_neg (by have := h.2.1; omega)]
theorem dueM_split (L : List Tm) (now : Int) : (dueM L now = (L, 0, false)) ∨ ∃ m, firstM L = some m ∧ m.1 ≤ now ∧ dueM L now = (L.erase m, m.2.2, true) := by
  unfold dueM
  cases e : firstM L with
  | none => exact .inl rfl
  | some m =>
    dsimp only
    by_cases h : now < m.1
    · rw [if_pos h]
      exact .inl rfl
    · rw [if_neg h]
      exact .inr ⟨m, rfl, by omega, rfl⟩
end
end Go.Proofs.Ytipbimbnpikbcaa
