/- Timers of a law's own: what waits, in the order of putting. -/
import Derived.Test.YtipbimbnpikbcaaTimerDue
namespace Go.Proofs.Ytipbimbnpikbcaa
open Go.RowKit

structure TimI (w0 w : World) (b : Nat) (L : List Tm) (n : Int) (F : Nat → Prop) : Prop where
  q : ∃ h, TimersQ w b h n F ∧ IsHeap h ∧ h.Perm L
  base : ∀ i, F i → w0.heap.size ≤ i
  below : Below w0.heap.size w0 w
/-- None of the row is ahead of it. -/
def FirstOf (L : List Tm) (m : Tm) : Prop := m ∈ L ∧ ∀ y ∈ L, ¬ Tlt y m

section
variable {w0 w w' : World} {b : Nat} {L : List Tm} {n : Int} {F S : Nat → Prop}
theorem TimI.lt (H : TimI w0 w b L n F) : ∀ k, F k → k < w.heap.size := by
  obtain ⟨h, hQ, _⟩ := H.q
  exact hQ.lt
theorem TimI.keep (H : TimI w0 w b L n F) (ht : Tch S w w') (hS : ∀ i, F i → ¬ S i) (hB : ∀ i, S i → w0.heap.size ≤ i) : TimI w0 w' b L n F := by
  obtain ⟨h, hQ, hI, hP⟩ := H.q
  exact ⟨⟨h, hQ.keep ht hS, hI, hP⟩, H.base, below_tch H.below ht hB⟩
theorem TimI.nothing (H : TimI w0 w b L n F) (ht : Tch NoBlk w w') : TimI w0 w' b L n F := H.keep ht (fun _ _ h => h) (fun _ h => h.elim)
theorem mem_tat {h : List Tm} {y : Tm} (hy : y ∈ h) : ∃ j, j < h.length ∧ tat h j = y := by
  obtain ⟨j, hj, e⟩ := List.mem_iff_getElem.1 hy
  exact ⟨j, hj, by simp [tat, List.getD_eq_getElem?_getD, hj, e]⟩
theorem tat_mem {h : List Tm} {j : Nat} (hj : j < h.length) : tat h j ∈ h := by
  have e : tat h j = h[j] := by simp [tat, List.getD_eq_getElem?_getD, hj]
  rw [e]
  exact List.getElem_mem hj
theorem first_of {h : List Tm} (hI : IsHeap h) (hP : h.Perm L) (hl : 0 < h.length) : FirstOf L (tat h 0) := by
  refine ⟨hP.mem_iff.1 (tat_mem hl), fun y hy => ?_⟩
  obtain ⟨j, hj, rfl⟩ := mem_tat (hP.mem_iff.2 hy)
  exact hI.first j hj
theorem less_perm {h h' : List Tm} (hP : h.Perm L) {i : Nat} (hi : i < h.length) (hc : h'.Perm (cutL h i)) : h'.Perm (L.erase (tat h i)) := by
  have h1 := (cutL_perm h i hi).symm.trans hP
  exact hc.trans (List.cons_perm_iff_perm_erase.1 h1).2
theorem tim_new (B : Below w0.heap.size w0 w) :
    Calls Try.prog 51 #[] w fun e w' => ∃ b F, e = .returned (.pointer (some ⟨b, 0, none⟩)) ∧ TimI w0 w' b [] 0 F ∧ (∀ k, F k → w.heap.size ≤ k) ∧ Tch NoBlk w w' := by
  refine (timer_new w).mono ?_
  rintro e w' ⟨b, F, rfl, hQ, hF, hT⟩
  exact ⟨b, F, rfl, ⟨⟨[], hQ, fun j h0 hj => by simp at hj, List.Perm.refl _⟩, fun i hi => Nat.le_trans B.size (hF i hi), below_no B hT⟩, hF, hT⟩
theorem tim_put (H : TimI w0 w b L n F) (due item : Int) (hl : L.length < 64) (hn0 : 0 ≤ n) (hn : n < 4611686018427387904) :
    Calls Try.prog 34 #[.pointer (some ⟨b, 0, none⟩), .int .i64 due, .int .i64 item] w fun e w' => e = .returned (.tuple #[.int .i64 n, .int .i64 0]) ∧ Tch F w w' ∧ ∃ F', TimI w0 w' b (L ++ [(due, n, item)]) (n + 1) F' ∧ ∀ k, F' k → F k ∨ w.heap.size ≤ k := by
  obtain ⟨h, hQ, hI, hP⟩ := H.q
  refine (timer_put b h n F due item w hQ hI (by rw [hP.length_eq]; exact hl) hn0 hn).mono ?_
  rintro e w' ⟨rfl, hT, h', F', h1, h2, h3, h4⟩
  exact ⟨rfl, hT, F', ⟨⟨h', h1, h2, h3.trans (hP.append_right _)⟩, fun i hi => (h4 i hi).elim (H.base i) (fun e => Nat.le_trans H.below.size e), below_tch H.below hT H.base⟩, h4⟩
theorem tim_len (H : TimI w0 w b L n F) :
    Calls Try.prog 33 #[.pointer (some ⟨b, 0, none⟩)] w fun e w' => e = .returned (.int .i64 L.length) ∧ w' = w := by
  obtain ⟨h, hQ, hI, hP⟩ := H.q
  rw [← hP.length_eq]
  exact timer_len b h n F w hQ
theorem TimI.less {h : List Tm} {i : Nat} (H : TimI w0 w b L n F) (hP : h.Perm L) (hi : i < h.length) (hL : TimerLess w w' b h n F i) : TimI w0 w' b (L.erase (tat h i)) n F ∧ Tch F w w' := by
  obtain ⟨hT, h', h1, h2, h3⟩ := hL
  exact ⟨⟨⟨h', h1, h2, less_perm hP hi h3⟩, H.base, below_tch H.below hT H.base⟩, hT⟩
theorem tim_next_none (H : TimI w0 w b [] n F) :
    Calls Try.prog 48 #[.pointer (some ⟨b, 0, none⟩)] w fun e w' => e = .returned (.tuple #[.int .i64 0, .bool false]) ∧ w' = w := by
  obtain ⟨h, hQ, hI, hP⟩ := H.q
  obtain rfl := hP.eq_nil
  exact timer_next_none b n F w hQ
theorem tim_next (H : TimI w0 w b L n F) (hl : 0 < L.length) :
    Calls Try.prog 48 #[.pointer (some ⟨b, 0, none⟩)] w fun e w' => ∃ m, FirstOf L m ∧ e = .returned (.tuple #[.int .i64 m.1, .bool true]) ∧ w' = w := by
  obtain ⟨h, hQ, hI, hP⟩ := H.q
  have hh : 0 < h.length := by rw [hP.length_eq]; exact hl
  refine (timer_next_some b h n F w hQ hh).mono ?_
  rintro e w' ⟨rfl, rfl⟩
  exact ⟨tat h 0, first_of hI hP hh, rfl, rfl⟩
theorem tim_due_none (H : TimI w0 w b [] n F) (now : Int) :
    Calls Try.prog 30 #[.pointer (some ⟨b, 0, none⟩), .int .i64 now] w fun e w' => e = .returned (.tuple #[.int .i64 0, .bool false]) ∧ w' = w := by
  obtain ⟨h, hQ, hI, hP⟩ := H.q
  obtain rfl := hP.eq_nil
  exact timer_due_none b n F now w hQ
theorem tim_due (H : TimI w0 w b L n F) (hl : 0 < L.length) (now : Int) :
    Calls Try.prog 30 #[.pointer (some ⟨b, 0, none⟩), .int .i64 now] w fun e w' => ∃ m, FirstOf L m ∧
      ((now < m.1 ∧ e = .returned (.tuple #[.int .i64 0, .bool false]) ∧ w' = w) ∨ (m.1 ≤ now ∧ e = .returned (.tuple #[.int .i64 m.2.2, .bool true]) ∧ TimI w0 w' b (L.erase m) n F ∧ Tch F w w')) := by
  obtain ⟨h, hQ, hI, hP⟩ := H.q
  have hh : 0 < h.length := by rw [hP.length_eq]; exact hl
  by_cases hd : now < (tat h 0).1
  · refine (timer_due_no b h n F now w hQ hh hd).mono ?_
    rintro e w' ⟨rfl, rfl⟩
    exact ⟨tat h 0, first_of hI hP hh, .inl ⟨hd, rfl, rfl⟩⟩
  · refine (timer_due_yes b h n F now w hQ hI hh (by omega)).mono ?_
    rintro e w' ⟨rfl, hL⟩
    obtain ⟨h1, h2⟩ := H.less hP hh hL
    exact ⟨tat h 0, first_of hI hP hh, .inr ⟨by omega, rfl, h1, h2⟩⟩
end
end Go.Proofs.Ytipbimbnpikbcaa
