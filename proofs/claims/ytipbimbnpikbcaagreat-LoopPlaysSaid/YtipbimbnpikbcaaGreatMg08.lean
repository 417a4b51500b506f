import Derived.Test.YtipbimbnpikbcaaGreatMg07
/- Timers of a law's own: what waits, in the order of putting. -/
namespace Go.Proofs.YtipbimbnpikbcaaGreat
open Go.RowKit

structure TimI (w0 w : World) (b : Nat) (L : List Tm) (n : Int) (F : Nat → Prop) : Prop where
  q : ∃ h, TimersQ w b h n F ∧ IsHeap h ∧ h.Perm L
  base : ∀ i, F i → w0.heap.size ≤ i
  below : Below w0.heap.size w0 w
/-- None of the row is ahead of it. -/
def FirstOf (L : List Tm) (m : Tm) : Prop := m ∈ L ∧ ∀ y ∈ L, ¬ Tlt y m

section
variable {w0 w w' : World} {b : Nat} {L : List Tm} {n : Int} {F S : Nat → Prop}
theorem TimI.lt (H : TimI w0 w b L n F) : ∀ k, F k → k < w.heap.size := by
  obtain ⟨h, hQ, _⟩ := H.q
  exact hQ.lt
theorem TimI.keep (H : TimI w0 w b L n F) (ht : Tch S w w') (hS : ∀ i, F i → ¬ S i) (hB : ∀ i, S i → w0.heap.size ≤ i) : TimI w0 w' b L n F := by
  obtain ⟨h, hQ, hI, hP⟩ := H.q
  exact ⟨⟨h, hQ.keep ht hS, hI, hP⟩, H.base, below_tch H.below ht hB⟩
theorem TimI.nothing (H : TimI w0 w b L n F) (ht : Tch NoBlk w w') : TimI w0 w' b L n F := H.keep ht (fun _ _ h => h) (fun _ h => h.elim)
theorem mem_tat {h : List Tm} {y : Tm} (hy : y ∈ h) : ∃ j, j < h.length ∧ tat h j = y := by
  obtain ⟨j, hj, e⟩ := List.mem_iff_getElem.1 hy
  exact ⟨j, hj, by simp [tat, List.getD_eq_getElem?_getD, hj, e]⟩
theorem tat_mem {h : List Tm} {j : Nat} (hj : j < h.length) : tat h j ∈ h := by
  have e : tat h j = h[j] := by simp [tat, List.getD_eq_getElem?_getD, hj]
  rw [e]
  exact List.getElem_mem hj
theorem first_of {h : List Tm} (hI : IsHeap h) (hP : h.Perm L) (hl : 0 < h.length) : FirstOf L (tat h 0) := by
  refine ⟨hP.mem_iff.1 (tat_mem hl), fun y hy => ?_⟩
  obtain ⟨j, hj, rfl⟩ := mem_tat (hP.mem_iff.2 hy)
  exact hI.first j hj
theorem less_perm {h h' : List Tm} (hP : h.Perm L) {i : Nat} (hi : i < h.length) (hc : h'.Perm (cutL h i)) : h'.Perm (L.erase (tat h i)) := by
  have h1 := (cutL_perm h i hi).symm.trans hP
  exact hc.trans (List.cons_perm_iff_perm_erase.1 h1).2
theorem tim_new (B : Below w0.heap.size w0 w) :
    Calls Tryz.prog 18 #[] w fun e w' => ∃ b F, e = .returned (.pointer (some ⟨b, 0, none⟩)) ∧ TimI w0 w' b [] 0 F ∧ (∀ k, F k → w.heap.size ≤ k) ∧ Tch NoBlk w w' := by
  refine (timer_new w).mono ?_
  rintro e w' ⟨b, F, rfl, hQ, hF, hT⟩
  exact ⟨b, F, rfl, ⟨⟨[], hQ, fun j h0 hj => by simp at hj, List.Perm.refl _⟩, fun i hi => Nat.le_trans B.size (hF i hi), below_no B hT⟩, hF, hT⟩
theorem tim_put (H : TimI w0 w b L n F) (due item : Int) (hl : L.length < 64) (hn0 : 0 ≤ n) (hn : n < 4611686018427387904) :
    Calls Tryz.prog 54 #[.pointer (some ⟨b, 0, none⟩), .int .i64 due, .int .i64 item] w fun e w' => e = .returned (.tuple #[.int .i64 n, .int .i64 0]) ∧ Tch F w w' ∧ ∃ F', TimI w0 w' b (L ++ [(due, n, item)]) (n + 1) F' ∧ ∀ k, F' k → F k ∨ w.heap.size ≤ k := by
  obtain ⟨h, hQ, hI, hP⟩ := H.q
  refine (timer_put b h n F due item w hQ hI (by rw [hP.length_eq]; exact hl) hn0 hn).mono ?_
  rintro e w' ⟨rfl, hT, h', F', h1, h2, h3, h4⟩
  exact ⟨rfl, hT, F', ⟨⟨h', h1, h2, h3.trans (hP.append_right _)⟩, fun i hi => (h4 i hi).elim (H.base i) (fun e => Nat.le_trans H.below.size e), below_tch H.below hT H.base⟩, h4⟩
theorem tim_len (H : TimI w0 w b L n F) :
    Calls Tryz.prog 47 #[.pointer (some ⟨b, 0, none⟩)] w fun e w' => e = .returned (.int .i64 L.length) ∧ w' = w := by
  obtain ⟨h, hQ, hI, hP⟩ := H.q
  rw [← hP.length_eq]
  exact timer_len b h n F w hQ
theorem TimI.less {h : List Tm} {i : Nat} (H : TimI w0 w b L n F) (hP : h.Perm L) (hi : i < h.length) (hL : TimerLess w w' b h n F i) : TimI w0 w' b (L.erase (tat h i)) n F ∧ Tch F w w' := by
  obtain ⟨hT, h', h1, h2, h3⟩ := hL
  exact ⟨⟨⟨h', h1, h2, less_perm hP hi h3⟩, H.base, below_tch H.below hT H.base⟩, hT⟩
theorem tim_next_none (H : TimI w0 w b [] n F) :
    Calls Tryz.prog 48 #[.pointer (some ⟨b, 0, none⟩)] w fun e w' => e = .returned (.tuple #[.int .i64 0, .bool false]) ∧ w' = w := by
  obtain ⟨h, hQ, hI, hP⟩ := H.q
  obtain rfl := hP.eq_nil
  exact timer_next_none b n F w hQ
theorem tim_next (H : TimI w0 w b L n F) (hl : 0 < L.length) :
    Calls Tryz.prog 48 #[.pointer (some ⟨b, 0, none⟩)] w fun e w' => ∃ m, FirstOf L m ∧ e = .returned (.tuple #[.int .i64 m.1, .bool true]) ∧ w' = w := by
  obtain ⟨h, hQ, hI, hP⟩ := H.q
  have hh : 0 < h.length := by rw [hP.length_eq]; exact hl
  refine (timer_next_some b h n F w hQ hh).mono ?_
  rintro e w' ⟨rfl, rfl⟩
  exact ⟨tat h 0, first_of hI hP hh, rfl, rfl⟩
theorem tim_due_none (H : TimI w0 w b [] n F) (now : Int) :
    Calls Tryz.prog 67 #[.pointer (some ⟨b, 0, none⟩), .int .i64 now] w fun e w' => e = .returned (.tuple #[.int .i64 0, .bool false]) ∧ w' = w := by
  obtain ⟨h, hQ, hI, hP⟩ := H.q
  obtain rfl := hP.eq_nil
  exact timer_due_none b n F now w hQ
theorem tim_due (H : TimI w0 w b L n F) (hl : 0 < L.length) (now : Int) :
    Calls Tryz.prog 67 #[.pointer (some ⟨b, 0, none⟩), .int .i64 now] w fun e w' => ∃ m, FirstOf L m ∧
      ((now < m.1 ∧ e = .returned (.tuple #[.int .i64 0, .bool false]) ∧ w' = w) ∨ (m.1 ≤ now ∧ e = .returned (.tuple #[.int .i64 m.2.2, .bool true]) ∧ TimI w0 w' b (L.erase m) n F ∧ Tch F w w')) := by
  obtain ⟨h, hQ, hI, hP⟩ := H.q
  have hh : 0 < h.length := by rw [hP.length_eq]; exact hl
  by_cases hd : now < (tat h 0).1
  · refine (timer_due_no b h n F now w hQ hh hd).mono ?_
    rintro e w' ⟨rfl, rfl⟩
    exact ⟨tat h 0, first_of hI hP hh, .inl ⟨hd, rfl, rfl⟩⟩
  · refine (timer_due_yes b h n F now w hQ hI hh (by omega)).mono ?_
    rintro e w' ⟨rfl, hL⟩
    obtain ⟨h1, h2⟩ := H.less hP hh hL
    exact ⟨tat h 0, first_of hI hP hh, .inr ⟨by omega, rfl, h1, h2⟩⟩
end
end Go.Proofs.YtipbimbnpikbcaaGreat

/- The row of what waits, in the order of putting, as a plain list: the first one; what Due, Next and Remove answer. No program in sight but in the contracts at the end. -/
namespace Go.Proofs.YtipbimbnpikbcaaGreat
open Go.RowKit

def firstM : List Tm → Option Tm
  | [] => none
  | x :: l => match firstM l with
    | none => some x
    | some y => if Tlt y x then some y else some x
/-- Numbers grow along the row, and are below n. -/
structure RowOk (L : List Tm) (n : Int) : Prop where
  inc : L.Pairwise (fun x y => x.2.1 < y.2.1)
  lt : ∀ y ∈ L, y.2.1 < n

section
variable {L : List Tm} {n : Int} {m : Tm}
theorem firstM_none (h : firstM L = none) : L = [] := by
  cases L with
  | nil => rfl
  | cons x l =>
    simp only [firstM] at h
    split at h
    · cases h
    · split at h <;> cases h
theorem firstM_of (h : firstM L = some m) : FirstOf L m := by
  induction L generalizing m with
  | nil => simp [firstM] at h
  | cons x l ih =>
    simp only [firstM] at h
    split at h
    · rename_i e
      injection h with h
      subst h
      have := firstM_none e
      subst this
      exact ⟨List.mem_singleton.2 rfl, fun y hy => by rw [List.mem_singleton.1 hy]; exact Tlt.irrefl _⟩
    · rename_i y e
      obtain ⟨h1, h2⟩ := ih e
      split at h
      · rename_i hl
        injection h with h
        subst h
        refine ⟨List.mem_cons_of_mem _ h1, fun z hz => ?_⟩
        rcases List.mem_cons.1 hz with rfl | hz
        · exact hl.asymm
        · exact h2 z hz
      · rename_i hl
        injection h with h
        subst h
        refine ⟨List.mem_cons_self, fun z hz => ?_⟩
        rcases List.mem_cons.1 hz with rfl | hz
        · exact Tlt.irrefl _
        · exact tle_trans hl (h2 z hz)
theorem tat_get (i : Nat) (hi : i < L.length) : tat L i = L[i] := by simp [tat, List.getD_eq_getElem?_getD, hi]
theorem RowOk.incAt (H : RowOk L n) {i j : Nat} (hij : i < j) (hj : j < L.length) : (tat L i).2.1 < (tat L j).2.1 := by
  rw [tat_get i (by omega), tat_get j hj]
  exact List.pairwise_iff_getElem.1 H.inc i j (by omega) hj hij
theorem RowOk.inj (H : RowOk L n) {x y : Tm} (hx : x ∈ L) (hy : y ∈ L) (e : x.2.1 = y.2.1) : x = y := by
  obtain ⟨i, hi, rfl⟩ := mem_tat hx
  obtain ⟨j, hj, rfl⟩ := mem_tat hy
  rcases Nat.lt_trichotomy i j with h | rfl | h
  · have := H.incAt h hj
    omega
  · rfl
  · have := H.incAt h hi
    omega
theorem RowOk.put (H : RowOk L n) (d it : Int) : RowOk (L ++ [(d, n, it)]) (n + 1) := by
  refine ⟨List.pairwise_append.2 ⟨H.inc, List.pairwise_singleton _ _, fun x hx y hy => ?_⟩, fun y hy => ?_⟩
  · rw [List.mem_singleton.1 hy]
    exact H.lt x hx
  · rcases List.mem_append.1 hy with hy | hy
    · have := H.lt y hy
      omega
    · rw [List.mem_singleton.1 hy]
      dsimp only
      omega
theorem RowOk.erase (H : RowOk L n) (m : Tm) : RowOk (L.erase m) n :=
  ⟨H.inc.sublist List.erase_sublist, fun y hy => H.lt y (List.mem_of_mem_erase hy)⟩
theorem RowOk.unique (H : RowOk L n) {x y : Tm} (hx : FirstOf L x) (hy : FirstOf L y) : x = y := by
  have h1 := hx.2 y hy.1
  have h2 := hy.2 x hx.1
  refine H.inj hx.1 hy.1 ?_
  unfold Tlt at h1 h2
  omega
theorem RowOk.first (H : RowOk L n) (h : FirstOf L m) : firstM L = some m := by
  cases e : firstM L with
  | none =>
    have := firstM_none e
    subst this
    exact absurd h.1 (by simp)
  | some y => rw [H.unique (firstM_of e) h]
theorem RowOk.firstAt (H : RowOk L n) {k : Nat} (hk : k < L.length) (h1 : ∀ j, j < L.length → (tat L k).1 ≤ (tat L j).1) (h2 : ∀ j, j < k → (tat L k).1 < (tat L j).1) : firstM L = some (tat L k) := by
  refine H.first ⟨tat_mem hk, fun y hy => ?_⟩
  obtain ⟨j, hj, rfl⟩ := mem_tat hy
  have h3 := h1 j hj
  unfold Tlt
  rcases Nat.lt_trichotomy j k with e | rfl | e
  · have := h2 j e
    omega
  · omega
  · have := H.incAt e hj
    omega
theorem RowOk.eraseAt (H : RowOk L n) {k : Nat} (hk : k < L.length) : L.erase (tat L k) = L.eraseIdx k := by
  induction L generalizing k with
  | nil => simp at hk
  | cons x l ih =>
    have Ht : RowOk l n := ⟨(List.pairwise_cons.1 H.inc).2, fun y hy => H.lt y (List.mem_cons_of_mem _ hy)⟩
    cases k with
    | zero => simp [tat]
    | succ k =>
      have hk2 : k < l.length := by simpa using hk
      have e : tat (x :: l) (k + 1) = tat l k := by simp [tat]
      have hne : x ≠ tat l k := fun he => by
        have := (List.pairwise_cons.1 H.inc).1 (tat l k) (tat_mem hk2)
        rw [← he] at this
        omega
      rw [e, List.erase_cons, if_neg (by simpa using hne), ih Ht hk2, List.eraseIdx_cons_succ]
end

/-- What Next answers. -/
def nextM (L : List Tm) : Int × Bool := match firstM L with
  | none => (0, false)
  | some m => (m.1, true)
def dueM (L : List Tm) (now : Int) : List Tm × Int × Bool := match firstM L with
  | none => (L, 0, false)
  | some m => if now < m.1 then (L, 0, false) else (L.erase m, m.2.2, true)
def remM (L : List Tm) (x : Int) : List Tm × Int × Bool := match L.find? (fun y => y.2.1 == x) with
  | none => (L, 0, false)
  | some m => (L.erase m, m.2.2, true)
theorem dueM_ok {L : List Tm} {n : Int} (H : RowOk L n) (now : Int) : RowOk (dueM L now).1 n := by
  unfold dueM
  split
  · exact H
  · split
    · exact H
    · exact H.erase _
theorem remM_ok {L : List Tm} {n : Int} (H : RowOk L n) (x : Int) : RowOk (remM L x).1 n := by
  unfold remM
  split
  · exact H
  · exact H.erase _
theorem dueM_le (L : List Tm) (now : Int) : (dueM L now).1.length ≤ L.length := by
  unfold dueM
  split
  · exact Nat.le_refl _
  · split
    · exact Nat.le_refl _
    · exact List.length_erase_le
theorem remM_le (L : List Tm) (x : Int) : (remM L x).1.length ≤ L.length := by
  unfold remM
  split
  · exact Nat.le_refl _
  · exact List.length_erase_le

/-- The timers of a law's own, the row's numbers in order. -/
structure TimJ (w0 w : World) (b : Nat) (L : List Tm) (n : Int) (F : Nat → Prop) : Prop where
  i : TimI w0 w b L n F
  ok : RowOk L n
  le : L.length ≤ 64
section
variable {w0 w w' : World} {b : Nat} {L : List Tm} {n : Int} {F S : Nat → Prop}
theorem TimJ.keep (H : TimJ w0 w b L n F) (ht : Tch S w w') (hS : ∀ i, F i → ¬ S i) (hB : ∀ i, S i → w0.heap.size ≤ i) : TimJ w0 w' b L n F := ⟨H.i.keep ht hS hB, H.ok, H.le⟩
theorem TimJ.nothing (H : TimJ w0 w b L n F) (ht : Tch NoBlk w w') : TimJ w0 w' b L n F := ⟨H.i.nothing ht, H.ok, H.le⟩
theorem tmj_new (B : Below w0.heap.size w0 w) :
    Calls Tryz.prog 18 #[] w fun e w' => ∃ b F, e = .returned (.pointer (some ⟨b, 0, none⟩)) ∧ TimJ w0 w' b [] 0 F ∧ (∀ k, F k → w.heap.size ≤ k) ∧ Tch NoBlk w w' := by
  refine (tim_new B).mono ?_
  rintro e w' ⟨b, F, rfl, h1, h2, h3⟩
  exact ⟨b, F, rfl, ⟨h1, ⟨List.Pairwise.nil, by simp⟩, by simp⟩, h2, h3⟩
theorem tmj_put (H : TimJ w0 w b L n F) (due item : Int) (hl : L.length < 64) (hn0 : 0 ≤ n) (hn : n < 4611686018427387904) :
    Calls Tryz.prog 54 #[.pointer (some ⟨b, 0, none⟩), .int .i64 due, .int .i64 item] w fun e w' => e = .returned (.tuple #[.int .i64 n, .int .i64 0]) ∧ Tch F w w' ∧ ∃ F', TimJ w0 w' b (L ++ [(due, n, item)]) (n + 1) F' ∧ ∀ k, F' k → F k ∨ w.heap.size ≤ k := by
  refine (tim_put H.i due item hl hn0 hn).mono ?_
  rintro e w' ⟨rfl, h1, F', h2, h3⟩
  exact ⟨rfl, h1, F', ⟨h2, H.ok.put due item, by simp; omega⟩, h3⟩
theorem tmj_full (H : TimJ w0 w b L n F) (due item : Int) (hl : L.length = 64) :
    Calls Tryz.prog 54 #[.pointer (some ⟨b, 0, none⟩), .int .i64 due, .int .i64 item] w fun e w' => e = .returned (.tuple #[.int .i64 0, .int .i64 140]) ∧ w' = w := by
  obtain ⟨h, hQ, hI, hP⟩ := H.i.q
  exact timer_put_full b h n F due item w hQ (by rw [hP.length_eq]; exact hl)
theorem tmj_len (H : TimJ w0 w b L n F) :
    Calls Tryz.prog 47 #[.pointer (some ⟨b, 0, none⟩)] w fun e w' => e = .returned (.int .i64 L.length) ∧ w' = w := tim_len H.i
theorem tmj_next (H : TimJ w0 w b L n F) (x : Int) (ok : Bool) (hm : nextM L = (x, ok)) :
    Calls Tryz.prog 48 #[.pointer (some ⟨b, 0, none⟩)] w fun e w' => e = .returned (.tuple #[.int .i64 x, .bool ok]) ∧ w' = w := by
  unfold nextM at hm
  cases e : firstM L with
  | none =>
    rw [e] at hm
    injection hm with h1 h2
    subst h1
    subst h2
    have := firstM_none e
    subst this
    exact tim_next_none H.i
  | some m =>
    rw [e] at hm
    injection hm with h1 h2
    subst h1
    subst h2
    have h0 := (firstM_of e).1
    refine (tim_next H.i (List.length_pos_of_mem h0)).mono ?_
    rintro e2 w' ⟨m', h3, rfl, rfl⟩
    rw [H.ok.unique h3 (firstM_of e)]
    exact ⟨rfl, rfl⟩
theorem tmj_due (H : TimJ w0 w b L n F) (now : Int) (L' : List Tm) (x : Int) (ok : Bool) (hm : dueM L now = (L', x, ok)) :
    Calls Tryz.prog 67 #[.pointer (some ⟨b, 0, none⟩), .int .i64 now] w fun e w' => e = .returned (.tuple #[.int .i64 x, .bool ok]) ∧ TimJ w0 w' b L' n F ∧ Tch F w w' := by
  unfold dueM at hm
  cases e : firstM L with
  | none =>
    rw [e] at hm
    injection hm with h1 h2
    injection h2 with h2 h3
    subst h1 h2 h3
    have := firstM_none e
    subst this
    refine (tim_due_none H.i now).mono ?_
    rintro e w' ⟨rfl, rfl⟩
    exact ⟨rfl, H, Tch.refl _ _⟩
  | some m =>
    rw [e] at hm
    have h0 := (firstM_of e).1
    refine (tim_due H.i (List.length_pos_of_mem h0) now).mono ?_
    rintro e2 w' ⟨m', h3, h4⟩
    obtain rfl := H.ok.unique h3 (firstM_of e)
    dsimp only at hm
    rcases h4 with ⟨h4, rfl, rfl⟩ | ⟨h4, rfl, h5, h6⟩
    · rw [if_pos h4] at hm
      injection hm with h1 h2
      injection h2 with h2 h3
      subst h1 h2 h3
      exact ⟨rfl, H, Tch.refl _ _⟩
    · rw [if_neg (by omega)] at hm
      injection hm with h1 h2
      injection h2 with h2 h3
      subst h1 h2 h3
      exact ⟨rfl, ⟨h5, H.ok.erase _, Nat.le_trans List.length_erase_le H.le⟩, h6⟩
end
end Go.Proofs.YtipbimbnpikbcaaGreat
