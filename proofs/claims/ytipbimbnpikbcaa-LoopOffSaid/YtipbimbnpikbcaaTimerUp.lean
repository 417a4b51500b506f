/- Timers: one is brought up, one is brought down. -/
import Derived.Test.YtipbimbnpikbcaaTimer
namespace Go.Proofs.Ytipbimbnpikbcaa
open Go.RowKit

/-- The heap in memory within a loop: some list with such a law, what was there otherwise put in another order. -/
structure HeapAt (w0 w : World) (b : Nat) (h0 h : List Tm) (n : Int) (g c : Nat) : Prop where
  at_ : TimersAt w b h n (some ⟨g, 0, none⟩) c (some g)
  perm : h.Perm h0
  tch : Tch (· = g) w0 w
theorem HeapAt.nothing {w0 w w' : World} {b : Nat} {h0 h : List Tm} {n : Int} {g c : Nat} (H : HeapAt w0 w b h0 h n g c) (T : Tch NoBlk w w') : HeapAt w0 w' b h0 h n g c :=
  ⟨H.at_.keep T (fun h => h) (fun _ _ h => h), H.perm, H.tch.trans (T.mono (fun _ _ h => h.elim))⟩
theorem HeapAt.swap {w0 w w' : World} {b : Nat} {h0 h : List Tm} {n : Int} {g c : Nat} (H : HeapAt w0 w b h0 h n g c) (i k : Nat) (hi : i < h.length) (hk : k < h.length)
    (h1 : TimersAt w' b (swapL h i k) n (some ⟨g, 0, none⟩) c (some g)) (h2 : Tch (· = g) w w') : HeapAt w0 w' b h0 (swapL h i k) n g c :=
  ⟨h1, (swapL_perm h i k hi hk).trans H.perm, H.tch.trans h2⟩

set_option maxHeartbeats 2000000 in
set_option maxRecDepth 100000 in
theorem timer_up (b : Nat) (h : List Tm) (n : Int) (g c : Nat) (i : Nat) (w : World) (H : TimersAt w b h n (some ⟨g, 0, none⟩) c (some g)) (hU : UpInv h i) :
    Calls Try.prog 55 #[.pointer (some ⟨b, 0, none⟩), .int .i64 i] w fun e w' => e = .returned (.tuple #[]) ∧ ∃ h', HeapAt w w' b h h' n g c ∧ IsHeap h' := by
  have HH : HeapAt w w b h h n g c := ⟨H, List.Perm.refl _, Tch.refl _ w⟩
  clear H
  go_enter Try.func55, Try.ntmps55
  go_wp2_with fail
  go_loopw [1] (fun x wr => ∃ (j : Nat) (h' : List Tm), x = .int .i64 j ∧ HeapAt w wr b h h' n g c ∧ UpInv h' j) (fun x _ => (intOf x).toNat)
  case atStart => exact ⟨i, h, rfl, HH, hU⟩
  case round =>
    clear HH hU
    obtain ⟨j, h', rfl, HH, hU⟩ := hrel
    have hle := HH.at_.le
    have hjl := hU.lt
    have hj64 : j < 64 := by omega
    by_cases hj : j = 0
    · subst hj
      have HD := Lib.hid (hU.done (.inl rfl))
      have HE := Lib.hid HH
      clear HH hU
      go_wp2
      go_end0
      exact ⟨rfl, h', HE.out, HD.out⟩
    · have hj0 : 0 < j := by omega
      obtain ⟨p, hp⟩ : ∃ p, p = (j - 1) / 2 := ⟨_, rfl⟩
      have hpj : p < j := by omega
      have hpq : ((j : Int) - 1).tdiv 2 = (p : Int) := by
        rw [hp, Int.tdiv_eq_ediv_of_nonneg (by omega)]
        omega
      have hpq2 : ((j : Int) - 1) / 2 = (p : Int) := by omega
      have hd : decide ((0 : Int) < (j : Int)) = true := by simp; omega
      have hdn : decide (0 < j) = true := by simp; omega
      have HP := Lib.hid hp
      have HU := Lib.hid hU
      clear hp hU
      by_cases hl : Tlt (tat h' j) (tat h' p)
      · go_wp2_with fail
        refine (timer_ahead b h' n _ c _ j p _ HH.at_ hjl (by omega)).mono ?_
        rw [decide_eq_true hl]
        rintro e w5 ⟨rfl, hT⟩
        have HH5 := HH.nothing hT
        clear HH hT
        go_wp2_with fail
        refine (timer_swap b h' n g c j p _ HH5.at_ hjl (by omega)).mono ?_
        rintro e w6 ⟨rfl, h6, hT6⟩
        have HN := Lib.hid (HH5.swap j p hjl (by omega) h6 hT6)
        have HU2 := HU.out.step hj0 (by rw [← HP.out]; exact hl)
        rw [← HP.out] at HU2
        have HV := Lib.hid HU2
        clear HH5 h6 hT6 hl HU2
        go_wp2
        go_roundw
        case rel => exact ⟨p, _, rfl, HN.out, HV.out⟩
        case measure => simp [intOf]; omega
      · go_wp2_with fail
        refine (timer_ahead b h' n _ c _ j p _ HH.at_ hjl (by omega)).mono ?_
        rw [decide_eq_false hl]
        rintro e w5 ⟨rfl, hT⟩
        have HE := Lib.hid (HH.nothing hT)
        have HD := Lib.hid (HU.out.done (.inr (by rw [← HP.out]; exact hl)))
        clear HH hT hl
        go_wp2
        go_end0
        exact ⟨rfl, h', HE.out, HD.out⟩

/-- Where it is not ahead of the one above it, nothing is done. -/
theorem timer_up_stay (b : Nat) (h : List Tm) (n : Int) (g c : Nat) (i : Nat) (w : World) (H : TimersAt w b h n (some ⟨g, 0, none⟩) c (some g)) (hi : i < h.length) (hU : ¬ (0 < i ∧ Tlt (tat h i) (tat h ((i - 1) / 2)))) :
    Calls Try.prog 55 #[.pointer (some ⟨b, 0, none⟩), .int .i64 i] w fun e w' => e = .returned (.tuple #[]) ∧ Tch NoBlk w w' := by
  have hle := H.le
  have hi64 : i < 64 := by omega
  go_enter Try.func55, Try.ntmps55
  go_wp2_with fail
  go_loopw [1] (fun x wr => x = .int .i64 i ∧ wr = w) (fun x _ => (intOf x).toNat)
  case atStart => exact ⟨rfl, rfl⟩
  case round =>
    obtain ⟨rfl, rfl⟩ := hrel
    by_cases hj : i = 0
    · subst hj
      clear H hU
      go_wp2
      go_end0
      exact ⟨rfl, Tch.refl _ _⟩
    · have hj0 : 0 < i := by omega
      obtain ⟨p, hp⟩ : ∃ p, p = (i - 1) / 2 := ⟨_, rfl⟩
      have hl : ¬ Tlt (tat h i) (tat h p) := fun e => hU ⟨hj0, by rw [← hp]; exact e⟩
      have hpj : p < i := by omega
      have hpq : ((i : Int) - 1).tdiv 2 = (p : Int) := by
        rw [hp, Int.tdiv_eq_ediv_of_nonneg (by omega)]
        omega
      have hpq2 : ((i : Int) - 1) / 2 = (p : Int) := by omega
      have hd : decide ((0 : Int) < (i : Int)) = true := by simp; omega
      have hdn : decide (0 < i) = true := by simp; omega
      clear hp hU
      go_wp2_with fail
      refine (timer_ahead b h n _ c _ i p _ H hi (by omega)).mono ?_
      rw [decide_eq_false hl]
      rintro e w5 ⟨rfl, hT⟩
      have HT := Lib.hid hT
      clear H hT hl
      go_wp2
      go_end0
      exact ⟨rfl, HT.out⟩
end Go.Proofs.Ytipbimbnpikbcaa
