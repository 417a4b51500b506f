/- Timers: one is brought down. -/
import Derived.Test.YtipbimbnpikbcaaTimerUp
namespace Go.Proofs.Ytipbimbnpikbcaa
open Go.RowKit

theorem tlt_trans {x y z : Tm} (h : Tlt x y) (k : Tlt y z) : Tlt x z := by unfold Tlt at *; omega

/-- Among the ones below j, as far as c, and j itself: k is the first. -/
structure Least (h : List Tm) (j k c : Nat) : Prop where
  lo : 2 * j + 1 ≤ c
  hi : c ≤ 2 * j + 3
  kl : k < h.length
  sort : k = j ∨ (0 < k ∧ (k - 1) / 2 = j ∧ Tlt (tat h k) (tat h j))
  least : ∀ d, 2 * j + 1 ≤ d → d < c → d < h.length → ¬ Tlt (tat h d) (tat h k)
theorem Least.start (h : List Tm) (j : Nat) (hj : j < h.length) : Least h j j (2 * j + 1) := ⟨by omega, by omega, hj, .inl rfl, fun d h1 h2 => by omega⟩
theorem Least.take {h : List Tm} {j k c : Nat} (H : Least h j k c) (hc : c ≤ 2 * j + 2) (hl : c < h.length) (ht : Tlt (tat h c) (tat h k)) : Least h j c (c + 1) := by
  have := H.lo
  refine ⟨by omega, by omega, hl, .inr ⟨by omega, by omega, ?_⟩, fun d h1 h2 h3 => ?_⟩
  · rcases H.sort with e | ⟨_, _, e⟩
    · rw [← e]; exact ht
    · exact tlt_trans ht e
  · by_cases hd : d = c
    · subst hd
      exact Tlt.irrefl _
    · exact tlt_le ht (H.least d h1 (by omega) h3)
theorem Least.pass {h : List Tm} {j k c : Nat} (H : Least h j k c) (hc : c ≤ 2 * j + 2) (ht : ¬ Tlt (tat h c) (tat h k)) : Least h j k (c + 1) := by
  have := H.lo
  refine ⟨by omega, by omega, H.kl, H.sort, fun d h1 h2 h3 => ?_⟩
  by_cases hd : d = c
  · subst hd
    exact ht
  · exact H.least d h1 (by omega) h3
theorem Least.all {h : List Tm} {j k c : Nat} (H : Least h j k c) (he : 2 * j + 2 < c ∨ h.length ≤ c) : ∀ d, 0 < d → d < h.length → (d - 1) / 2 = j → ¬ Tlt (tat h d) (tat h k) :=
  fun d h0 h1 h2 => H.least d (by omega) (by omega) h1


set_option maxHeartbeats 2000000 in
set_option maxRecDepth 100000 in
theorem timer_down (b : Nat) (h : List Tm) (n : Int) (g c : Nat) (i : Nat) (w : World) (H : TimersAt w b h n (some ⟨g, 0, none⟩) c (some g)) (hU : DownInv h i) :
    Calls Try.prog 68 #[.pointer (some ⟨b, 0, none⟩), .int .i64 i] w fun e w' => e = .returned (.tuple #[]) ∧ ∃ h', HeapAt w w' b h h' n g c ∧ IsHeap h' := by
  have HH : HeapAt w w b h h n g c := ⟨H, List.Perm.refl _, Tch.refl _ w⟩
  clear H
  go_enter Try.func68, Try.ntmps68
  go_wp2_with fail
  go_loopw [1] (fun x wr => ∃ (j : Nat) (h' : List Tm), x = .int .i64 j ∧ HeapAt w wr b h h' n g c ∧ DownInv h' j) (fun x _ => 64 - (intOf x).toNat)
  case atStart => exact ⟨i, h, rfl, HH, hU⟩
  case round =>
    clear HH hU
    obtain ⟨j, h', rfl, HH, hU⟩ := hrel
    have hle := HH.at_.le
    have hjl := hU.lt
    have hj64 : j < 64 := by omega
    have HU := Lib.hid hU
    have HL0 := Lib.hid (Least.start h' j hjl)
    clear hU
    go_wp2_with fail
    go_loopw [4, 5] (fun y x wr => ∃ k d : Nat, y = .int .i64 k ∧ x = .int .i64 d ∧ HeapAt w wr b h h' n g c ∧ Least h' j k d) (fun _ x _ => 2 * j + 3 - (intOf x).toNat)
    case atStart => exact ⟨j, 2 * j + 1, rfl, num (by omega), HH, HL0.out⟩
    case round =>
      clear HH HL0
      obtain ⟨k, d, rfl, rfl, HH, hL⟩ := hrel
      have h1 := hL.lo
      have h2 := hL.hi
      have hkl := hL.kl
      have hd130 : d ≤ 130 := by omega
      have hc0 := HH.at_.blk.cellOf 0 _ rfl
      have HL := Lib.hid hL
      clear hL
      by_cases hd : d ≤ 2 * j + 2
      · have hdi : decide ((d : Int) ≤ 2 * (j : Int) + 2) = true := by simp; omega
        by_cases hdl : d < h'.length
        · have hdli : decide ((d : Int) < (h'.length : Int)) = true := by simp; omega
          have hdln : decide (d < h'.length) = true := by simp; omega
          by_cases ht : Tlt (tat h' d) (tat h' k)
          · have HN := Lib.hid (HL.out.take hd hdl ht)
            go_wp2_with fail
            refine (timer_ahead b h' n _ c _ d k _ HH.at_ hdl hkl).mono ?_
            rw [decide_eq_true ht]
            rintro e w5 ⟨rfl, hT⟩
            have HH5 := Lib.hid (HH.nothing hT)
            clear HH hT ht HL hc0
            go_wp2
            go_roundw
            case rel => exact ⟨d, d + 1, rfl, num (by omega), HH5.out, HN.out⟩
            case measure => simp [intOf]; omega
          · have HN := Lib.hid (HL.out.pass hd ht)
            go_wp2_with fail
            refine (timer_ahead b h' n _ c _ d k _ HH.at_ hdl hkl).mono ?_
            rw [decide_eq_false ht]
            rintro e w5 ⟨rfl, hT⟩
            have HH5 := Lib.hid (HH.nothing hT)
            clear HH hT ht HL hc0
            go_wp2
            go_roundw
            case rel => exact ⟨k, d + 1, rfl, num (by omega), HH5.out, HN.out⟩
            case measure => simp [intOf]; omega
        · have hdli : decide ((d : Int) < (h'.length : Int)) = false := by simp; omega
          have hdln : decide (d < h'.length) = false := by simp; omega
          have hend : 2 * j + 2 < d ∨ h'.length ≤ d := .inr (by omega)
          clear hd hdl
          -- the ones below are looked through
          by_cases hkj : k = j
          · subst hkj
            have HD := Lib.hid (HU.out.done (HL.out.all hend))
            have HE := Lib.hid HH
            have heq : ((k : Int) == (k : Int)) = true := by simp
            clear HH HL hend
            go_wp2
            ((try simp only [Exit.inBlock, Exit.then]); refine bodyPost_ret (results_none rfl _ _ _) rfl ?_)
            exact ⟨rfl, h', HE.out, HD.out⟩
          · have heq : ((k : Int) == (j : Int)) = false := by simp; omega
            have heqn : (k == j) = false := by simp; omega
            have hk3 : 0 < k ∧ (k - 1) / 2 = j ∧ Tlt (tat h' k) (tat h' j) := HL.out.sort.elim (fun e => absurd e hkj) (fun e => e)
            have HV := Lib.hid (HU.out.step HL.out.kl hk3.1 hk3.2.1 hk3.2.2 (HL.out.all hend))
            have hkl := HL.out.kl
            have hjk : j < k := by omega
            clear HL hend hk3
            go_wp2_with fail
            refine (timer_swap b h' n g c j k _ HH.at_ hjl hkl).mono ?_
            rintro e w6 ⟨rfl, h6, hT6⟩
            have HN := Lib.hid (HH.swap j k hjl hkl h6 hT6)
            clear HH h6 hT6
            go_wp2
            go_roundw
            case rel => exact ⟨k, _, rfl, HN.out, HV.out⟩
            case measure => simp [intOf]; omega
      · have hdi : decide ((d : Int) ≤ 2 * (j : Int) + 2) = false := by simp; omega
        have hend : 2 * j + 2 < d ∨ h'.length ≤ d := .inl (by omega)
        clear hd
        -- the ones below are looked through
        by_cases hkj : k = j
        · subst hkj
          have HD := Lib.hid (HU.out.done (HL.out.all hend))
          have HE := Lib.hid HH
          have heq : ((k : Int) == (k : Int)) = true := by simp
          clear HH HL hend
          go_wp2
          ((try simp only [Exit.inBlock, Exit.then]); refine bodyPost_ret (results_none rfl _ _ _) rfl ?_)
          exact ⟨rfl, h', HE.out, HD.out⟩
        · have heq : ((k : Int) == (j : Int)) = false := by simp; omega
          have heqn : (k == j) = false := by simp; omega
          have hk3 : 0 < k ∧ (k - 1) / 2 = j ∧ Tlt (tat h' k) (tat h' j) := HL.out.sort.elim (fun e => absurd e hkj) (fun e => e)
          have HV := Lib.hid (HU.out.step HL.out.kl hk3.1 hk3.2.1 hk3.2.2 (HL.out.all hend))
          have hkl := HL.out.kl
          have hjk : j < k := by omega
          clear HL hend hk3
          go_wp2_with fail
          refine (timer_swap b h' n g c j k _ HH.at_ hjl hkl).mono ?_
          rintro e w6 ⟨rfl, h6, hT6⟩
          have HN := Lib.hid (HH.swap j k hjl hkl h6 hT6)
          clear HH h6 hT6
          go_wp2
          go_roundw
          case rel => exact ⟨k, _, rfl, HN.out, HV.out⟩
          case measure => simp [intOf]; omega
end Go.Proofs.Ytipbimbnpikbcaa
