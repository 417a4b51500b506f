/- TimerFull's walk. -/
import Derived.Test.YtbdmmijfcgafcaaTimShown
namespace Go.Proofs.Ytbdmmijfcgafcaa
open Go.RowKit

theorem remM_none {L : List Tm} {x : Int} (h : ∀ y ∈ L, y.2.1 ≠ x) : remM L x = (L, 0, false) := by
  unfold remM
  rw [List.find?_eq_none.2 (fun y hy => by simpa using h y hy)]
theorem remM_gone {L : List Tm} {n : Int} (O : RowOk L n) {m : Tm} (hm : m ∈ L) : remM (L.erase m) m.2.1 = (L.erase m, 0, false) := remM_none (fun y hy e => by
  obtain ⟨h1, h2⟩ := O.mem_erase m hy
  exact h1 (O.inj h2 hm e))

set_option maxHeartbeats 1000000 in
set_option maxRecDepth 100000 in
theorem timerFull_walk (now : Int) (w : World) (_hn : IntKind.i64.min ≤ now ∧ now ≤ IntKind.i64.max) :
    Calls Try.prog 6 #[.int .i64 now] w fun e w' => e = .returned (.bool true) ∧ Below w.heap.size w w' := by
  go_enter Try.func6, Try.ntmps6
  go_wp2_with fail
  refine (timer_shown w).mono ?_
  rintro e w1 ⟨rfl, hT1⟩
  have B1 := below_no (Below.refl _ w) hT1
  clear hT1
  go_wp2_with fail
  refine (tmj_new B1).mono ?_
  rintro e w2 ⟨b, F, rfl, h2, _, _⟩
  clear B1
  go_wp2_with fail
  go_loopw [29] (fun i wr => ∃ (k : Nat) (F : Nat → Prop), i = .int .i64 k ∧ k ≤ 64 ∧ TimJ w wr b (trips (iota 0 64) k) k F) (fun i _ => 64 - (intOf i).toNat)
  case atStart => exact ⟨0, F, rfl, by omega, h2⟩
  case round =>
    clear h2
    obtain ⟨k, F, rfl, hk, H⟩ := hrel
    by_cases hlt : k < 64
    · have ek := iota_getD 0 64 k hlt
      rw [Nat.zero_add] at ek
      have HK := Lib.hid ek
      go_wp2_with fail
      refine (tmj_put H k k (by rw [trips_length]; exact hlt) (by omega) (by omega)).mono ?_
      rintro e w3 ⟨rfl, _, F3, h3, _⟩
      have h4 : TimJ w w3 b (trips (iota 0 64) (k + 1)) ((k + 1 : Nat) : Int) F3 := by
        rw [trips_snoc, HK.out]
        exact h3
      have H4 := Lib.hid h4
      have g1 : ((k : Int) != (k : Int)) = false := by simp
      clear H h3 h4 ek
      go_wp2
      go_roundw
      case rel => exact ⟨k + 1, F3, num (by omega), by omega, H4.out⟩
      case measure => simp [intOf]; omega
    · obtain rfl : k = 64 := by omega
      have hm : trip (iota 0 64) 7 ∈ trips (iota 0 64) 64 := trip_mem _ (by omega)
      have et : trip (iota 0 64) 7 = (7, 7, 7) := rfl
      have E2 : Hid (remM (trips (iota 0 64) 64) 7 = ((trips (iota 0 64) 64).erase (7, 7, 7), 7, true)) := Lib.hid (by
        have := remM_at H.ok hm
        rw [et] at this
        exact this)
      have E3 : Hid (remM ((trips (iota 0 64) 64).erase (7, 7, 7)) 7 = ((trips (iota 0 64) 64).erase (7, 7, 7), 0, false)) := Lib.hid (by
        have := remM_gone H.ok hm
        rw [et] at this
        exact this)
      have EL : Hid (((trips (iota 0 64) 64).erase (7, 7, 7)).length < 64) := Lib.hid (by
        have := erase_len (et ▸ hm)
        rw [trips_length] at this
        omega)
      clear hm et
      go_wp2_with fail
      refine (tmj_full H 0 0 (by rw [trips_length])).mono ?_
      rintro e w3 ⟨rfl, h0⟩; subst w3
      go_wp2_with fail
      refine (tmj_remove H 7 _ _ _ E2.out).mono ?_
      rintro e w4 ⟨rfl, h4, _⟩
      clear H
      go_wp2_with fail
      refine (tmj_remove h4 7 _ _ _ E3.out).mono ?_
      rintro e w5 ⟨rfl, h5, _⟩
      clear h4
      go_wp2_with fail
      refine (tmj_put h5 7 7 EL.out (by omega) (by omega)).mono ?_
      rintro e w6 ⟨rfl, _, F6, h6, _⟩
      have HB := Lib.hid h6.i.below
      clear h5 h6
      go_wp2_with fail
      refine (timer_put_nil now now _).mono ?_
      rintro e w0 ⟨rfl, h0⟩; subst w0
      go_wp2_with fail
      refine (timer_due_nil now _).mono ?_
      rintro e w0 ⟨rfl, h0⟩; subst w0
      go_wp2_with fail
      refine (timer_next_nil _).mono ?_
      rintro e w0 ⟨rfl, h0⟩; subst w0
      go_wp2_with fail
      refine (timer_remove_nil now _).mono ?_
      rintro e w7 ⟨rfl, hT7⟩
      have HB7 := Lib.hid (below_no HB.out hT7)
      clear hT7
      go_wp2_with ((go_at_call 12; refine (timer_len_nil _).mono ?_; rintro e w8 ⟨rfl, hw8⟩; subst w8))
      go_ret
      exact ⟨rfl, HB7.out⟩
end Go.Proofs.Ytbdmmijfcgafcaa
