/- PromiseNone's walk. -/
import Derived.Test.YtfmkjnlelijnoaaPromiseNews
namespace Go.Proofs.Ytfmkjnlelijnoaa
open Go.RowKit

set_option maxHeartbeats 4000000 in
set_option maxRecDepth 100000 in
theorem promiseNone_walk (x0 id : Int) (w : World) (h0 : IntKind.u8.min ≤ x0 ∧ x0 ≤ IntKind.u8.max) (_h1 : IntKind.i64.min ≤ id ∧ id ≤ IntKind.i64.max) :
    Calls Try.prog 8 #[.int .u8 x0, .int .i64 id] w fun e w' => e = .returned (.bool true) ∧ Below w.heap.size w w' := by
  obtain ⟨a0, a1⟩ := h0
  simp only [IntKind.min, IntKind.max, IntKind.signed, IntKind.bits] at a0 a1
  obtain ⟨m, rfl⟩ := Int.eq_ofNat_of_zero_le (show 0 ≤ x0 by simpa using a0)
  have hm : m ≤ 255 := by simp at a1; omega
  obtain ⟨n, hn⟩ : ∃ n, n = m % 101 := ⟨_, rfl⟩
  have hn1 : n ≤ 100 := by omega
  have hnm : (m : Int) % 101 = (n : Int) := by omega
  clear a0 a1 hn
  go_enter Try.func8, Try.ntmps8
  go_wp2_with fail
  refine (promise_shown w).mono ?_
  rintro e w1 ⟨rfl, hT1⟩
  have B1 := below_no (Below.refl _ w) hT1
  clear hT1
  go_wp2_with fail
  refine (prs_new B1).mono ?_
  rintro e w2 ⟨b, F, rfl, h2, _, _⟩
  clear B1
  go_wp2_with fail
  simp only [hnm]
  clear hnm
  go_loopw [27] (fun i wr => ∃ (k : Nat) (F : Nat → Prop), i = .int .i64 k ∧ k ≤ n ∧ PrsI w wr b (news k) F) (fun i _ => n - (intOf i).toNat)
  case atStart => exact ⟨0, F, rfl, Nat.zero_le _, h2⟩
  case round =>
    clear h2
    obtain ⟨k, F, rfl, hk, hI⟩ := hrel
    by_cases hlt : k < n
    · have hne : ((k : Int) != (k : Int)) = false := by simp
      go_wp2_with fail
      refine (prs_make hI _ _ _ (news_make k (by omega))).mono ?_
      rintro e w3 ⟨rfl, _, F3, hI3, _⟩
      clear hI
      go_wp2
      go_roundw
      case rel => exact ⟨k + 1, F3, rfl, by omega, hI3⟩
      case measure => simp [intOf]; omega
    · obtain rfl : k = n := by omega
      clear hlt hk
      have hlen := news_length k
      by_cases hid : id < 0 ∨ (k : Int) ≤ id
      · have hid2 : id < 0 ∨ ((news k).length : Int) ≤ id := by rw [hlen]; exact hid
        have EV := Lib.hid (value_off (news k) id hid2)
        have ET := Lib.hid (then_off (news k) id 1 hid2)
        have ES := Lib.hid (settle_off (news k) id 2 hid2)
        have EW := Lib.hid (waits_off (news k) id hid2)
        have EL := Lib.hid hlen
        have HID := Lib.hid hid
        clear hid2 hlen hid
        go_wp2_with fail
        refine (prs_value hI id _ _ _ EV.out).mono ?_
        rintro e w3 ⟨rfl, n3, rfl⟩
        have hI3 := hI.drewN n3
        clear hI
        go_wp2_with fail
        refine (prs_then hI3 id 1 _ _ _ _ ET.out).mono ?_
        rintro e w4 ⟨rfl, hI4, _⟩
        clear hI3
        go_wp2_with fail
        refine (prs_settle hI4 id 2 _ _ _ ES.out).mono ?_
        rintro e w5 ⟨A, c, G, rfl, hs, _, hI5, _⟩
        clear hI4
        rcases Int.lt_or_le id 0 with g | g
        · have d1 : decide ((0 : Int) ≤ id) = false := by simp; omega
          clear g HID
          go_wp2_with fail
          refine (prs_waits hI5 id _ EW.out).mono ?_
          rintro e w6 ⟨rfl, h6⟩; subst w6
          go_wp2_with fail
          refine (prs_len hI5 _ EL.out).mono ?_
          rintro e w6 ⟨rfl, h6⟩; subst w6
          go_wp2
          go_ret
          exact ⟨rfl, hI5.below⟩
        · have d1 : decide ((0 : Int) ≤ id) = true := by simp; omega
          have d2 : decide (id < (k : Int)) = false := by have := HID.out; simp; omega
          clear g HID
          go_wp2_with fail
          refine (prs_waits hI5 id _ EW.out).mono ?_
          rintro e w6 ⟨rfl, h6⟩; subst w6
          go_wp2_with fail
          refine (prs_len hI5 _ EL.out).mono ?_
          rintro e w6 ⟨rfl, h6⟩; subst w6
          go_wp2
          go_ret
          exact ⟨rfl, hI5.below⟩
      · obtain ⟨i, rfl⟩ := Int.eq_ofNat_of_zero_le (show 0 ≤ id by omega)
        have hik : i < k := by omega
        have hg := news_get k i hik
        have EV := Lib.hid (value_at (news k) i _ hg)
        have ET := Lib.hid (then_at (news k) i _ 1 hg rfl (by simp))
        have ES := Lib.hid (settle_at ((news k).set i ⟨false, 0, [1]⟩) i _ 2 (set_get _ _ _ (by rw [hlen]; exact hik)) rfl)
        have EL := Lib.hid (show (((news k).set i ⟨false, 0, [1]⟩).set i ⟨true, 2, []⟩).length = k by rw [List.length_set, List.length_set, hlen])
        have d1 : decide ((0 : Int) ≤ (i : Int)) = true := by simp
        have d2 : decide ((i : Int) < (k : Int)) = true := by simp; omega
        clear hg hlen hid
        go_wp2_with fail
        refine (prs_value hI i _ _ _ EV.out).mono ?_
        rintro e w3 ⟨rfl, n3, rfl⟩
        have hI3 := hI.drewN n3
        clear hI
        go_wp2_with fail
        refine (prs_then hI3 i 1 _ _ _ _ ET.out).mono ?_
        rintro e w4 ⟨rfl, hI4, _⟩
        clear hI3
        go_wp2_with fail
        refine (prs_settle hI4 i 2 _ _ _ ES.out).mono ?_
        rintro e w5 ⟨A, c, G, rfl, hs, _, hI5, _⟩
        clear hI4
        go_wp2_with fail
        refine (ints_same _ _ _ _ [1] [1] _ _ _ (hs.alloc _) (Sl.made w5 3 #[.int .i64 1] 1 rfl (by omega)) rfl).mono ?_
        rintro e w6 ⟨rfl, n6, rfl⟩
        have hI6 := (hI5.alloc (.cells #[.int .i64 1] 3)).drewN n6
        clear hI5 hs
        go_wp2_with fail
        refine (prs_len hI6 _ EL.out).mono ?_
        rintro e w7 ⟨rfl, h7⟩; subst w7
        go_wp2
        go_ret
        exact ⟨rfl, hI6.below⟩
end Go.Proofs.Ytfmkjnlelijnoaa
