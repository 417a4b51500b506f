/- RingFull's walk. -/
import Derived.Test.YtcfnnpdackklhaaRingShown
import Derived.Test.YtcfnnpdackklhaaIota
namespace Go.Proofs.Ytcfnnpdackklhaa
open Go.RowKit

set_option maxRecDepth 100000 in
theorem ringFull_walk (x0 x1 : Int) (w : World) (h0 : IntKind.u8.min ≤ x0 ∧ x0 ≤ IntKind.u8.max) (h1 : IntKind.u16.min ≤ x1 ∧ x1 ≤ IntKind.u16.max) :
    Calls Try.prog 7 #[.int .u8 x0, .int .u16 x1] w fun e w' => e = .returned (.bool true) ∧ Below w.heap.size w w' := by
  obtain ⟨a0, a1⟩ := h0
  obtain ⟨b0, b1⟩ := h1
  simp only [IntKind.min, IntKind.max, IntKind.signed, IntKind.bits] at a0 a1 b0 b1
  obtain ⟨m, rfl⟩ := Int.eq_ofNat_of_zero_le (show 0 ≤ x0 by simpa using a0)
  obtain ⟨t, rfl⟩ := Int.eq_ofNat_of_zero_le (show 0 ≤ x1 by simpa using b0)
  have hm : m ≤ 255 := by simp at a1; omega
  have ht : t ≤ 65535 := by simp at b1; omega
  clear a0 a1 b0 b1
  go_enter Try.func7, Try.ntmps7
  go_wp2_with fail
  refine (ring_shown w).mono ?_
  rintro e w1 ⟨rfl, hT1⟩
  have B1 := below_no (Below.refl _ w) hT1
  clear hT1
  go_wp2_with fail
  refine (ring_new_yes (m + 1) w1 (by omega) (by omega)).mono ?_
  rintro e w2 ⟨b, rfl, hb, hR2, hT2⟩
  have hbw : w.heap.size ≤ b := Nat.le_trans B1.size hb
  have B2 := below_no B1 hT2
  clear hT2 B1 hb
  go_wp2_with fail
  go_loopw [9, 33] (fun x i wr => ∃ k : Nat, x = .int .i64 k ∧ i = .int .i64 k ∧ k ≤ m + 1 ∧ RingQ wr b (m + 1) (iota 0 k) ∧ Below w.heap.size w wr) (fun _ i _ => m + 1 - (intOf i).toNat)
  case atStart => exact ⟨0, rfl, rfl, Nat.zero_le _, hR2, B2⟩
  case round =>
    clear hR2 B2
    obtain ⟨k, rfl, rfl, hk, hR, B⟩ := hrel
    have HB := Lib.hid B
    clear B
    by_cases hlt : k < m + 1
    · go_wp2_with fail
      refine (ring_put_yes b (m + 1) (iota 0 k) k _ hR (by rw [iota_length]; exact hlt)).mono ?_
      rintro e w3 ⟨rfl, hR3, hT3⟩
      go_wp2
      go_roundw
      case rel => exact ⟨k + 1, by go_num, by go_num, by omega, by rw [iota_snoc, Nat.zero_add]; exact hR3, below_one HB.out hT3 hbw⟩
      case measure => simp [intOf]; omega
    · have HK := Lib.hid (show k = m + 1 by omega)
      have hge : m + 1 ≤ k := by omega
      clear hlt
      go_wp2_with fail
      go_loopw [9, 10, 44] (fun x y i wr => ∃ j : Nat, x = .int .i64 ((m : Int) + 1 + j) ∧ y = .int .i64 j ∧ i = .int .u16 j ∧ j ≤ t % 601 ∧ RingQ wr b (m + 1) (iota j (m + 1)) ∧ Below w.heap.size w wr) (fun _ _ i _ => t % 601 - (intOf i).toNat)
      case atStart => exact ⟨0, by rw [HK.out]; simp, rfl, rfl, Nat.zero_le _, HK.out ▸ hR, HB.out⟩
      case round =>
        clear hR HB
        obtain ⟨j, rfl, rfl, rfl, hj, hR, B⟩ := hrel
        have HB := Lib.hid B
        clear B
        by_cases hlt : j < t % 601
        · go_wp2_with fail
          refine (ring_put_no b (m + 1) _ (-1) _ hR (iota_length _ _)).mono ?_
          rintro e w3 ⟨rfl, hR3, hT3⟩
          have B3 := Lib.hid (below_no HB.out hT3)
          clear hT3 HB hR
          go_wp2_with fail
          refine (ring_len b (m + 1) _ _ hR3).mono ?_
          rintro e w4 ⟨rfl, rfl⟩
          rw [iota_length]
          rw [iota_cons] at hR3
          go_wp2_with fail
          refine (ring_take_yes b (m + 1) _ _ _ hR3).mono ?_
          rintro e w5 ⟨rfl, hR5, hT5⟩
          have B5 := Lib.hid (below_one B3.out hT5 hbw)
          clear hT5 B3 hR3
          go_wp2_with fail
          refine (ring_put_yes b (m + 1) (iota (j + 1) m) ((m : Int) + 1 + j) _ hR5 (by rw [iota_length]; omega)).mono ?_
          rintro e w6 ⟨rfl, hR6, hT6⟩
          have B6 := Lib.hid (below_one B5.out hT6 hbw)
          clear hT6 B5 hR5
          go_wp2
          go_roundw
          case rel => exact ⟨j + 1, by go_num, by go_num, by go_num, by omega, by rw [iota_snoc, show ((j + 1 + m : Nat) : Int) = (m : Int) + 1 + j from by omega]; exact hR6, B6.out⟩
          case measure => simp [intOf]; omega
        · have HJ := Lib.hid (show j = t % 601 by omega)
          have hje : t % 601 ≤ j := by omega
          clear hlt
          go_wp2_with fail
          go_loopw [10, 78] (fun y i wr => ∃ c : Nat, y = .int .i64 ((j : Int) + c) ∧ i = .int .i64 c ∧ c ≤ m + 1 ∧ RingQ wr b (m + 1) (iota (j + c) (m + 1 - c)) ∧ Below w.heap.size w wr) (fun _ i _ => m + 1 - (intOf i).toNat)
          case atStart => exact ⟨0, by simp, rfl, Nat.zero_le _, hR, HB.out⟩
          case round =>
            clear hR HB
            obtain ⟨c, rfl, rfl, hc, hR, B⟩ := hrel
            have HB := Lib.hid B
            clear B
            by_cases hlt : c < m + 1
            · rw [show m + 1 - c = (m - c) + 1 from by omega, iota_cons] at hR
              go_wp2_with fail
              refine (ring_take_yes b (m + 1) _ _ _ hR).mono ?_
              rintro e w5 ⟨rfl, hR5, hT5⟩
              have B5 := Lib.hid (below_one HB.out hT5 hbw)
              clear hT5 HB hR
              rw [show ((j + c : Nat) : Int) = (j : Int) + c from by omega]
              go_wp2
              go_roundw
              case rel => exact ⟨c + 1, by go_num, by go_num, by omega, by rw [show m + 1 - (c + 1) = m - c from by omega]; exact hR5, B5.out⟩
              case measure => simp [intOf]; omega
            · have hce : m + 1 ≤ c := by omega
              have HC := Lib.hid (show c = m + 1 by omega)
              clear hlt
              have hR' : RingQ wr b (m + 1) [] := by rw [HC.out, Nat.sub_self, iota_zero] at hR; exact hR
              go_wp2_with fail
              refine (ring_take_no b (m + 1) _ hR').mono ?_
              rintro e w5 ⟨rfl, rfl⟩
              go_wp2
              go_ret
              refine ⟨ret_bool ?_, HB.out⟩
              have := HC.out
              have := HJ.out
              simp
              omega
end Go.Proofs.Ytcfnnpdackklhaa
