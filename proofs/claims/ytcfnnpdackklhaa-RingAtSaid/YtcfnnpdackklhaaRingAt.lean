/- RingAt's walk. -/
import Derived.Test.YtcfnnpdackklhaaRingShown
import Derived.Test.YtcfnnpdackklhaaArgs
namespace Go.Proofs.Ytcfnnpdackklhaa
open Go.RowKit

theorem take_snoc (l : List Int) (k : Nat) (h : k < l.length) : l.take (k + 1) = l.take k ++ [l.getD k 0] := by
  rw [List.take_succ_eq_append_getElem h]
  simp [List.getD_eq_getElem?_getD, h]

theorem ret_bool {a b : Bool} (h : a = b) : Ending.returned (.bool a) = .returned (.bool b) := by rw [h]

set_option maxRecDepth 100000 in
theorem ringAt_walk (a : Option Addr) (cap : Nat) (l : List Int) (i : Int) (w : World) (h : IntsIn .i64 w a cap l) (h1 : IntKind.i64.min ≤ i ∧ i ≤ IntKind.i64.max) :
    Calls Try.prog 5 #[.slice a l.length cap, .int .i64 i] w fun e w' => e = .returned (.bool true) ∧ Below w.heap.size w w' := by
  obtain ⟨hl, hc, he, _⟩ := h
  obtain ⟨h1, h2⟩ := h1
  go_enter Try.func5, Try.ntmps5
  go_wp2_with fail
  refine (ring_shown w).mono ?_
  rintro e w1 ⟨rfl, hT1⟩
  have B1 := below_no (Below.refl _ w) hT1
  clear hT1
  go_wp2_with fail
  refine (ring_new_yes 256 w1 (by omega) (by omega)).mono ?_
  rintro e w2 ⟨b, rfl, hb, hR2, hT2⟩
  have hbw : w.heap.size ≤ b := Nat.le_trans B1.size hb
  have B2 := below_no B1 hT2
  clear hT2 B1
  go_wp2_with fail
  all_goals
    go_loopw [32] (fun i wr => ∃ k : Nat, i = .int .i64 k ∧ k ≤ min l.length 256 ∧ RingQ wr b 256 (l.take k) ∧ Below w.heap.size w wr) (fun i _ => 256 - (intOf i).toNat)
    case atStart => exact ⟨0, rfl, Nat.zero_le _, by simpa using hR2, B2⟩
    case round =>
      obtain ⟨k, rfl, hk, hR, B⟩ := hrel
      by_cases hlt : k < min l.length 256
      · obtain ⟨ba, off, rfl, hcell⟩ := he (by omega)
        · have hc1 := hcell k (by omega)
          have HB := Lib.hid B
          have hcw : wr.cell? ⟨ba, off + k, none⟩ = some (.int .i64 (l.getD k 0)) := (B.cell (p := ⟨ba, off + k, none⟩) (World.block_lt_of_cell? w _ hc1)).trans hc1
          have hkl : k < l.length := by omega
          have hk2 : k < 256 := by omega
          clear hlt hcell hc1 B
          generalize hv : l.getD k 0 = v at *
          have HV := Lib.hid hv
          clear hv
          go_wp2_with fail
          refine (ring_put_yes b 256 (l.take k) v _ hR (by simp; omega)).mono ?_
          rintro e w3 ⟨rfl, hR3, hT3⟩
          go_wp2
          go_roundw
          case rel => exact ⟨k + 1, by go_num, by omega, by rw [← HV.out, ← take_snoc l k hkl] at hR3; exact hR3, below_one HB.out hT3 hbw⟩
          case measure => simp [intOf]; omega
      · have HB := Lib.hid B
        clear B
        have hkn : k = min l.length 256 := by omega
        by_cases hi : 0 ≤ i ∧ i < (min l.length 256 : Nat)
        · obtain ⟨hi0, hi1⟩ := hi
          obtain ⟨j, rfl⟩ := Int.eq_ofNat_of_zero_le hi0
          obtain ⟨ba, off, rfl, hcell⟩ := he (by omega)
          · have hc1 := hcell j (by omega)
            have hcw : wr.cell? ⟨ba, off + j, none⟩ = some (.int .i64 (l.getD j 0)) := (HB.out.cell (p := ⟨ba, off + j, none⟩) (World.block_lt_of_cell? w _ hc1)).trans hc1
            clear hc1 hcell
            have hj : j < l.length := by omega
            have hj2 : j < 256 := by omega
            have hlen : (l.take k).length = k := by simp; omega
            have hv : (l.take k).getD ((j : Int).toNat) 0 = l.getD j 0 := by
              simp only [Int.toNat_natCast, List.getD_eq_getElem?_getD, List.getElem?_take]
              rw [if_pos (by omega)]
            have HL := Lib.hid hlen
            have HV := Lib.hid hv
            clear hlen hv hi1
            generalize l.getD j 0 = v at *
            go_wp2_with fail
            refine (ring_at_yes b 256 (l.take k) j _ hR (by omega) (by rw [HL.out]; omega)).mono ?_
            rintro e w3 ⟨rfl, kk, hw⟩
            have B3 := below_no HB.out (hw ▸ (Tch.refl _ _).drewN kk)
            have hR3 := hR.drewN kk
            have hcw3 : w3.cell? ⟨ba, off + j, none⟩ = some (.int .i64 v) := by rw [hw]; exact hcw
            rw [← hw] at hR3
            clear hw hR hcw
            rw [HV.out]
            go_wp2_with fail
            refine (ring_len b 256 (l.take k) w3 hR3).mono ?_
            rintro e w4 ⟨rfl, rfl⟩
            rw [HL.out]
            have HK := Lib.hid hkn
            clear hkn hlt
            go_wp2
            go_ret
            refine ⟨ret_bool ?_, B3⟩
            have := HK.out
            simp
            omega
        · have HI := Lib.hid hi
          have hlen : (l.take k).length = k := by simp; omega
          have HL := Lib.hid hlen
          have HK := Lib.hid hkn
          have hge : min l.length 256 ≤ k := by omega
          clear hlen hlt
          have hi2 : i < 0 ∨ (k : Int) ≤ i := by omega
          clear hkn hi
          have B3 := HB
          go_wp2_with fail
          refine (ring_at_no b 256 (l.take k) i _ hR (by rw [HL.out]; exact hi2)).mono ?_
          rintro e w3 ⟨rfl, rfl⟩
          rcases hi2 with hi2 | hi2
          · go_wp2_with fail
            refine (ring_len b 256 (l.take k) _ hR).mono ?_
            rintro e w4 ⟨rfl, rfl⟩
            rw [HL.out]
            go_wp2
            go_ret
            refine ⟨ret_bool ?_, HB.out⟩
            have := HK.out
            simp
            omega
          · go_wp2_with fail
            refine (ring_len b 256 (l.take k) _ hR).mono ?_
            rintro e w4 ⟨rfl, rfl⟩
            rw [HL.out]
            go_wp2
            go_ret
            refine ⟨ret_bool ?_, HB.out⟩
            have := HK.out
            simp
            omega
end Go.Proofs.Ytcfnnpdackklhaa
