/- StreamWaits' walk. -/
import Derived.Test.YtmmnilckdlkggaaStreamLaw
import Derived.Test.YtmmnilckdlkggaaArgs
namespace Go.Proofs.Ytmmnilckdlkggaa
open Go.RowKit

theorem wait_read (k : Nat) (h : k < 64) : readM ⟨[], iota 0 k, []⟩ (k : Int) = (⟨[], iota 0 (k + 1), []⟩, [], 0) := by
  simp only [readM]
  rw [if_pos (by rw [iota_length]; exact h), iota_snoc, Nat.zero_add]
theorem wait_write (room j n : Nat) (v who : Int) : writeM room ⟨[], iota j (n + 1), []⟩ v who = (⟨[], iota (j + 1) n, []⟩, [((j : Int), v), (who, v)], 0) := by
  simp only [writeM, iota_cons]

set_option maxHeartbeats 4000000 in
set_option maxRecDepth 100000 in
theorem streamWaits_walk (x0 x1 : Int) (a : Option Addr) (cap : Nat) (l : List Int) (w : World) (h0 : IntKind.u8.min ≤ x0 ∧ x0 ≤ IntKind.u8.max) (h1 : IntKind.u8.min ≤ x1 ∧ x1 ≤ IntKind.u8.max) (h : IntsIn .i64 w a cap l) :
    Calls Try.prog 7 #[.int .u8 x0, .int .u8 x1, .slice a l.length cap] w fun e w' => e = .returned (.bool true) ∧ Below w.heap.size w w' := by
  obtain ⟨hl, hc, he, _⟩ := h
  have HE := Lib.hid he
  obtain ⟨a0, a1⟩ := h0
  obtain ⟨b0, b1⟩ := h1
  simp only [IntKind.min, IntKind.max, IntKind.signed, IntKind.bits] at a0 a1 b0 b1
  obtain ⟨m, rfl⟩ := Int.eq_ofNat_of_zero_le (show 0 ≤ x0 by simpa using a0)
  obtain ⟨t, rfl⟩ := Int.eq_ofNat_of_zero_le (show 0 ≤ x1 by simpa using b0)
  have hm : m ≤ 255 := by simp at a1; omega
  have ht : t ≤ 255 := by simp at b1; omega
  obtain ⟨q, hq⟩ : ∃ q, q = m % 32 := ⟨_, rfl⟩
  obtain ⟨n, hn⟩ : ∃ n, n = t % 65 := ⟨_, rfl⟩
  have hq1 : q < 32 := by omega
  have hn1 : n ≤ 64 := by omega
  have hqm : (m : Int) % 32 = (q : Int) := by omega
  have hnm : (t : Int) % 65 = (n : Int) := by omega
  clear a0 a1 b0 b1 he hq hn
  go_enter Try.func7, Try.ntmps7
  go_wp2_with fail
  refine (stream_shown w).mono ?_
  rintro e w1 ⟨rfl, hT1⟩
  have B1 := below_no (Below.refl _ w) hT1
  clear hT1
  go_wp2_with fail
  refine (str_new w w1 (q + 1) (by omega) (by omega) B1).mono ?_
  rintro e w2 ⟨b, F, rfl, hI2, hF2, hT2⟩
  clear hT2 B1 hF2
  go_wp2_with fail
  simp only [hnm]
  clear hnm hqm
  go_loopw [39] (fun i wr => ∃ k : Nat, i = .int .i64 k ∧ k ≤ n ∧ StrI w wr b (q + 1) ⟨[], iota 0 k, []⟩ F) (fun i _ => n - (intOf i).toNat)
  case atStart => exact ⟨0, rfl, Nat.zero_le _, hI2⟩
  case round =>
    clear hI2
    obtain ⟨k, rfl, hk, hI⟩ := hrel
    by_cases hlt : k < n
    · have E := Lib.hid (wait_read k (by omega))
      go_wp2_with fail
      refine (str_read hI k _ _ _ E.out).mono ?_
      rintro e w3 ⟨A, c, G, rfl, hs, hg, hI3, hT⟩
      clear hs hg hT hI
      go_wp2
      go_roundw
      case rel => exact ⟨k + 1, rfl, by omega, hI3⟩
      case measure => simp [intOf]; omega
    · have HK := Lib.hid (show k = n by omega)
      have hge : n ≤ k := by omega
      rw [HK.out] at hI
      clear hlt
      go_wp2_with fail
      all_goals
        go_loopw [63] (fun i wr => ∃ j : Nat, i = .int .i64 j ∧ j ≤ min l.length n ∧ StrI w wr b (q + 1) ⟨[], iota j (n - j), []⟩ F) (fun i _ => min l.length n - (intOf i).toNat)
        case atStart => exact ⟨0, rfl, Nat.zero_le _, hI⟩
        case round =>
          clear hI
          obtain ⟨j, rfl, hj, hI⟩ := hrel
          by_cases hlt : j < min l.length n
          · obtain ⟨ba, off, rfl, hcell⟩ := HE.out (by omega)
            have hc1 := hcell j (by omega)
            have hcw : wr.cell? ⟨ba, off + j, none⟩ = some (.int .i64 (l.getD j 0)) := (hI.below.cell (p := ⟨ba, off + j, none⟩) (World.block_lt_of_cell? w _ hc1)).trans hc1
            clear hcell hc1
            generalize l.getD j 0 = v at *
            have E := Lib.hid (wait_write (q + 1) j (n - (j + 1)) v (1000 + j))
            rw [show n - j = n - (j + 1) + 1 from by omega] at hI
            go_wp2_with fail
            refine (str_write hI v (1000 + j) _ _ _ E.out).mono ?_
            rintro e w3 ⟨A, c, G, rfl, hs, hg, hI3, hT⟩
            clear hg hT hI
            go_wp2_with fail
            refine (stream_same _ _ _ _ [((j : Int), v), (1000 + (j : Int), v)] [((j : Int), v), (1000 + (j : Int), v)] _ _ _ (hs.alloc _) (Sl.made w3 34 #[.int .i64 j, .int .i64 v, .int .i64 (1000 + j), .int .i64 v] 2 rfl (by omega)) rfl).mono ?_
            rintro e w5 ⟨rfl, nd, rfl⟩
            have hI5 := (hI3.alloc (.cells #[.int .i64 j, .int .i64 v, .int .i64 (1000 + j), .int .i64 v] 34)).drewN nd
            clear hI3 hs
            go_wp2
            go_roundw
            case rel => exact ⟨j + 1, rfl, by omega, hI5⟩
            case measure => simp [intOf]; omega
          · have HJ := Lib.hid (show j = min l.length n by omega)
            have hge : min l.length n ≤ j := by omega
            clear hlt
            go_wp2_with fail
            refine (stream_waits b _ _ F _ hI.q).mono ?_
            rintro e w5 ⟨rfl, nd, rfl⟩
            have hI5 := hI.drewN nd
            clear hI
            rw [iota_length]
            by_cases hln : l.length ≤ n
            · first
                | (exfalso; omega)
                | (obtain ⟨p, hp⟩ : ∃ p, p = n - j := ⟨_, rfl⟩
                   have hpn : (n : Int) - (l.length : Int) = (p : Int) := by omega
                   have hmn : min (l.length : Int) (n : Int) = (l.length : Int) := by omega
                   rw [← hp]
                   clear hp hge
                   go_wp2_with fail
                   refine (stream_len b _ _ F _ hI5.q).mono ?_
                   rintro e w6 ⟨rfl, rfl⟩
                   go_wp2
                   go_ret
                   exact ⟨rfl, hI5.below⟩)
            · first
                | (exfalso; omega)
                | (have hmn : min (l.length : Int) (n : Int) = (n : Int) := by omega
                   rw [show n - j = 0 from by omega]
                   clear hge
                   go_wp2_with fail
                   refine (stream_len b _ _ F _ hI5.q).mono ?_
                   rintro e w6 ⟨rfl, rfl⟩
                   go_wp2
                   go_ret
                   exact ⟨rfl, hI5.below⟩)
end Go.Proofs.Ytmmnilckdlkggaa
