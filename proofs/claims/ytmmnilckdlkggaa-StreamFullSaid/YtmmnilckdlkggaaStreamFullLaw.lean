/- StreamFull's walk, the law. -/
import Derived.Test.YtmmnilckdlkggaaStreamFull
namespace Go.Proofs.Ytmmnilckdlkggaa
open Go.RowKit

set_option maxHeartbeats 4000000 in
set_option maxRecDepth 100000 in
theorem streamFull_walk (x0 v : Int) (w : World) (h0 : IntKind.u8.min ≤ x0 ∧ x0 ≤ IntKind.u8.max) (_h1 : IntKind.i64.min ≤ v ∧ v ≤ IntKind.i64.max) :
    Calls Try.prog 4 #[.int .u8 x0, .int .i64 v] w fun e w' => e = .returned (.bool true) ∧ Below w.heap.size w w' := by
  obtain ⟨a0, a1⟩ := h0

  simp only [IntKind.min, IntKind.max, IntKind.signed, IntKind.bits] at a0 a1
  obtain ⟨m, rfl⟩ := Int.eq_ofNat_of_zero_le (show 0 ≤ x0 by simpa using a0)
  have hm : m ≤ 255 := by simp at a1; omega
  obtain ⟨q, hq⟩ : ∃ q, q = m % 32 := ⟨_, rfl⟩
  have hq1 : q < 32 := by omega
  have hqm : (m : Int) % 32 = (q : Int) := by omega
  clear a0 a1 hq
  go_enter Try.func4, Try.ntmps4
  go_wp2_with fail
  refine (stream_shown w).mono ?_
  rintro e w1 ⟨rfl, hT1⟩
  have B1 := below_no (Below.refl _ w) hT1
  clear hT1
  go_wp2_with fail
  refine (str_new w w1 (q + 1) (by omega) (by omega) B1).mono ?_
  rintro e w2 ⟨b, F, rfl, hI2, hF2, hT2⟩
  have B2 := hI2.below
  go_wp2_with fail
  refine (str_new w w2 (q + 1) (by omega) (by omega) B2).mono ?_
  rintro e w3 ⟨b', F', rfl, hI3, hF3, hT3⟩
  have hI : TwoI w w3 b (q + 1) ⟨[], [], []⟩ F b' (q + 1) ⟨[], [], []⟩ F' := ⟨hI2.keep hT3 (fun _ _ h => h) (fun _ h => h.elim), hI3, fun i x y => by have := hI2.q.lt i x; have := hF3 i y; omega⟩
  clear hT2 B1 hF2 hT3 hI3 hI2 hF3 B2
  go_wp2_with fail
  go_loopw [69] (fun i wr => ∃ k : Nat, i = .int .i64 k ∧ k ≤ q + 65 ∧ TwoI w wr b (q + 1) (fullW (q + 1) k v) F b' (q + 1) ⟨[], [], []⟩ F') (fun i _ => q + 65 - (intOf i).toNat)
  case atStart => exact ⟨0, rfl, Nat.zero_le _, by simpa [fullW, wrs] using hI⟩
  case round =>
    clear hI
    obtain ⟨k, rfl, hk, hI⟩ := hrel
    by_cases hlt : k < q + 65
    · have hlt2 : (k : Int) < (q : Int) + 1 + 64 := by omega
      by_cases hkq : k < q + 1
      · have E := Lib.hid (full_write1 (q + 1) k v hkq)
        have hd : decide ((k : Int) < (q : Int) + 1) = true := by simp; omega
        go_wp2_with fail
        refine (two_write hI v k _ _ _ E.out).mono ?_
        rintro e w4 ⟨A, c, G, rfl, hs, hg, hI4, hT⟩
        clear hs hg hT hI
        go_wp2
        go_roundw
        case rel => exact ⟨k + 1, rfl, by omega, hI4⟩
        case measure => simp [intOf]; omega
      · have E := Lib.hid (full_write2 (q + 1) k v (by omega) (by omega))
        have hd : decide ((k : Int) < (q : Int) + 1) = false := by simp; omega
        go_wp2_with fail
        refine (two_write hI v k _ _ _ E.out).mono ?_
        rintro e w4 ⟨A, c, G, rfl, hs, hg, hI4, hT⟩
        clear hs hg hT hI
        go_wp2
        go_roundw
        case rel => exact ⟨k + 1, rfl, by omega, hI4⟩
        case measure => simp [intOf]; omega
    · have HK := Lib.hid (show k = q + 1 + 64 by omega)
      have hge : q + 65 ≤ k := by omega
      have hdl : decide ((k : Int) < (q : Int) + 1 + 64) = false := by simp; omega
      rw [HK.out] at hI
      have E := Lib.hid (full_write3 (q + 1) v)
      clear hk
      clear hlt
      go_wp2_with fail
      refine (two_write hI v _ _ _ _ (E.out _)).mono ?_
      rintro e w4 ⟨A, c, G, rfl, hs, hg, hI4, hT⟩
      clear hs hg hT hI E
      go_wp2_with fail
      go_loopw [17, 99] (fun x i wr => ∃ k g : Nat, x = .int .i64 g ∧ i = .int .i64 k ∧ k ≤ q + 65 ∧ g = min k 64 ∧ TwoI w wr b (q + 1) (fullR (q + 1) k v) F b' (q + 1) ⟨[], [], []⟩ F') (fun _ i _ => q + 65 - (intOf i).toNat)
      case atStart => exact ⟨0, 0, rfl, rfl, Nat.zero_le _, rfl, hI4⟩
      case round =>
        clear hI4
        obtain ⟨k, g, rfl, rfl, hk, hg, hI⟩ := hrel
        have HG := Lib.hid hg
        have hg1 : g ≤ 64 := by omega
        clear hg
        by_cases hlt : k < q + 65
        · have hlt2 : (k : Int) < (q : Int) + 1 + 64 := by omega
          have hwho : ((q : Int) + 1 + 64 + (k : Int) != (q : Int) + 1 + 64 + (k : Int)) = false := by simp
          by_cases hk64 : k < 64
          · have E := Lib.hid (fun who => full_read1 (q + 1) k v who (by omega) hk64)
            go_wp2_with fail
            refine (two_read hI _ _ _ _ (E.out _)).mono ?_
            rintro e w5 ⟨A, c, G, rfl, hs, _, hI5, hT⟩
            obtain ⟨ga, rfl, rfl, hcell⟩ := hs.cells (by simp)
            have hc0 := hcell 0 _ rfl
            have hc1 := hcell 1 _ rfl
            have hca := hs.cap_le
            clear hs hT hI hcell
            go_wp2
            go_roundw
            case rel => exact ⟨k + 1, g + 1, num (by omega), num (by omega), by omega, by have := HG.out; omega, hI5⟩
            case measure => simp [intOf]; omega
          · have E := Lib.hid (fun who => full_read2 (q + 1) k v who (by omega) (by omega))
            go_wp2_with fail
            refine (two_read hI _ _ _ _ (E.out _)).mono ?_
            rintro e w5 ⟨A, c, G, rfl, hs, _, hI5, hT⟩
            obtain ⟨ga, rfl, rfl, hcell⟩ := hs.cells (by simp)
            have hc0 := hcell 0 _ rfl
            have hc1 := hcell 1 _ rfl
            have hca := hs.cap_le
            clear hs hT hI hcell
            go_wp2
            go_roundw
            case rel => exact ⟨k + 1, g, num (by omega), num (by omega), by omega, by have := HG.out; omega, hI5⟩
            case measure => simp [intOf]; omega
        · have HK := Lib.hid (show k = q + 1 + 64 by omega)
          have hge : q + 65 ≤ k := by omega
          have hdl : decide ((k : Int) < (q : Int) + 1 + 64) = false := by simp; omega
          have hg64 : (g : Int) = 64 := by have := HG.out; omega
          simp only [hg64]
          clear hg64
          rw [HK.out] at hI
          have hI' := hI.swap
          clear hlt hk hI
          go_wp2_with fail
          go_loopw [141] (fun i wr => ∃ k : Nat, i = .int .i64 k ∧ k ≤ 64 ∧ TwoI w wr b' (q + 1) ⟨[], iota 0 k, []⟩ F' b (q + 1) (fullR (q + 1) (q + 1 + 64) v) F) (fun i _ => 64 - (intOf i).toNat)
          case atStart => exact ⟨0, rfl, Nat.zero_le _, hI'⟩
          case round =>
            clear hI'
            obtain ⟨k, rfl, hk, hI⟩ := hrel
            by_cases hlt : k < 64
            · have E := Lib.hid (wait_read k hlt)
              go_wp2_with fail
              refine (two_read hI k _ _ _ E.out).mono ?_
              rintro e w5 ⟨A, c, G, rfl, hs, _, hI5, hT⟩
              clear hs hT hI
              go_wp2
              go_roundw
              case rel => exact ⟨k + 1, rfl, by omega, hI5⟩
              case measure => simp [intOf]; omega
            · obtain rfl : k = 64 := by omega
              have E1 := Lib.hid full_read_no
              have E2 := Lib.hid (full_last (q + 1) v)
              clear hlt hk
              go_wp2_with fail
              refine (two_read hI 0 _ _ _ E1.out).mono ?_
              rintro e w5 ⟨A, c, G, rfl, hs, _, hI5, hT⟩
              clear hs hT hI
              go_wp2_with fail
              refine (two_write hI5 v 99 _ _ _ E2.out).mono ?_
              rintro e w6 ⟨A, c, G, rfl, hs, _, hI6, hT⟩
              obtain ⟨ga, rfl, rfl, hcell⟩ := hs.cells (by simp)
              have hc0 := hcell 0 _ rfl
              have hca := hs.cap_le
              have hI7 := hI6.swap
              clear hs hT hI5 hcell hI6
              go_wp2_with fail
              refine (stream_new_no 0 _ (by omega)).mono ?_
              rintro e w7 ⟨rfl, rfl⟩
              go_wp2_with fail
              refine (stream_new_no 33 _ (by omega)).mono ?_
              rintro e w7 ⟨rfl, rfl⟩
              go_wp2_with fail
              refine (stream_write_nil 1 1 _).mono ?_
              rintro e w7 ⟨rfl, rfl⟩
              go_wp2_with fail
              refine (stream_read_nil 1 _).mono ?_
              rintro e w7 ⟨rfl, rfl⟩
              go_wp2_with fail
              refine (stream_len b _ _ F _ hI7.one.q).mono ?_
              rintro e w7 ⟨rfl, rfl⟩
              have hz : (fullR (q + 1) (q + 1 + 64) v).bf.length = 0 := by simp [fullR]
              rw [hz]
              go_wp2_with fail
              refine (stream_len_nil _).mono ?_
              rintro e w7 ⟨rfl, rfl⟩
              go_wp2
              go_ret
              exact ⟨rfl, hI7.one.below⟩
end Go.Proofs.Ytmmnilckdlkggaa
