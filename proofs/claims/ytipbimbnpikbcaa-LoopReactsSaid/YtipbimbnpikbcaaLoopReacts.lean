/- LoopReacts: what waits for a promise is told in its order. -/
import Derived.Test.YtipbimbnpikbcaaLoopReactsL
import Derived.Test.YtipbimbnpikbcaaLoopLaw2
namespace Go.Proofs.Ytipbimbnpikbcaa
open Go.RowKit


set_option maxHeartbeats 8000000 in
set_option maxRecDepth 100000 in
theorem loopReacts_walk (x0 x1 x2 v : Int) (w : World) (h0 : IntKind.u8.min ≤ x0 ∧ x0 ≤ IntKind.u8.max) (h1 : IntKind.u8.min ≤ x1 ∧ x1 ≤ IntKind.u8.max) (h2 : IntKind.u8.min ≤ x2 ∧ x2 ≤ IntKind.u8.max) (_h3 : IntKind.i64.min ≤ v ∧ v ≤ IntKind.i64.max) :
    Calls Try.prog 7 #[.int .u8 x0, .int .u8 x1, .int .u8 x2, .int .i64 v] w fun e w' => e = .returned (.bool true) ∧ Below w.heap.size w w' := by
  have b0 : 0 ≤ x0 ∧ x0 ≤ 255 := h0
  have b1 : 0 ≤ x1 ∧ x1 ≤ 255 := h1
  have b2 : 0 ≤ x2 ∧ x2 ≤ 255 := h2
  clear h0 h1 h2 _h3
  obtain ⟨a0, rfl⟩ := Int.eq_ofNat_of_zero_le b0.1
  obtain ⟨a1, rfl⟩ := Int.eq_ofNat_of_zero_le b1.1
  obtain ⟨a2, rfl⟩ := Int.eq_ofNat_of_zero_le b2.1
  obtain ⟨n, hn⟩ : ∃ n, n = a0 % 21 := ⟨_, rfl⟩
  obtain ⟨m, hm⟩ : ∃ m, m = a1 % 21 := ⟨_, rfl⟩
  obtain ⟨k, hk⟩ : ∃ k, k = a2 % 21 := ⟨_, rfl⟩
  have u0 : (a0 : Int) % 21 = (n : Int) := by omega
  have u1 : (a1 : Int) % 21 = (m : Int) := by omega
  have u2 : (a2 : Int) % 21 = (k : Int) := by omega
  have v0 : (a0 : Int).tmod 21 = (n : Int) := by rw [Int.tmod_eq_emod_of_nonneg (by omega)]; exact u0
  have v1 : (a1 : Int).tmod 21 = (m : Int) := by rw [Int.tmod_eq_emod_of_nonneg (by omega)]; exact u1
  have v2 : (a2 : Int).tmod 21 = (k : Int) := by rw [Int.tmod_eq_emod_of_nonneg (by omega)]; exact u2
  have ln : n ≤ 20 := by omega
  have lm : m ≤ 20 := by omega
  have lk : k ≤ 20 := by omega
  clear hn hm hk
  have s0 : IntKind.i64.wrap (n : Int) = (n : Int) := by rw [IntKind.wrap_i64]; omega
  have s1 : IntKind.i64.wrap (m : Int) = (m : Int) := by rw [IntKind.wrap_i64]; omega
  have s2 : IntKind.i64.wrap (k : Int) = (k : Int) := by rw [IntKind.wrap_i64]; omega
  go_enter Try.func7, Try.ntmps7
  go_wp2_with fail
  refine (loop_shown w).mono ?_
  rintro e w1 ⟨rfl, hT1⟩
  have HB1 := Lib.hid (below_no (Below.refl _ w) hT1)
  clear hT1
  go_wp2_with fail
  refine (lpi_new (O := fun _ => False) HB1.out (fun _ h => h.elim) 64 (by omega) (by omega)).mono ?_
  rintro e w2 ⟨b, rfl, hI2, _⟩
  clear HB1
  obtain ⟨s3, e3, hR3⟩ := (RS.new 64).promise (by simp)
  have HR3 := Lib.hid hR3
  clear hR3
  go_wp2_with fail
  refine (lpi_promise hI2 e3).mono ?_
  rintro e w3 ⟨rfl, hI3, _⟩
  clear hI2 e3
  go_wp2_with fail
  go_loopw [59] (fun y wr => ∃ (i : Nat) (s : Lp), y = .int .i64 i ∧ i ≤ m ∧ LpI w wr b s (fun _ => False) ∧ RS s [] (waR i) [⟨false, 0, qR i⟩] [] i) (fun y _ => m - (intOf y).toNat)
  case atStart => exact ⟨0, _, rfl, by omega, hI3, HR3.out⟩
  case round =>
    clear hI3 HR3
    obtain ⟨i, s, rfl, hi, hI, hQ⟩ := hrel
    by_cases hlt : i < m
    · have hltI : (i : Int) < (m : Int) := by omega
      have sj : IntKind.i64.wrap (100 + (i : Int)) = 100 + (i : Int) := by rw [IntKind.wrap_i64]; omega
      obtain ⟨s', e', q'⟩ := hQ.thenWait 0 (100 + (i : Int)) (v0 := 0) (q := qR i) rfl (by rw [qR_len]; omega) (by omega)
      rw [waR_len, waR_snoc, qR_snoc] at q'
      have HQ' := Lib.hid q'
      have hlen : s.mic.length < 1000000 := by rw [hQ.micLen]; simp
      have HK : Hid (i + 1 ≤ m) := Lib.hid (by omega)
      clear hQ q'
      go_wp2_with fail
      refine (lpi_then hI 0 (100 + (i : Int)) hlen e').mono ?_
      rintro e w4 ⟨rfl, hI4, _⟩
      clear hI hlen e'
      go_wp2
      go_roundw
      case rel => exact ⟨i + 1, s', num (by omega), HK.out, hI4, HQ'.out⟩
      case measure => simp [intOf]; omega
    · have hie : i = m := by omega
      have hltI : ¬ ((i : Int) < (m : Int)) := by omega
      have HI := Lib.hid hI
      have HQ : Hid (RS s [] (waR m) [⟨false, 0, qR m⟩] [] m) := Lib.hid (by rw [hie] at hQ; exact hQ)
      clear hie hlt hi hI hQ
      go_wp2_with fail
      go_loopw [74] (fun y wr => ∃ (j : Nat) (s : Lp), y = .int .i64 j ∧ j ≤ n ∧ LpI w wr b s (fun _ => False) ∧ RS s (micR j) (waR m) [⟨false, 0, qR m⟩] [] (m + j)) (fun y _ => n - (intOf y).toNat)
      case atStart => exact ⟨0, _, rfl, by omega, HI.out, HQ.out⟩
      case round =>
        clear HI HQ
        obtain ⟨j, s, rfl, hj, hI, hQ⟩ := hrel
        by_cases hlt : j < n
        · have hltJ : (j : Int) < (n : Int) := by omega
          obtain ⟨s', e', q'⟩ := hQ.micro (j : Int) (by omega)
          rw [micR_snoc] at q'
          have HQ' := Lib.hid q'
          have hlen : s.mic.length < 1000000 := by rw [hQ.micLen, micR_len]; omega
          have HK : Hid (j + 1 ≤ n) := Lib.hid (by omega)
          clear hQ q'
          go_wp2_with fail
          refine (lpi_micro hI _ hlen e').mono ?_
          rintro e w4 ⟨rfl, hI4, _⟩
          clear hI hlen e'
          go_wp2
          go_roundw
          case rel => exact ⟨j + 1, s', num (by omega), HK.out, hI4, HQ'.out⟩
          case measure => simp [intOf]; omega
        · have hje : j = n := by omega
          have hltJ : ¬ ((j : Int) < (n : Int)) := by omega
          rw [hje] at hQ
          have hmic : s.mic.length + (settleM s.prs 0 v).2.1.length < 1000000 := by
            rw [hQ.micLen, micR_len, hQ.prs]
            have : (settleM [⟨false, 0, qR m⟩] 0 v).2.1.length = m := by simp [settleM, prOf, qR_len]
            rw [this]
            omega
          obtain ⟨s5, e5, q5⟩ := hQ.settle 0 v (v0 := 0) (q := qR m) rfl
          rw [want_settle] at q5
          have hmic5 : ∀ y, s5.mic.length + (settleM s5.prs 0 y).2.1.length < 1000000 := fun y => by
            rw [q5.micLen, wantL_len, q5.prs]
            have : (settleM [⟨true, v, []⟩] 0 y).2.1.length = 0 := by simp [settleM, prOf]
            simp only [List.set_cons_zero]
            rw [this]
            omega
          obtain ⟨y, hy⟩ : ∃ y, IntKind.i64.wrap (v + 1) = y := ⟨_, rfl⟩
          have hy2 : wrap64 (v + 1) = y := by rw [← hy]; exact (Go.IntWalk.i64_left _).symm
          obtain ⟨s6, e6, q6⟩ := q5.settled 0 y (v0 := v) (q := []) rfl
          have HM5 := Lib.hid (hmic5 y)
          have HQ6 := Lib.hid q6
          have HI := Lib.hid hI
          have HM := Lib.hid hmic
          have HE5 := Lib.hid e5
          have HE6 := Lib.hid e6
          clear hje hlt hj hI hQ hmic hmic5 q5 q6 e5 e6
          go_wp2_with fail
          refine (lpi_settle HI.out 0 v HM.out HE5.out).mono ?_
          rintro e w5 ⟨rfl, hI5, _⟩
          clear HI HM HE5
          have HI5 := Lib.hid hI5
          clear hI5
          go_wp2_with fail
          refine (lpi_settle HI5.out 0 y HM5.out HE6.out).mono ?_
          rintro e w6 ⟨rfl, hI6, _⟩
          have HI6 := Lib.hid hI6
          clear hI6 HI5 HM5 HE6
          go_wp2_with fail
          go_loopw [100] (fun y wr => ∃ (i : Nat) (s : Lp), y = .int .i64 i ∧ i ≤ k ∧ LpI w wr b s (fun _ => False) ∧ RS s (wantL n m v (n + m + i)) (waR m) [⟨true, v, []⟩] [] (m + n + i)) (fun y _ => k - (intOf y).toNat)
          case atStart => exact ⟨0, _, rfl, by omega, HI6.out, HQ6.out⟩
          case round =>
            clear HI6 HQ6
            obtain ⟨i, s, rfl, hi, hI, hQ⟩ := hrel
            by_cases hlt : i < k
            · have hltK : (i : Int) < (k : Int) := by omega
              have sj : IntKind.i64.wrap (200 + (i : Int)) = 200 + (i : Int) := by rw [IntKind.wrap_i64]; omega
              have hlen : s.mic.length < 1000000 := by rw [hQ.micLen, wantL_len]; omega
              have HK : Hid (i + 1 ≤ k) := Lib.hid (by omega)
              by_cases hev : i % 2 = 0
              · have p1 : (i : Int) % 2 = 0 := by omega
                have p2 : (i : Int).tmod 2 = 0 := by rw [Int.tmod_eq_emod_of_nonneg (by omega)]; exact p1
                obtain ⟨s', e', q'⟩ := hQ.micro (200 + (i : Int)) (by omega)
                rw [wantL_even n m v i hev] at q'
                have HQ' := Lib.hid q'
                clear hQ q' hev
                go_wp2_with fail
                refine (lpi_micro hI _ hlen e').mono ?_
                rintro e w7 ⟨rfl, hI7, _⟩
                clear hI hlen e'
                go_wp2
                go_roundw
                case rel => exact ⟨i + 1, s', num (by omega), HK.out, hI7, HQ'.out⟩
                case measure => simp [intOf]; omega
              · have p1 : (i : Int) % 2 = 1 := by omega
                have p2 : (i : Int).tmod 2 = 1 := by rw [Int.tmod_eq_emod_of_nonneg (by omega)]; exact p1
                obtain ⟨s', e', q'⟩ := hQ.thenTold 0 (200 + (i : Int)) (v := v) (q := []) rfl (by omega)
                rw [wantL_odd n m v i (by omega)] at q'
                have HQ' := Lib.hid q'
                clear hQ q' hev
                go_wp2_with fail
                refine (lpi_then hI 0 _ hlen e').mono ?_
                rintro e w7 ⟨rfl, hI7, _⟩
                clear hI hlen e'
                go_wp2
                go_roundw
                case rel => exact ⟨i + 1, s', num (by omega), HK.out, hI7, HQ'.out⟩
                case measure => simp [intOf]; omega
            · have hie : i = k := by omega
              have hltK : ¬ ((i : Int) < (k : Int)) := by omega
              rw [hie] at hQ
              obtain ⟨T, hT⟩ : ∃ T, T = n + m + k := ⟨_, rfl⟩
              have hTI : (n : Int) + (m : Int) + (k : Int) = (T : Int) := by omega
              have wnm : IntKind.i64.wrap ((n : Int) + (m : Int)) = (n : Int) + (m : Int) := by rw [IntKind.wrap_i64]; omega
              have wT : IntKind.i64.wrap (T : Int) = (T : Int) := by rw [IntKind.wrap_i64]; omega
              have HQ : Hid (RS s (wantF n m v 0 T) (waR m) [⟨true, v, []⟩] [] (m + n + k)) := Lib.hid (by rw [← wantF_zero, hT]; exact hQ)
              have HI := Lib.hid hI
              have HT := Lib.hid hT
              clear hie hlt hi hI hQ hT
              go_wp2_with fail
              go_loopw [129] (fun y wr => ∃ (i : Nat) (s : Lp), y = .int .i64 i ∧ i ≤ T ∧ LpI w wr b s (fun _ => False) ∧ RS s (wantF n m v i T) (waR m) [⟨true, v, []⟩] [] (m + n + k)) (fun y _ => T - (intOf y).toNat)
              case atStart => exact ⟨0, _, rfl, by omega, HI.out, HQ.out⟩
              case round =>
                clear HI HQ
                obtain ⟨i, s, rfl, hi, hI, hQ⟩ := hrel
                by_cases hlt : i < T
                · have hltT : (i : Int) < (T : Int) := by omega
                  have hT := HT.out
                  rw [wantF_cons n m v i T hlt] at hQ
                  obtain ⟨s', x, e2, hQ', e3⟩ := hQ.next
                  obtain ⟨kd, fn, arg, tok⟩ := x
                  dsimp only at e3
                  have HQ' := Lib.hid hQ'
                  have HK : Hid (i + 1 ≤ T) := Lib.hid (by omega)
                  have q1 : IntKind.i64.wrap ((i : Int) - (n : Int)) = (i : Int) - (n : Int) := by rw [IntKind.wrap_i64]; omega
                  have hNX := Lib.hid (lpi_next hI e2)
                  clear hQ hQ' hI e2
                  by_cases h1 : i < n
                  · rw [wantR, if_pos h1] at e3
                    obtain ⟨rfl, rfl, rfl⟩ : kd = 2 ∧ fn = (i : Int) ∧ arg = 0 := by simpa using e3
                    have g1 : ¬ ((n : Int) + (m : Int) ≤ (i : Int)) := by omega
                    have g2 : ¬ ((n : Int) ≤ (i : Int)) := by omega
                    clear e3 h1 hlt hT
                    go_wp2_with fail
                    refine hNX.out.mono ?_
                    rintro e w7 ⟨rfl, hI7, _⟩
                    clear hNX
                    simp only [Option.getD_some, Option.isSome_some, tkv]
                    go_wp2
                    go_roundw
                    case rel => exact ⟨i + 1, s', num (by omega), HK.out, hI7.nothing (((Tch.refl NoBlk w7).alloc _).alloc _), HQ'.out⟩
                    case measure => simp [intOf]; omega
                  · by_cases h2 : i < n + m
                    · rw [wantR, if_neg h1, if_pos h2] at e3
                      obtain ⟨rfl, rfl, rfl⟩ : kd = 4 ∧ fn = 100 + ((i - n : Nat) : Int) ∧ arg = v := by simpa using e3
                      have g1 : ¬ ((n : Int) + (m : Int) ≤ (i : Int)) := by omega
                      have g2 : (n : Int) ≤ (i : Int) := by omega
                      have g3 : IntKind.i64.wrap (100 + (i : Int)) = 100 + (i : Int) := by rw [IntKind.wrap_i64]; omega
                      have g4 : IntKind.i64.wrap (100 + (i : Int) - (n : Int)) = 100 + ((i - n : Nat) : Int) := by rw [IntKind.wrap_i64]; omega
                      clear e3 h1 h2 hlt hT
                      generalize i - n = d at *
                      go_wp2_with fail
                      refine hNX.out.mono ?_
                      rintro e w7 ⟨rfl, hI7, _⟩
                      clear hNX
                      simp only [Option.getD_some, Option.isSome_some, tkv]
                      go_wp2
                      go_roundw
                      case rel => exact ⟨i + 1, s', num (by omega), HK.out, hI7.nothing (((Tch.refl NoBlk w7).alloc _).alloc _), HQ'.out⟩
                      case measure => simp [intOf]; omega
                    · have g1 : (n : Int) + (m : Int) ≤ (i : Int) := by omega
                      have g3 : IntKind.i64.wrap (200 + (i : Int)) = 200 + (i : Int) := by rw [IntKind.wrap_i64]; omega
                      have g4 : IntKind.i64.wrap (200 + (i : Int) - (n : Int)) = 200 + (i : Int) - (n : Int) := by rw [IntKind.wrap_i64]; omega
                      have g5 : IntKind.i64.wrap (200 + (i : Int) - (n : Int) - (m : Int)) = 200 + ((i - n - m : Nat) : Int) := by rw [IntKind.wrap_i64]; omega
                      have g6 : IntKind.i64.wrap ((i : Int) - (n : Int) - (m : Int)) = ((i - n - m : Nat) : Int) := by rw [IntKind.wrap_i64]; omega
                      by_cases h3 : (i - n - m) % 2 = 0
                      · rw [wantR, if_neg h1, if_neg h2, if_pos h3] at e3
                        obtain ⟨rfl, rfl, rfl⟩ : kd = 2 ∧ fn = 200 + ((i - n - m : Nat) : Int) ∧ arg = 0 := by simpa using e3
                        generalize i - n - m = d at *
                        have p1 : (d : Int) % 2 = 0 := by omega
                        have p2 : (d : Int).tmod 2 = 0 := by rw [Int.tmod_eq_emod_of_nonneg (by omega)]; exact p1
                        clear e3 h1 h2 h3 hlt hT
                        go_wp2_with fail
                        refine hNX.out.mono ?_
                        rintro e w7 ⟨rfl, hI7, _⟩
                        clear hNX
                        simp only [Option.getD_some, Option.isSome_some, tkv]
                        go_wp2
                        go_roundw
                        case rel => exact ⟨i + 1, s', num (by omega), HK.out, hI7.nothing (((Tch.refl NoBlk w7).alloc _).alloc _), HQ'.out⟩
                        case measure => simp [intOf]; omega
                      · rw [wantR, if_neg h1, if_neg h2, if_neg h3] at e3
                        obtain ⟨rfl, rfl, rfl⟩ : kd = 4 ∧ fn = 200 + ((i - n - m : Nat) : Int) ∧ arg = v := by simpa using e3
                        generalize i - n - m = d at *
                        have p1 : (d : Int) % 2 = 1 := by omega
                        have p2 : (d : Int).tmod 2 = 1 := by rw [Int.tmod_eq_emod_of_nonneg (by omega)]; exact p1
                        clear e3 h1 h2 h3 hlt hT
                        go_wp2_with fail
                        refine hNX.out.mono ?_
                        rintro e w7 ⟨rfl, hI7, _⟩
                        clear hNX
                        simp only [Option.getD_some, Option.isSome_some, tkv]
                        go_wp2
                        go_roundw
                        case rel => exact ⟨i + 1, s', num (by omega), HK.out, hI7.nothing (((Tch.refl NoBlk w7).alloc _).alloc _), HQ'.out⟩
                        case measure => simp [intOf]; omega
                · have hltT : ¬ ((i : Int) < (T : Int)) := by omega
                  have hie : i = T := by omega
                  rw [hie, wantF_nil] at hQ
                  obtain ⟨s', e2, _⟩ := hQ.nextNone
                  have hNX := Lib.hid (lpi_next hI e2)
                  clear hie hlt hi hI hQ e2
                  go_wp2_with fail
                  refine hNX.out.mono ?_
                  rintro e w7 ⟨rfl, hI7, _⟩
                  have HB := Lib.hid (hI7.below.alloc hI7.below.size (.cells #[.int .i64 0, .int .i64 0, .int .i64 0, .int .i64 0] 31))
                  clear hNX hI7
                  simp only [Option.getD_none, Option.isSome_none, tkv, tk0]
                  go_wp2
                  go_ret
                  exact ⟨rfl, HB.out⟩
end Go.Proofs.Ytipbimbnpikbcaa
