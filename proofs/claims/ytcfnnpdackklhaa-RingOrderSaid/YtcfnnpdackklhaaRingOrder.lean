/- RingOrder's walk. -/
import Derived.Test.YtcfnnpdackklhaaRingShown
import Derived.Test.YtcfnnpdackklhaaIota
import Derived.Test.YtcfnnpdackklhaaArgs
namespace Go.Proofs.Ytcfnnpdackklhaa
open Go.RowKit

set_option maxHeartbeats 4000000 in
set_option maxRecDepth 100000 in
theorem ringOrder_walk (x0 : Int) (a : Option Addr) (cap : Nat) (l : List Int) (w : World) (h0 : IntKind.u8.min ≤ x0 ∧ x0 ≤ IntKind.u8.max) (h : IntsIn .u8 w a cap l) :
    Calls Try.prog 4 #[.int .u8 x0, .slice a l.length cap] w fun e w' => e = .returned (.bool true) ∧ Below w.heap.size w w' := by
  simp only [IntKind.min, IntKind.max, IntKind.signed, IntKind.bits] at h0
  simp at h0
  obtain ⟨m, rfl⟩ := Int.eq_ofNat_of_zero_le h0.1
  have hm : m ≤ 255 := by omega
  obtain ⟨hl, hc, he, hwf⟩ := h
  have HE := Lib.hid he
  have HW := Lib.hid hwf
  have hmx : max (60 : Int) 0 = 60 := by decide
  clear he h0 hwf
  go_enter Try.func4, Try.ntmps4
  go_wp2_with fail
  refine (ring_shown w).mono ?_
  rintro e w1 ⟨rfl, hT1⟩
  have B1 := below_no (Below.refl _ w) hT1
  clear hT1
  go_wp2_with fail
  refine (ring_new_yes (m + 1) w1 (by omega) (by omega)).mono ?_
  rintro e w2 ⟨b, rfl, hb, hR2, hT2⟩
  have hbw : w.heap.size ≤ b := Nat.le_trans B1.size hb
  have B2 := below_no B1 hT2
  clear hT2 B1 hb
  go_wp2_with fail
  all_goals
    go_loopw [9, 10, 44] (fun x y z wr => ∃ (i t d : Nat), x = .int .i64 ((t : Int) + d) ∧ y = .int .i64 t ∧ z = .int .i64 i ∧ i ≤ min l.length 60 ∧ t + d ≤ 255 * i ∧ d ≤ m + 1 ∧ RingQ wr b (m + 1) (iota t d) ∧ Below w.heap.size w wr) (fun _ _ i _ => 60 - (intOf i).toNat)
    case atStart => exact ⟨0, 0, 0, rfl, rfl, rfl, Nat.zero_le _, by omega, by omega, hR2, B2⟩
    case round =>
      clear hR2 B2
      obtain ⟨i, t, d, rfl, rfl, rfl, hi, ht, hd, hR, B⟩ := hrel
      have HB := Lib.hid B
      clear B
      by_cases hlt : i < min l.length 60
      · obtain ⟨ba, off, rfl, hcell⟩ := HE.out (by omega)
        have hc1 := hcell i (by omega)
        have hcw : wr.cell? ⟨ba, off + i, none⟩ = some (.int .u8 (l.getD i 0)) := (HB.out.cell (p := ⟨ba, off + i, none⟩) (World.block_lt_of_cell? w _ hc1)).trans hc1
        have hil : i < l.length := by omega
        have hi2 : i < 60 := by omega
        have hi4 : decide ((i : Int) < 60) = true := by simp; omega
        have HR : Hid (i + 1 ≤ min l.length 60) := Lib.hid (by omega)
        have hv := HW.out (l.getD i 0) (by rw [List.getD_eq_getElem?_getD, List.getElem?_eq_getElem hil]; exact List.getElem_mem hil)
        simp only [IntKind.min, IntKind.max, IntKind.signed, IntKind.bits] at hv
        obtain ⟨n, hn⟩ := Int.eq_ofNat_of_zero_le (show 0 ≤ l.getD i 0 by simpa using hv.1)
        rw [hn] at hcw hv
        have hn2 : n ≤ 255 := by simp at hv; omega
        clear hcell hc1 hlt hv hn
        go_wp2_with fail
        go_loopw [9, 10, 50] (fun x y z wr => ∃ (c t d : Nat), x = .int .i64 ((t : Int) + d) ∧ y = .int .i64 t ∧ z = .int .u8 c ∧ c ≤ n ∧ t + d ≤ 255 * i + c ∧ d ≤ m + 1 ∧ RingQ wr b (m + 1) (iota t d) ∧ Below w.heap.size w wr) (fun _ _ c _ => n - (intOf c).toNat)
        case atStart => exact ⟨0, t, d, rfl, rfl, rfl, Nat.zero_le _, by omega, hd, hR, HB.out⟩
        case round =>
          clear hR HB hcw ht hd
          obtain ⟨c, t', d', rfl, rfl, rfl, hcn, ht, hd, hR, B⟩ := hrel
          have HB := Lib.hid B
          clear B
          by_cases hlt : c < n
          · by_cases hp : i % 2 = 0
            · have hpar : ((i : Int) % 2 == 0) = true := by simp; omega
              by_cases hroom : d' < m + 1
              · have hrm : decide ((t' : Int) + d' - t' < (m : Int) + 1) = true := by simp; omega
                clear hp
                go_wp2_with fail
                refine (ring_put_yes b (m + 1) (iota t' d') ((t' : Int) + d') _ hR (by rw [iota_length]; exact hroom)).mono ?_
                rintro e w3 ⟨rfl, hR3, hT3⟩
                have B3 := Lib.hid (below_one HB.out hT3 hbw)
                clear hT3 HB hR
                go_wp2
                go_roundw
                case rel => exact ⟨c + 1, t', d' + 1, num (by omega), rfl, num (by omega), by omega, by omega, by omega, by rw [iota_snoc, show ((t' + d' : Nat) : Int) = (t' : Int) + d' from by omega]; exact hR3, B3.out⟩
                case measure => simp [intOf]; omega
              · have hrm : decide ((t' : Int) + d' - t' < (m : Int) + 1) = false := by simp; omega
                have hdm : d' = m + 1 := by omega
                have hL : (iota t' d').length = m + 1 := by rw [iota_length]; exact hdm
                have HL := Lib.hid hL
                have hge : m + 1 ≤ d' := by omega
                clear hp hdm hL
                go_wp2_with fail
                refine (ring_put_no b (m + 1) (iota t' d') ((t' : Int) + d') _ hR HL.out).mono ?_
                rintro e w3 ⟨rfl, hR3, hT3⟩
                have B3 := Lib.hid (below_no HB.out hT3)
                clear hT3 HB hR
                go_wp2
                go_roundw
                case rel => exact ⟨c + 1, t', d', rfl, rfl, num (by omega), by omega, by omega, by omega, hR3, B3.out⟩
                case measure => simp [intOf]; omega
            · have hpar : ((i : Int) % 2 == 0) = false := by simp; omega
              clear hp
              cases d' with
              | zero =>
                go_wp2_with fail
                refine (ring_take_no b (m + 1) _ hR).mono ?_
                rintro e w3 ⟨rfl, rfl⟩
                go_wp2
                go_roundw
                case rel => exact ⟨c + 1, t', 0, num (by omega), rfl, num (by omega), by omega, by omega, by omega, hR, HB.out⟩
                case measure => simp [intOf]; omega
              | succ d' =>
                rw [iota_cons] at hR
                go_wp2_with fail
                refine (ring_take_yes b (m + 1) _ _ _ hR).mono ?_
                rintro e w3 ⟨rfl, hR3, hT3⟩
                have B3 := Lib.hid (below_one HB.out hT3 hbw)
                clear hT3 HB hR
                go_wp2
                go_roundw
                case rel => exact ⟨c + 1, t' + 1, d', num (by omega), num (by omega), num (by omega), by omega, by omega, by omega, hR3, B3.out⟩
                case measure => simp [intOf]; omega
          · have hce : n ≤ c := by omega
            clear hlt
            go_wp2_with fail
            refine (ring_len b (m + 1) _ _ hR).mono ?_
            rintro e w3 ⟨rfl, rfl⟩
            rw [iota_length]
            have hs : ((d' : Int) != (t' : Int) + d' - t') = false := by simp; omega
            go_wp2
            go_roundw
            case rel => exact ⟨i + 1, t', d', rfl, rfl, num (by omega), HR.out, by omega, hd, hR, HB.out⟩
            case measure => simp [intOf]; omega
      · have hge : min l.length 60 ≤ i := by omega
        clear hlt
        go_wp2_with fail
        refine (ring_len b (m + 1) _ _ hR).mono ?_
        rintro e w3 ⟨rfl, rfl⟩
        rw [iota_length]
        go_wp2_with fail
        go_loopw [102] (fun z wr => ∃ (c : Nat), z = .int .i64 c ∧ c ≤ d ∧ RingQ wr b (m + 1) (iota t d) ∧ Below w.heap.size w wr) (fun c _ => d - (intOf c).toNat)
        case atStart => exact ⟨0, rfl, Nat.zero_le _, hR, HB.out⟩
        case round =>
          clear hR HB
          obtain ⟨c, rfl, hcd, hR, B⟩ := hrel
          have HB := Lib.hid B
          clear B
          by_cases hlt : c < d
          · have hval := Lib.hid (iota_getD t d c hlt)
            go_wp2_with fail
            refine (ring_at_yes b (m + 1) (iota t d) c _ hR (by omega) (by rw [iota_length]; omega)).mono ?_
            rintro e w4 ⟨rfl, kk, hw⟩
            have hR4 : RingQ w4 b (m + 1) (iota t d) := hw ▸ hR.drewN kk
            have B4 := Lib.hid (below_no HB.out (hw ▸ (Tch.refl _ _).drewN kk))
            clear hw hR HB
            rw [show ((c : Int).toNat) = c from by omega, hval.out, show ((t + c : Nat) : Int) = (t : Int) + c from by omega]
            go_wp2
            go_roundw
            case rel => exact ⟨c + 1, num (by omega), by omega, hR4, B4.out⟩
            case measure => simp [intOf]; omega
          · have hce : d ≤ c := by omega
            clear hlt
            go_wp2_with fail
            refine (ring_take_nil _).mono ?_
            rintro e w4 ⟨rfl, rfl⟩
            go_wp2_with fail
            refine (ring_at_nil 0 _).mono ?_
            rintro e w4 ⟨rfl, rfl⟩
            go_wp2_with fail
            refine (ring_put_nil 1 _).mono ?_
            rintro e w4 ⟨rfl, hT4⟩
            have B4 := Lib.hid (below_no HB.out hT4)
            clear hT4
            go_wp2_with fail
            refine (ring_len_nil _).mono ?_
            rintro e w5 ⟨rfl, rfl⟩
            go_wp2
            go_ret
            exact ⟨rfl, B4.out⟩
end Go.Proofs.Ytcfnnpdackklhaa
