/- TimerOrder's walk. -/
import Derived.Test.YtbdmmijfcgafcaaTimShown
import Derived.Test.YtbdmmijfcgafcaaArgs
import Derived.Deep.CutRange
import Derived.Deep.QuietTactic
import Derived.BigQuiet
namespace Go.Proofs.Ytbdmmijfcgafcaa
open Go.RowKit

theorem IntsIn.few {k : IntKind} {w : World} {a : Option Addr} {cap : Nat} {l : List Int} (h : IntsIn k w a cap l) {n : Nat} (hn : n ≤ l.length) :
    0 < n → ∃ b off, a = some ⟨b, off, none⟩ ∧ ∀ i, i < n → w.cell? ⟨b, off + i, none⟩ = some (.int k ((l.take n).getD i 0)) := by
  intro h0
  obtain ⟨b, off, e, hc⟩ := h.cells (by omega)
  refine ⟨b, off, e, fun i hi => ?_⟩
  rw [hc i (by omega), List.getD_eq_getElem?_getD, List.getD_eq_getElem?_getD, List.getElem?_take, if_pos hi]


set_option maxHeartbeats 4000000 in
set_option maxRecDepth 100000 in
theorem timerOrder_walk (a : Option Addr) (cap : Nat) (l : List Int) (now : Int) (w : World) (h : IntsIn .i64 w a cap l) (_hn : IntKind.i64.min ≤ now ∧ now ≤ IntKind.i64.max) :
    Calls Try.prog 3 #[.slice a l.length cap, .int .i64 now] w fun e w' => e = .returned (.bool true) ∧ Below w.heap.size w w' := by
  obtain ⟨n, hn⟩ : ∃ n, n = min l.length 64 := ⟨_, rfl⟩
  have HE := Lib.hid (h.few (n := n) (by omega))
  have hle := h.le
  have hc := h.cap
  obtain ⟨d, hd⟩ : ∃ d, d = l.take n := ⟨_, rfl⟩
  have hdl : d.length = n := by rw [hd, List.length_take]; omega
  rw [← hd] at HE
  have hnl : n ≤ l.length := by omega
  have hn64 : n ≤ 64 := by omega
  clear h hd
  go_enter Try.func3, Try.ntmps3
  go_wp2_with fail
  refine (timer_shown w).mono ?_
  rintro e w1 ⟨rfl, hT1⟩
  have B1 := below_no (Below.refl _ w) hT1
  clear hT1
  go_wp2_with fail
  refine (tmj_new B1).mono ?_
  rintro e w2 ⟨b, F, rfl, h2, _, _⟩
  clear B1
  go_upto_region 5 with fail
  go_cut [7] from 22 to 22 (fun x wx => x = .slice a n cap ∧ w2 = wx)
  case first =>
    clear h2
    go_wp2_with fail
    · have hk : n = 64 := by omega
      go_meet
      exact ⟨by rw [hk], rfl⟩
    · have hk : n = l.length := by omega
      go_meet
      exact ⟨by rw [hk], rfl⟩
  case rest =>
  obtain ⟨rfl, rfl⟩ := hcut
  clear hn
  go_wp2_with fail
  go_loopw [8, 29] (fun m i wr => ∃ (k c : Nat) (F : Nat → Prop), m = .int .i64 c ∧ i = .int .i64 k ∧ k ≤ n ∧ TimJ w wr b (trips d k) k F ∧ (trips d k).countP (fun y => decide (y.1 ≤ now)) = c) (fun _ i _ => n - (intOf i).toNat)
  case atStart => exact ⟨0, 0, F, rfl, rfl, by omega, h2, rfl⟩
  case round =>
    clear h2
    obtain ⟨k, c, F, rfl, rfl, hk, H, hcnt⟩ := hrel
    have hcb : c ≤ 64 := by have := trips_count_le d k now; omega
    by_cases hlt : k < n
    · obtain ⟨ba, off, rfl, hcell⟩ := HE.out (by omega)
      have hc0 := hcell k hlt
      have hx0 : wr.cell? ⟨ba, off + k, none⟩ = _ := (H.i.below.cell (p := ⟨ba, off + k, none⟩) (World.block_lt_of_cell? w _ hc0)).trans hc0
      have HC := Lib.hid (trips_count_snoc d k now)
      rw [hcnt] at HC
      clear hcell hc0 hcnt
      have HK : Hid (trips d (k + 1) = trips d k ++ [(d.getD k 0, (k : Int), (k : Int))]) := Lib.hid (trips_snoc d k)
      generalize d.getD k 0 = dk at *
      go_wp2_with fail
      refine (tmj_put H dk k (by rw [trips_length]; omega) (by omega) (by omega)).mono ?_
      rintro e w3 ⟨rfl, _, F3, h3, _⟩
      have h4 : TimJ w w3 b (trips d (k + 1)) ((k + 1 : Nat) : Int) F3 := by
        rw [HK.out]
        exact h3
      have H4 := Lib.hid h4
      have g1 : ((k : Int) != (k : Int)) = false := by simp
      clear H h3 h4 hx0
      by_cases hd : dk ≤ now
      · have hdd : decide (dk ≤ now) = true := by simpa using hd
        have HC2 : Hid ((trips d (k + 1)).countP (fun y => decide (y.1 ≤ now)) = c + 1) := Lib.hid (by rw [HC.out, if_pos hd])
        clear hd
        go_wp2
        go_roundw
        case rel => exact ⟨k + 1, c + 1, F3, num (by omega), num (by omega), by omega, H4.out, HC2.out⟩
        case measure => simp [intOf]; omega
      · have hdd : decide (dk ≤ now) = false := by simpa using hd
        have HC2 : Hid ((trips d (k + 1)).countP (fun y => decide (y.1 ≤ now)) = c) := Lib.hid (by rw [HC.out, if_neg hd]; rfl)
        clear hd
        go_wp2
        go_roundw
        case rel => exact ⟨k + 1, c, F3, rfl, num (by omega), by omega, H4.out, HC2.out⟩
        case measure => simp [intOf]; omega
    · obtain rfl : k = n := by omega
      clear hlt
      have hS0 := dueSt_start d hdl.symm
      have hlen0 := trips_length d k
      go_wp2_with fail
      go_loopw [13, 55] (fun t i wr => ∃ (r : Nat) (last : Int) (L : List Tm) (F : Nat → Prop), i = .int .i64 r ∧ t = .int .i64 last ∧ r ≤ c ∧ TimJ w wr b L k F ∧ DueSt d L last ∧ L.countP (fun y => decide (y.1 ≤ now)) = c - r ∧ L.length + r = k) (fun _ i _ => c - (intOf i).toNat)
      case atStart => exact ⟨0, -1, _, F, rfl, rfl, by omega, H, hS0, hcnt, hlen0⟩
      case round =>
        clear H hS0 hlen0 hcnt hk
        obtain ⟨r, last, L, F, rfl, rfl, hr, H, hS, hcnt, hlen⟩ := hrel
        by_cases hlt : r < c
        · obtain ⟨i, hi, hnow, hmem, hdue, hst, hst0⟩ := hS.step H.ok now (count_some (k := c - r - 1) (by omega))
          rw [hdl] at hi
          have HD := Lib.hid hdue
          have HST := Lib.hid hst0
          have HS := Lib.hid hst
          clear hst0 hst
          have HC : Hid ((L.erase (trip d i)).countP (fun y => decide (y.1 ≤ now)) = c - (r + 1)) := Lib.hid (by rw [count_less (k := c - r - 1) (by omega) hmem hnow]; omega)
          have HN : Hid ((L.erase (trip d i)).length + (r + 1) = k) := Lib.hid (by have := erase_len hmem; omega)
          obtain ⟨ba, off, rfl, hcell⟩ := HE.out (by omega)
          have hc0 := hcell i hi
          clear hS hmem hdue hcnt hlen
          go_wp2_with fail
          refine (tmj_due H now _ _ _ HD.out).mono ?_
          rintro e w5 ⟨rfl, h5, hT5⟩
          have HJ := Lib.hid h5
          have hx0 : w5.cell? ⟨ba, off + i, none⟩ = _ := (h5.i.below.cell (p := ⟨ba, off + i, none⟩) (World.block_lt_of_cell? w _ hc0)).trans hc0
          have d1 : decide ((i : Int) < 0) = false := by simp
          have d2 : decide ((k : Int) ≤ (i : Int)) = false := by simp; omega
          have d2n : decide (k ≤ i) = false := by simp; omega
          have hi64 : i < 64 := by omega
          have d3 : decide (now < d.getD i 0) = false := by simpa using hnow
          rcases HST.out with rfl | ⟨p, rfl, hp, hlt2⟩
          · have d4 : decide ((0 : Int) ≤ -1) = false := by decide
            clear HST h5 hcell hc0 H hnow
            generalize d.getD i 0 = di at *
            -- the round's test is passed; the last one told is none
            clear hT5
            go_wp2_with fail
            go_quiet (fail)
            go_wp2
            go_roundw
            case rel => exact ⟨r + 1, (i : Int), _, F, num (by omega), rfl, by omega, HJ.out.nothing ((Tch.refl NoBlk _).drewN _), HS.out, HC.out, HN.out⟩
            case measure => simp [intOf]; omega
          · rw [hdl] at hp
            have hc1 := hcell p hp
            have hx1 : w5.cell? ⟨ba, off + p, none⟩ = _ := (h5.i.below.cell (p := ⟨ba, off + p, none⟩) (World.block_lt_of_cell? w _ hc1)).trans hc1
            have d4 : decide ((0 : Int) ≤ (p : Int)) = true := by simp
            have hp64 : p < 64 := by omega
            unfold Tlt trip at hlt2
            dsimp only at hlt2
            have d5 : decide (d.getD i 0 < d.getD p 0) = false := decide_eq_false (by omega)
            by_cases he : d.getD i 0 = d.getD p 0
            · have d6 : (d.getD i 0 == d.getD p 0) = true := by simpa using he
              have hip : p < i := by omega
              have d7 : decide ((i : Int) ≤ (p : Int)) = false := by simp; omega
              have d7n : decide (i ≤ p) = false := by simp; omega
              clear HST h5 hcell hc0 hc1 H hnow hlt2 he
              generalize d.getD i 0 = di at *
              generalize d.getD p 0 = dp at *
              -- the round's test is passed; the last one told is p
              clear hT5
              go_wp2_with fail
              go_quiet (fail)
              go_wp2
              go_roundw
              case rel => exact ⟨r + 1, (i : Int), _, F, num (by omega), rfl, by omega, HJ.out.nothing ((Tch.refl NoBlk _).drewN _), HS.out, HC.out, HN.out⟩
              case measure => simp [intOf]; omega
            · have d6 : (d.getD i 0 == d.getD p 0) = false := by simpa using he
              clear HST h5 hcell hc0 hc1 H hnow hlt2 he
              generalize d.getD i 0 = di at *
              generalize d.getD p 0 = dp at *
              -- the round's test is passed; the last one told is p
              clear hT5
              go_wp2_with fail
              go_quiet (fail)
              go_wp2
              go_roundw
              case rel => exact ⟨r + 1, (i : Int), _, F, num (by omega), rfl, by omega, HJ.out.nothing ((Tch.refl NoBlk _).drewN _), HS.out, HC.out, HN.out⟩
              case measure => simp [intOf]; omega
        · obtain rfl : r = c := by omega
          have HD := Lib.hid (count_none (L := L) (now := now) (by omega))
          have hend : ((L.length : Int) == (k : Int) - (r : Int)) = true := by simp; omega
          clear hS hcnt
          go_wp2_with fail
          refine (tmj_due H now _ _ _ HD.out).mono ?_
          rintro e w5 ⟨rfl, h5, _⟩
          have HB := Lib.hid h5.i.below
          have HJ := Lib.hid h5
          clear h5 H
          go_wp2_with ((go_at_call 12; refine (tmj_len HJ.out).mono ?_; rintro e w8 ⟨rfl, hw8⟩; subst w8))
          go_ret
          exact ⟨rfl, HB.out⟩
end Go.Proofs.Ytbdmmijfcgafcaa
