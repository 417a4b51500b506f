/- RingPlays' walk. -/
import Derived.Test.YtcfnnpdackklhaaRingShown
import Derived.Test.YtcfnnpdackklhaaRefRing
import Derived.Test.YtcfnnpdackklhaaIota
import Derived.Test.YtcfnnpdackklhaaArgs
namespace Go.Proofs.Ytcfnnpdackklhaa
open Go.RowKit


theorem RefRing.drewN {w : World} {b m : Nat} {q : List Int} {A : Option Addr} {cap : Nat} {G : Option Nat} (h : RefRing w b m q A cap G) (k : Nat) : RefRing (w.drewN k) b m q A cap G :=
  ⟨h.blk.drewN k, h.sl.drewN k, h.ne, h.le, h.m256⟩

theorem ringPlays_no (x0 : Int) (a : Option Addr) (n cap : Nat) (w : World) (hx : x0 < 1 ∨ 256 < x0) :
    Calls Try.prog 3 #[.int .i64 x0, .slice a n cap] w fun e w' => e = .returned (.bool true) ∧ Below w.heap.size w w' := by
  go_enter Try.func3, Try.ntmps3
  go_wp2_with fail
  refine (ring_shown w).mono ?_
  rintro e w1 ⟨rfl, hT1⟩
  have B1 := below_no (Below.refl _ w) hT1
  clear hT1
  go_wp2_with fail
  refine (ring_new_no x0 _ hx).mono ?_
  rintro e w2 ⟨rfl, rfl⟩
  go_wp2_with fail
  refine (refring_new_no x0 _ hx).mono ?_
  rintro e w2 ⟨rfl, rfl⟩
  go_wp2
  go_ret
  exact ⟨rfl, B1⟩

set_option maxHeartbeats 4000000 in
set_option maxRecDepth 100000 in
theorem ringPlays_yes (m : Nat) (a : Option Addr) (cap : Nat) (l : List Int) (w : World) (h1 : 1 ≤ m) (h2 : m ≤ 256) (h : IntsIn .i64 w a cap l) :
    Calls Try.prog 3 #[.int .i64 m, .slice a l.length cap] w fun e w' => e = .returned (.bool true) ∧ Below w.heap.size w w' := by
  obtain ⟨hl, hc, he, hwf⟩ := h
  have HE := Lib.hid he
  clear he hwf
  go_enter Try.func3, Try.ntmps3
  go_wp2_with fail
  refine (ring_shown w).mono ?_
  rintro e w1 ⟨rfl, hT1⟩
  have B1 := below_no (Below.refl _ w) hT1
  clear hT1
  go_wp2_with fail
  refine (ring_new_yes m w1 h1 h2).mono ?_
  rintro e w2 ⟨b, rfl, hb, hR2, hT2⟩
  have hbw : w.heap.size ≤ b := Nat.le_trans B1.size hb
  have B2 := below_no B1 hT2
  have hlb := hR2.lt
  clear hT2 B1 hb
  go_wp2_with fail
  refine (refring_new_yes m w2 h1 h2).mono ?_
  rintro e w3 ⟨b', rfl, hb, hF3, hT3⟩
  have hbw' : w.heap.size ≤ b' := Nat.le_trans B2.size hb
  have B3 := below_no B2 hT3
  have hR3 := hR2.keep hT3 (fun h => h)
  have hne : b ≠ b' := by omega
  clear hT3 B2 hb hR2 hlb
  go_wp2_with fail
  all_goals
    go_loopw [50] (fun i wr => ∃ (k : Nat) (q : List Int) (A : Option Addr) (cap : Nat) (G : Option Nat), i = .int .i64 k ∧ k ≤ min l.length 600 ∧ RingQ wr b m q ∧ RefRing wr b' m q A cap G ∧ (∀ g, G = some g → g ≠ b) ∧ Below w.heap.size w wr) (fun i _ => 600 - (intOf i).toNat)
    case atStart => exact ⟨0, [], none, 0, none, rfl, Nat.zero_le _, hR3, hF3, (fun g h => by cases h), B3⟩
    case round =>
      clear hR3 hF3 B3
      obtain ⟨k, q, A, cap', G, rfl, hk, hR, hF, hG, B⟩ := hrel
      have HB := Lib.hid B
      have HG := Lib.hid hG
      clear B hG
      by_cases hlt : k < min l.length 600
      · obtain ⟨ba, off, rfl, hcell⟩ := HE.out (by omega)
        have hc1 := hcell k (by omega)
        have hcw : wr.cell? ⟨ba, off + k, none⟩ = some (.int .i64 (l.getD k 0)) := (HB.out.cell (p := ⟨ba, off + k, none⟩) (World.block_lt_of_cell? w _ hc1)).trans hc1
        have hkl : k < l.length := by omega
        have hk2 : k < 600 := by omega
        have HR : Hid (k + 1 ≤ min l.length 600) := Lib.hid (by omega)
        clear hcell hc1 hlt
        generalize l.getD k 0 = v at *
        obtain ⟨ix, hix⟩ : ∃ ix, bits BinOp.and IntKind.i64 v 7 = ix := ⟨_, rfl⟩
        by_cases hv : v < 0
        · cases q with
          | nil =>
            go_wp2_with fail
            refine (ring_take_no b m _ hR).mono ?_
            rintro e w4 ⟨rfl, rfl⟩
            go_wp2_with fail
            refine (refring_take_no b' m A cap' G _ hF).mono ?_
            rintro e w4 ⟨rfl, rfl⟩
            -- what is told of a place, then the round's test; q: [], worlds: hR (ring), hF (list), HB (below)
            by_cases hin : ix < 0 ∨ (([] : List Int).length : Int) ≤ ix
            · go_wp2_with fail
              refine (ring_at_no b m [] ix _ hR hin).mono ?_
              rintro e w6 ⟨rfl, rfl⟩
              go_wp2_with fail
              refine (refring_at_no b' m [] _ _ _ ix _ hF hin).mono ?_
              rintro e w6 ⟨rfl, rfl⟩
              have hcl := hF.blk.cellOf 1 _ rfl
              have hbd := hF.sl.cap_le
              have hde : ((([] : List Int).length : Int) != (([] : List Int).length : Int)) = false := by simp
              go_wp2_with fail
              go_quiet ((go_at_call 17; exact Calls.quiet_of_same (ring_len _ _ _ _ (hR.drewN _))))
              go_wp2
              go_roundw
              case rel => exact ⟨k + 1, [], _, _, _, num (by omega), HR.out, hR.drewN _, hF.drewN _, HG.out, below_no HB.out ((Tch.refl _ _).drewN _)⟩
              case measure => simp [intOf]; omega
            · have hi0 : 0 ≤ ix := by omega
              have hi1 : ix < (([] : List Int).length : Int) := by omega
              go_wp2_with fail
              refine (ring_at_yes b m [] ix _ hR hi0 hi1).mono ?_
              rintro e w6 ⟨rfl, kk, hw⟩
              have hR6 : RingQ w6 b m [] := hw ▸ hR.drewN kk
              have hF6 : RefRing w6 b' m [] _ _ _ := hw ▸ hF.drewN kk
              have HB6 := Lib.hid (below_no HB.out (hw ▸ (Tch.refl _ _).drewN kk))
              clear hw hR hF HB
              go_wp2_with fail
              refine (refring_at_yes b' m [] _ _ _ ix _ hF6 hi0 hi1).mono ?_
              rintro e w7 ⟨rfl, rfl⟩
              have hcl := hF6.blk.cellOf 1 _ rfl
              have hbd := hF6.sl.cap_le
              have hde : ((([] : List Int).length : Int) != (([] : List Int).length : Int)) = false := by simp
              go_wp2_with fail
              go_quiet ((go_at_call 17; exact Calls.quiet_of_same (ring_len _ _ _ _ (hR6.drewN _))))
              go_wp2
              go_roundw
              case rel => exact ⟨k + 1, [], _, _, _, num (by omega), HR.out, hR6.drewN _, hF6.drewN _, HG.out, below_no HB6.out ((Tch.refl _ _).drewN _)⟩
              case measure => simp [intOf]; omega
          | cons x q =>
            go_wp2_with fail
            refine (ring_take_yes b m x q _ hR).mono ?_
            rintro e w4 ⟨rfl, hR4, hT4⟩
            have hF4 := hF.keep hT4 (fun h => hne h.symm) (fun g hg e => HG.out g hg e)
            have B4 := Lib.hid (below_one HB.out hT4 hbw)
            have hlb : b < w4.heap.size := hR4.lt
            clear hT4 HB hR hF
            go_wp2_with fail
            refine (refring_take_yes b' m x q A cap' G _ hF4).mono ?_
            rintro e w5 ⟨rfl, hT5, A5, cap5, G5, hF5, hG5⟩
            have hR5 := hR4.keep hT5 hne
            have B5 := Lib.hid (below_one B4.out hT5 hbw')
            have HG5 : Hid (∀ g, G5 = some g → g ≠ b) := Lib.hid (fun g hg => by have := hG5 g hg; omega)
            clear hT5 B4 hR4 hF4 hG5
            -- what is told of a place, then the round's test; q: q, worlds: hR5 (ring), hF5 (list), B5 (below)
            by_cases hin : ix < 0 ∨ ((q : List Int).length : Int) ≤ ix
            · go_wp2_with fail
              refine (ring_at_no b m q ix _ hR5 hin).mono ?_
              rintro e w6 ⟨rfl, rfl⟩
              go_wp2_with fail
              refine (refring_at_no b' m q _ _ _ ix _ hF5 hin).mono ?_
              rintro e w6 ⟨rfl, rfl⟩
              have hcl := hF5.blk.cellOf 1 _ rfl
              have hbd := hF5.sl.cap_le
              have hde : (((q : List Int).length : Int) != ((q : List Int).length : Int)) = false := by simp
              go_wp2_with fail
              go_quiet ((go_at_call 17; exact Calls.quiet_of_same (ring_len _ _ _ _ (hR5.drewN _))))
              go_wp2
              go_roundw
              case rel => exact ⟨k + 1, q, _, _, _, num (by omega), HR.out, hR5.drewN _, hF5.drewN _, HG5.out, below_no B5.out ((Tch.refl _ _).drewN _)⟩
              case measure => simp [intOf]; omega
            · have hi0 : 0 ≤ ix := by omega
              have hi1 : ix < ((q : List Int).length : Int) := by omega
              go_wp2_with fail
              refine (ring_at_yes b m q ix _ hR5 hi0 hi1).mono ?_
              rintro e w6 ⟨rfl, kk, hw⟩
              have hR56 : RingQ w6 b m q := hw ▸ hR5.drewN kk
              have hF56 : RefRing w6 b' m q _ _ _ := hw ▸ hF5.drewN kk
              have B56 := Lib.hid (below_no B5.out (hw ▸ (Tch.refl _ _).drewN kk))
              clear hw hR5 hF5 B5
              go_wp2_with fail
              refine (refring_at_yes b' m q _ _ _ ix _ hF56 hi0 hi1).mono ?_
              rintro e w7 ⟨rfl, rfl⟩
              have hcl := hF56.blk.cellOf 1 _ rfl
              have hbd := hF56.sl.cap_le
              have hde : (((q : List Int).length : Int) != ((q : List Int).length : Int)) = false := by simp
              go_wp2_with fail
              go_quiet ((go_at_call 17; exact Calls.quiet_of_same (ring_len _ _ _ _ (hR56.drewN _))))
              go_wp2
              go_roundw
              case rel => exact ⟨k + 1, q, _, _, _, num (by omega), HR.out, hR56.drewN _, hF56.drewN _, HG5.out, below_no B56.out ((Tch.refl _ _).drewN _)⟩
              case measure => simp [intOf]; omega
        · have hle := hR.le
          by_cases hroom : q.length < m
          · go_wp2_with fail
            refine (ring_put_yes b m q v _ hR hroom).mono ?_
            rintro e w4 ⟨rfl, hR4, hT4⟩
            have hF4 := hF.keep hT4 (fun h => hne h.symm) (fun g hg e => HG.out g hg e)
            have B4 := Lib.hid (below_one HB.out hT4 hbw)
            have hlb : b < w4.heap.size := hR4.lt
            clear hT4 HB hR hF
            go_wp2_with fail
            refine (refring_put_yes b' m q A cap' G v _ hF4 hroom).mono ?_
            rintro e w5 ⟨rfl, hT5, A5, cap5, G5, hF5, hG5⟩
            have hR5 := hR4.keep hT5 hne
            have B5 := Lib.hid (below_one B4.out hT5 hbw')
            have HG5 : Hid (∀ g, G5 = some g → g ≠ b) := Lib.hid (fun g hg => by have := hG5 g hg; omega)
            clear hT5 B4 hR4 hF4 hG5
            -- what is told of a place, then the round's test; q: (q ++ [v]), worlds: hR5 (ring), hF5 (list), B5 (below)
            by_cases hin : ix < 0 ∨ (((q ++ [v]) : List Int).length : Int) ≤ ix
            · go_wp2_with fail
              refine (ring_at_no b m (q ++ [v]) ix _ hR5 hin).mono ?_
              rintro e w6 ⟨rfl, rfl⟩
              go_wp2_with fail
              refine (refring_at_no b' m (q ++ [v]) _ _ _ ix _ hF5 hin).mono ?_
              rintro e w6 ⟨rfl, rfl⟩
              have hcl := hF5.blk.cellOf 1 _ rfl
              have hbd := hF5.sl.cap_le
              have hde : ((((q ++ [v]) : List Int).length : Int) != (((q ++ [v]) : List Int).length : Int)) = false := by simp
              go_wp2_with fail
              go_quiet ((go_at_call 17; exact Calls.quiet_of_same (ring_len _ _ _ _ (hR5.drewN _))))
              go_wp2
              go_roundw
              case rel => exact ⟨k + 1, (q ++ [v]), _, _, _, num (by omega), HR.out, hR5.drewN _, hF5.drewN _, HG5.out, below_no B5.out ((Tch.refl _ _).drewN _)⟩
              case measure => simp [intOf]; omega
            · have hi0 : 0 ≤ ix := by omega
              have hi1 : ix < (((q ++ [v]) : List Int).length : Int) := by omega
              go_wp2_with fail
              refine (ring_at_yes b m (q ++ [v]) ix _ hR5 hi0 hi1).mono ?_
              rintro e w6 ⟨rfl, kk, hw⟩
              have hR56 : RingQ w6 b m (q ++ [v]) := hw ▸ hR5.drewN kk
              have hF56 : RefRing w6 b' m (q ++ [v]) _ _ _ := hw ▸ hF5.drewN kk
              have B56 := Lib.hid (below_no B5.out (hw ▸ (Tch.refl _ _).drewN kk))
              clear hw hR5 hF5 B5
              go_wp2_with fail
              refine (refring_at_yes b' m (q ++ [v]) _ _ _ ix _ hF56 hi0 hi1).mono ?_
              rintro e w7 ⟨rfl, rfl⟩
              have hcl := hF56.blk.cellOf 1 _ rfl
              have hbd := hF56.sl.cap_le
              have hde : ((((q ++ [v]) : List Int).length : Int) != (((q ++ [v]) : List Int).length : Int)) = false := by simp
              go_wp2_with fail
              go_quiet ((go_at_call 17; exact Calls.quiet_of_same (ring_len _ _ _ _ (hR56.drewN _))))
              go_wp2
              go_roundw
              case rel => exact ⟨k + 1, (q ++ [v]), _, _, _, num (by omega), HR.out, hR56.drewN _, hF56.drewN _, HG5.out, below_no B56.out ((Tch.refl _ _).drewN _)⟩
              case measure => simp [intOf]; omega
          · have hfull : q.length = m := by omega
            have HFU := Lib.hid hfull
            clear hfull
            go_wp2_with fail
            refine (ring_put_no b m q v _ hR HFU.out).mono ?_
            rintro e w4 ⟨rfl, hR4, hT4⟩
            have hF4 := hF.keep hT4 (fun h => h) (fun g hg e => e)
            have B4 := Lib.hid (below_no HB.out hT4)
            clear hT4 HB hR hF
            go_wp2_with fail
            refine (refring_put_no b' m q A cap' G v _ hF4 HFU.out).mono ?_
            rintro e w5 ⟨rfl, kk, hw⟩
            have hR5 : RingQ w5 b m q := hw ▸ hR4.drewN kk
            have hF5 : RefRing w5 b' m q A cap' G := hw ▸ hF4.drewN kk
            have B5 := Lib.hid (below_no B4.out (hw ▸ (Tch.refl _ _).drewN kk))
            clear hw B4 hR4 hF4
            -- what is told of a place, then the round's test; q: q, worlds: hR5 (ring), hF5 (list), B5 (below)
            by_cases hin : ix < 0 ∨ ((q : List Int).length : Int) ≤ ix
            · go_wp2_with fail
              refine (ring_at_no b m q ix _ hR5 hin).mono ?_
              rintro e w6 ⟨rfl, rfl⟩
              go_wp2_with fail
              refine (refring_at_no b' m q _ _ _ ix _ hF5 hin).mono ?_
              rintro e w6 ⟨rfl, rfl⟩
              have hcl := hF5.blk.cellOf 1 _ rfl
              have hbd := hF5.sl.cap_le
              have hde : (((q : List Int).length : Int) != ((q : List Int).length : Int)) = false := by simp
              go_wp2_with fail
              go_quiet ((go_at_call 17; exact Calls.quiet_of_same (ring_len _ _ _ _ (hR5.drewN _))))
              go_wp2
              go_roundw
              case rel => exact ⟨k + 1, q, _, _, _, num (by omega), HR.out, hR5.drewN _, hF5.drewN _, HG.out, below_no B5.out ((Tch.refl _ _).drewN _)⟩
              case measure => simp [intOf]; omega
            · have hi0 : 0 ≤ ix := by omega
              have hi1 : ix < ((q : List Int).length : Int) := by omega
              go_wp2_with fail
              refine (ring_at_yes b m q ix _ hR5 hi0 hi1).mono ?_
              rintro e w6 ⟨rfl, kk, hw⟩
              have hR56 : RingQ w6 b m q := hw ▸ hR5.drewN kk
              have hF56 : RefRing w6 b' m q _ _ _ := hw ▸ hF5.drewN kk
              have B56 := Lib.hid (below_no B5.out (hw ▸ (Tch.refl _ _).drewN kk))
              clear hw hR5 hF5 B5
              go_wp2_with fail
              refine (refring_at_yes b' m q _ _ _ ix _ hF56 hi0 hi1).mono ?_
              rintro e w7 ⟨rfl, rfl⟩
              have hcl := hF56.blk.cellOf 1 _ rfl
              have hbd := hF56.sl.cap_le
              have hde : (((q : List Int).length : Int) != ((q : List Int).length : Int)) = false := by simp
              go_wp2_with fail
              go_quiet ((go_at_call 17; exact Calls.quiet_of_same (ring_len _ _ _ _ (hR56.drewN _))))
              go_wp2
              go_roundw
              case rel => exact ⟨k + 1, q, _, _, _, num (by omega), HR.out, hR56.drewN _, hF56.drewN _, HG.out, below_no B56.out ((Tch.refl _ _).drewN _)⟩
              case measure => simp [intOf]; omega
      · have hge : min l.length 600 ≤ k := by omega
        clear hlt
        go_wp2
        go_ret
        exact ⟨rfl, HB.out⟩

theorem ringPlays_walk (x0 : Int) (a : Option Addr) (cap : Nat) (l : List Int) (w : World) (h0 : IntKind.i64.min ≤ x0 ∧ x0 ≤ IntKind.i64.max) (h : IntsIn .i64 w a cap l) :
    Calls Try.prog 3 #[.int .i64 x0, .slice a l.length cap] w fun e w' => e = .returned (.bool true) ∧ Below w.heap.size w w' := by
  by_cases hx : x0 < 1 ∨ 256 < x0
  · exact ringPlays_no x0 a _ cap w hx
  · obtain ⟨m, rfl⟩ := Int.eq_ofNat_of_zero_le (show 0 ≤ x0 by omega)
    exact ringPlays_yes m a cap l w (by omega) (by omega) h
end Go.Proofs.Ytcfnnpdackklhaa
