/- PromiseOnce's walk. -/
import Derived.Test.YtfmkjnlelijnoaaPromiseNews
import Derived.Test.YtfmkjnlelijnoaaArgs
import Derived.Deep.CutRange
namespace Go.Proofs.Ytfmkjnlelijnoaa
open Go.RowKit

/-- Cells that are read from somewhere on. -/
def CellsAt (w : World) (A : Option Addr) (n : Nat) (cs : List Value) : Prop := 0 < n → ∃ b off, A = some ⟨b, off, none⟩ ∧ ∀ (j : Nat) (u : Value), cs[j]? = some u → w.cell? ⟨b, off + j, none⟩ = some u

theorem ints_same_at (A A' : Option Addr) (c c' : Nat) (x y : List Int) (n : Nat) (G : Option Nat) (w : World) (hn : x.length = n) (h : Sl w 3 1 A n c (ints x) G) (h' : CellsAt w A' n (ints y)) (hcap' : n ≤ c' ∧ c' ≤ 9223372036854775807) (he : x = y) :
    Calls Try.prog 18 #[.slice A n c, .slice A' n c'] w fun e w' => e = .returned (.bool true) ∧ ∃ k, w' = w.drewN k := by
  subst he
  subst hn
  have hcap := h.cap_le
  go_enter Try.func18, Try.ntmps18
  go_wp2_with fail
  go_loopw [5] (fun i wr => ∃ k n : Nat, i = .int .i64 k ∧ k ≤ x.length ∧ wr = w.drewN n) (fun i _ => x.length - (intOf i).toNat)
  case atStart => exact ⟨0, 0, rfl, by omega, rfl⟩
  case round =>
    obtain ⟨k, n, rfl, hk, rfl⟩ := hrel
    by_cases hlt : k < x.length
    · obtain ⟨g, rfl, rfl, hc⟩ := h.cells (by omega)
      obtain ⟨g', o', rfl, hc'⟩ := h' (by omega)
      have e1 := ints_get x k hlt
      have c1 : (w.drewN n).cell? ⟨g, k, none⟩ = _ := hc _ _ e1
      have c3 : (w.drewN n).cell? ⟨g', o' + k, none⟩ = _ := hc' _ _ e1
      have d1 : w.cell? ⟨g, k, none⟩ = _ := hc _ _ e1
      have d3 : w.cell? ⟨g', o' + k, none⟩ = _ := hc' _ _ e1
      clear hc hc' e1 h h'
      generalize x.getD k 0 = p at *
      go_wp2_with fail
      go_quiet (fail)
      go_wp2
      go_roundw
      case rel => exact ⟨k + 1, _, num (by omega), by omega, rfl⟩
      case measure => simp [intOf]; omega
    · go_wp2
      go_ret
      exact ⟨rfl, _, rfl⟩

def onceT (q : List Int) : List Pr := [⟨false, 0, q⟩, ⟨false, 0, []⟩]
def onceD (v : Int) : List Pr := [⟨true, v, []⟩, ⟨false, 0, []⟩]
theorem once_make1 : makeM [] = ([⟨false, 0, []⟩], 0, 0) := rfl
theorem once_make2 : makeM [⟨false, 0, []⟩] = (onceT [], 1, 0) := rfl
theorem once_then (q : List Int) (r : Int) (h : q.length < 256) : thenM (onceT q) 0 r = (onceT (q ++ [r]), 0, false, 0) := by
  simp only [thenM, onceT, prOf]
  simp [h]
theorem once_waits (q : List Int) : waitsM (onceT q) 0 = q.length := by simp [waitsM, onceT, prOf]
theorem once_settle (q : List Int) (v : Int) : settleM (onceT q) 0 v = (onceD v, q, 0) := by simp [settleM, onceT, onceD, prOf]
theorem once_again (v u : Int) : settleM (onceD v) 0 u = (onceD v, [], 160) := by simp [settleM, onceD, prOf]
theorem once_late (v r : Int) : thenM (onceD v) 0 r = (onceD v, v, true, 0) := by simp [thenM, onceD, prOf]
theorem once_value (v : Int) : valueM (onceD v) 0 = (v, true, 0) := by simp [valueM, onceD, prOf]
theorem once_value2 (v : Int) : valueM (onceD v) 1 = (0, false, 0) := by simp [valueM, onceD, prOf]
theorem once_waits2 (v : Int) : waitsM (onceD v) 0 = 0 := by simp [waitsM, onceD, prOf]

set_option maxHeartbeats 4000000 in
set_option maxRecDepth 100000 in
theorem promiseOnce_walk (a : Option Addr) (cap : Nat) (l : List Int) (a' : Option Addr) (cap' : Nat) (l' : List Int) (v u : Int) (w : World) (h : IntsIn .i64 w a cap l) (h' : IntsIn .i64 w a' cap' l') (_hv : IntKind.i64.min ≤ v ∧ v ≤ IntKind.i64.max) (_hu : IntKind.i64.min ≤ u ∧ u ≤ IntKind.i64.max) :
    Calls Try.prog 5 #[.slice a l.length cap, .slice a' l'.length cap', .int .i64 v, .int .i64 u] w fun e w' => e = .returned (.bool true) ∧ Below w.heap.size w w' := by
  clear _hv _hu
  obtain ⟨hl, hc, he, _⟩ := h
  obtain ⟨hl', hc', he', _⟩ := h'
  have HE := Lib.hid he
  have HE' := Lib.hid he'
  clear he he'
  obtain ⟨n, hn⟩ : ∃ n, n = min l.length 256 := ⟨_, rfl⟩
  obtain ⟨n', hn'⟩ : ∃ n, n = min l'.length 20 := ⟨_, rfl⟩
  have hnl : n ≤ l.length := by omega
  have hnl' : n' ≤ l'.length := by omega
  have hnb : n ≤ 256 := by omega
  have hncap : n ≤ cap := by omega
  go_enter Try.func5, Try.ntmps5
  go_wp2_with fail
  refine (promise_shown w).mono ?_
  rintro e w1 ⟨rfl, hT1⟩
  have B1 := below_no (Below.refl _ w) hT1
  clear hT1
  go_wp2_with fail
  refine (prs_new B1).mono ?_
  rintro e w2 ⟨b, F1, rfl, h2, _, _⟩
  clear B1
  go_wp2_with fail
  refine (prs_make h2 _ _ _ once_make1).mono ?_
  rintro e w3 ⟨rfl, _, F2, h3, _⟩
  clear h2
  go_wp2_with fail
  refine (prs_make h3 _ _ _ once_make2).mono ?_
  rintro e w4 ⟨rfl, _, F, h4, _⟩
  clear h3
  go_upto_region 7 with fail
  go_cut [15] from 58 to 58 (fun x wx => x = .slice a n cap ∧ w4 = wx)
  case first =>
    clear h4
    go_wp2_with fail
    · have hk : n = 256 := by omega
      go_meet
      exact ⟨by rw [hk], rfl⟩
    · have hk : n = l.length := by omega
      go_meet
      exact ⟨by rw [hk], rfl⟩
  case rest =>
  obtain ⟨rfl, rfl⟩ := hcut
  clear hn
  go_wp2_with fail
  go_loopw [65] (fun i wr => ∃ k : Nat, i = .int .i64 k ∧ k ≤ n ∧ PrsI w wr b (onceT (l.take k)) F) (fun i _ => n - (intOf i).toNat)
  case atStart => exact ⟨0, rfl, Nat.zero_le _, h4⟩
  case round =>
    clear h4
    obtain ⟨k, rfl, hk, hI⟩ := hrel
    by_cases hlt : k < n
    · obtain ⟨ba, off, rfl, hcell⟩ := HE.out (by omega)
      have hc1 := hcell k (by omega)
      have hcw : wr.cell? ⟨ba, off + k, none⟩ = some (.int .i64 (l.getD k 0)) := (hI.below.cell (p := ⟨ba, off + k, none⟩) (World.block_lt_of_cell? w _ hc1)).trans hc1
      have HK := Lib.hid (take_snoc l k (by omega))
      have hlk : (l.take k).length = k := by rw [List.length_take]; omega
      clear hcell hc1
      generalize l.getD k 0 = r at *
      have ET := Lib.hid (once_then (l.take k) r (by omega))
      have EW := Lib.hid (once_waits (l.take k ++ [r]))
      have EL := Lib.hid (show ((l.take k ++ [r]).length : Int) = (k : Int) + 1 by rw [List.length_append, hlk]; rfl)
      clear hlk
      go_wp2_with fail
      refine (prs_then hI 0 r _ _ _ _ ET.out).mono ?_
      rintro e w5 ⟨rfl, hI5, _⟩
      clear hI
      have hne : ((k : Int) + 1 != (k : Int) + 1) = false := by simp
      go_wp2_with fail
      refine (prs_waits hI5 0 _ EW.out).mono ?_
      rw [EL.out]
      rintro e w6 ⟨rfl, h6⟩; subst w6
      go_wp2
      go_roundw
      case rel => exact ⟨k + 1, num (by omega), by omega, by rw [HK.out]; exact hI5⟩
      case measure => simp [intOf]; omega
    · obtain rfl : k = n := by omega
      have hge : k ≤ k := by omega
      clear hlt hk
      have ES := Lib.hid (once_settle (l.take k) v)
      have EA := Lib.hid (once_again v u)
      have EL := Lib.hid (once_late v)
      have EV := Lib.hid (once_value v)
      have EV2 := Lib.hid (once_value2 v)
      have EW := Lib.hid (once_waits2 v)
      go_wp2_with fail
      have hlk : (l.take k).length = k := by rw [List.length_take]; omega
      refine (prs_settle hI 0 v _ _ _ ES.out).mono ?_
      rw [hlk]
      have HLK := Lib.hid hlk
      clear hlk
      rintro e w5 ⟨A5, c5, G5, rfl, hs5, hg5, hI5, _⟩
      have HG : Hid (∀ g, G5 = some g → ¬ F g) := Lib.hid (fun g hg hf => by have := hg5 g hg; have := hI.q.lt g hf; omega)
      clear hI hg5
      go_wp2_with fail
      refine (prs_settle hI5 0 u _ _ _ EA.out).mono ?_
      rintro e w6 ⟨A6, c6, G6, rfl, _, _, hI6, hT6⟩
      have hs6 := hs5.keep hT6 HG.out
      clear hI5 hT6 hs5
      go_upto_region 17 with fail
      go_cut [110, 111, 112] from 106 to 106 (fun x y z wx => x = .slice a' n' cap' ∧ y = .int .i64 n' ∧ z = .int .i64 0 ∧ w6 = wx)
      case first =>
        clear hI6 hs6
        go_wp2_with fail
        · have hk : n' = 20 := by omega
          go_meet
          exact ⟨by rw [hk], by rw [hk]; rfl, rfl, rfl⟩
        · have hk : n' = l'.length := by omega
          go_meet
          exact ⟨by rw [hk], by rw [hk], rfl, rfl⟩
      case rest =>
      obtain ⟨rfl, rfl, rfl, rfl⟩ := hcut
      clear hn'
      go_wp2_with fail
      go_loopw [112] (fun i wr => ∃ j : Nat, i = .int .i64 j ∧ j ≤ n' ∧ PrsI w wr b (onceD v) F ∧ Sl wr 3 1 A5 k c5 (ints (l.take k)) G5) (fun i _ => n' - (intOf i).toNat)
      case atStart => exact ⟨0, rfl, Nat.zero_le _, hI6, hs6⟩
      case round =>
        clear hI6 hs6
        obtain ⟨j, rfl, hj, hI, hs⟩ := hrel
        by_cases hlt : j < n'
        · obtain ⟨ba, off, rfl, hcell⟩ := HE'.out (by omega)
          have hc1 := hcell j (by omega)
          have hcw : wr.cell? ⟨ba, off + j, none⟩ = some (.int .i64 (l'.getD j 0)) := (hI.below.cell (p := ⟨ba, off + j, none⟩) (World.block_lt_of_cell? w _ hc1)).trans hc1
          clear hcell hc1
          generalize l'.getD j 0 = r at *
          have hne : (v != v) = false := by simp
          go_wp2_with fail
          refine (prs_then hI 0 r _ _ _ _ (EL.out r)).mono ?_
          rintro e w7 ⟨rfl, hI7, hT7⟩
          have hs7 := hs.keep hT7 HG.out
          clear hI hs hT7
          go_wp2
          go_roundw
          case rel => exact ⟨j + 1, num (by omega), by omega, hI7, hs7⟩
          case measure => simp [intOf]; omega
        · have hge' : n' ≤ j := by omega
          clear hlt hj
          have hlk := HLK.out
          have HC : Hid (∀ w9, Below w.heap.size w w9 → CellsAt w9 a k (ints (l.take k))) := Lib.hid (fun w9 hB hpos => by
            obtain ⟨ba, off, e, hcell⟩ := HE.out (by omega)
            refine ⟨ba, off, e, fun j u hu => ?_⟩
            have hjk : j < k := by
              rcases Nat.lt_or_ge j k with h | h
              · exact h
              · rw [List.getElem?_eq_none (by rw [ints_length, hlk]; exact h)] at hu; cases hu
            have hcj := hcell j (by omega)
            rw [ints_get (l.take k) j (by omega)] at hu
            injection hu with hu
            subst hu
            have e2 : (l.take k).getD j 0 = l.getD j 0 := by simp [List.getD_eq_getElem?_getD, hjk]
            rw [e2]
            exact (hB.cell (p := ⟨ba, off + j, none⟩) (World.block_lt_of_cell? w _ hcj)).trans hcj)
          clear hlk
          go_wp2_with fail
          refine (prs_value hI 0 _ _ _ EV.out).mono ?_
          rintro e w7 ⟨rfl, n7, rfl⟩
          have hI7 := hI.drewN n7
          have hs7 := hs.drewN n7
          clear hI hs
          go_wp2_with fail
          refine (prs_value hI7 1 _ _ _ EV2.out).mono ?_
          rintro e w8 ⟨rfl, n8, rfl⟩
          have hI8 := hI7.drewN n8
          have hs8 := hs7.drewN n8
          clear hI7 hs7
          generalize (wr.drewN n7).drewN n8 = w8 at *
          have hC8 := HC.out w8 hI8.below
          have hcapx : k ≤ cap ∧ cap ≤ 9223372036854775807 := ⟨hncap, hc⟩
          go_wp2_with fail
          refine (ints_same_at _ _ _ _ (l.take k) (l.take k) k _ _ HLK.out hs8 hC8 hcapx rfl).mono ?_
          rintro e w9 ⟨rfl, n9, rfl⟩
          have hI9 := hI8.drewN n9
          clear hI8 hs8 hC8
          have heq : (v == v) = true := by simp
          go_wp2_with fail
          refine (prs_waits hI9 0 _ EW.out).mono ?_
          rintro e w10 ⟨rfl, h10⟩; subst w10
          go_wp2
          go_ret
          exact ⟨rfl, hI9.below⟩
end Go.Proofs.Ytfmkjnlelijnoaa
