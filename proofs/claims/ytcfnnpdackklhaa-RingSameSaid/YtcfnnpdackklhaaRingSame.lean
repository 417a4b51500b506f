/- RingSame's walk. -/
import Derived.Test.YtcfnnpdackklhaaRingShown
import Derived.Test.YtcfnnpdackklhaaIota
import Derived.Test.YtcfnnpdackklhaaArgs
namespace Go.Proofs.Ytcfnnpdackklhaa
open Go.RowKit

set_option maxHeartbeats 8000000 in
set_option maxRecDepth 100000 in
theorem ringSame_lt (m n : Nat) (a : Option Addr) (cap : Nat) (l : List Int) (w : World) (hn : n ≤ 255) (hx : m < n) (h : IntsIn .i64 w a cap l) :
    Calls Try.prog 6 #[.int .u8 m, .int .u8 n, .slice a l.length cap] w fun e w' => e = .returned (.bool true) ∧ Below w.heap.size w w' := by
  obtain ⟨hl, hc, he, _⟩ := h
  have hmn : m ≤ n := by omega
  have hm : m ≤ 255 := by omega
  have HE := Lib.hid he
  clear he
  all_goals
    go_enter Try.func6, Try.ntmps6
    go_wp2_with fail
    refine (ring_shown w).mono ?_
    rintro e w1 ⟨rfl, hT1⟩
    have B1 := below_no (Below.refl _ w) hT1
    clear hT1
    go_wp2_with fail
    refine (ring_new_yes (m + 1) w1 (by omega) (by omega)).mono ?_
    rintro e w2 ⟨bx, rfl, hb, hX, hT2⟩
    have hbx : w.heap.size ≤ bx := Nat.le_trans B1.size hb
    have B2 := below_no B1 hT2
    clear hT2 B1 hb
    have hlx := hX.lt
    go_wp2_with fail
    refine (ring_new_yes (n + 1) w2 (by omega) (by omega)).mono ?_
    rintro e w3 ⟨by', rfl, hb, hY, hT3⟩
    have hby : w.heap.size ≤ by' := Nat.le_trans B2.size hb
    have hxy : bx ≠ by' := by omega
    have B3 := below_no B2 hT3
    have hX3 := hX.keep hT3 (fun h => h)
    clear hT3 B2 hb hX hlx
    go_wp2_with fail
    all_goals
      go_loopw [61] (fun i wr => ∃ (k : Nat) (q : List Int), i = .int .i64 k ∧ k ≤ min l.length 300 ∧ RingQ wr bx (m + 1) q ∧ RingQ wr by' (n + 1) q ∧ Below w.heap.size w wr) (fun i _ => 300 - (intOf i).toNat)
      case atStart => exact ⟨0, [], rfl, Nat.zero_le _, hX3, hY, B3⟩
      case round =>
        clear hX3 hY B3
        obtain ⟨k, q, rfl, hk, hX, hY, B⟩ := hrel
        have HB := Lib.hid B
        clear B
        by_cases hlt : k < min l.length 300
        · obtain ⟨ba, off, rfl, hcell⟩ := HE.out (by omega)
          have hc1 := hcell k (by omega)
          have hcw : wr.cell? ⟨ba, off + k, none⟩ = some (.int .i64 (l.getD k 0)) := (HB.out.cell (p := ⟨ba, off + k, none⟩) (World.block_lt_of_cell? w _ hc1)).trans hc1
          have hkl : k < l.length := by omega
          have hk2 : k < 300 := by omega
          have HR : Hid (k + 1 ≤ min l.length 300) := Lib.hid (by omega)
          clear hcell hc1 hlt
          generalize l.getD k 0 = v at *
          by_cases hv : v < 0
          · cases q with
            | nil =>
              go_wp2_with fail
              refine (ring_take_no bx (m + 1) _ hX).mono ?_
              rintro e w4 ⟨rfl, rfl⟩
              go_wp2_with fail
              refine (ring_take_no by' (n + 1) _ hY).mono ?_
              rintro e w4 ⟨rfl, rfl⟩
              go_wp2
              go_roundw
              case rel => exact ⟨k + 1, [], by go_num, HR.out, hX, hY, HB.out⟩
              case measure => simp [intOf]; omega
            | cons x q =>
              go_wp2_with fail
              refine (ring_take_yes bx (m + 1) x q _ hX).mono ?_
              rintro e w4 ⟨rfl, hX4, hT4⟩
              have hY4 := hY.keep hT4 (fun h => hxy h.symm)
              have B4 := Lib.hid (below_one HB.out hT4 hbx)
              clear hT4 HB hX hY
              go_wp2_with fail
              refine (ring_take_yes by' (n + 1) x q _ hY4).mono ?_
              rintro e w5 ⟨rfl, hY5, hT5⟩
              have hX5 := hX4.keep hT5 hxy
              have B5 := Lib.hid (below_one B4.out hT5 hby)
              clear hT5 B4 hX4 hY4
              go_wp2
              go_roundw
              case rel => exact ⟨k + 1, q, by go_num, HR.out, hX5, hY5, B5.out⟩
              case measure => simp [intOf]; omega
          · have hle := hX.le
            by_cases hfull : q.length = m + 1
            · have HF := Lib.hid hfull
              go_wp2_with fail
              refine (ring_len bx (m + 1) q _ hX).mono ?_
              rintro e w4 ⟨rfl, rfl⟩
              rw [hfull]
              clear hfull
              go_wp2_with fail
              refine (ring_put_no bx (m + 1) q v _ hX HF.out).mono ?_
              rintro e w4 ⟨rfl, hX4, hT4⟩
              have hY4 := hY.keep hT4 (fun h => h)
              have B4 := Lib.hid (below_no HB.out hT4)
              clear hT4 HB hX hY
              go_wp2
              go_roundw
              case rel => exact ⟨k + 1, q, by go_num, HR.out, hX4, hY4, B4.out⟩
              case measure => simp [intOf]; omega
            · have hlq : q.length < m + 1 := by omega
              have hne : ((q.length : Int) == (m : Int) + 1) = false := by simp; omega
              clear hfull
              go_wp2_with fail
              refine (ring_len bx (m + 1) q _ hX).mono ?_
              rintro e w4 ⟨rfl, rfl⟩
              go_wp2_with fail
              refine (ring_put_yes bx (m + 1) q v _ hX hlq).mono ?_
              rintro e w4 ⟨rfl, hX4, hT4⟩
              have hY4 := hY.keep hT4 (fun h => hxy h.symm)
              have B4 := Lib.hid (below_one HB.out hT4 hbx)
              clear hT4 HB hX hY
              go_wp2_with fail
              refine (ring_put_yes by' (n + 1) q v _ hY4 (by omega)).mono ?_
              rintro e w5 ⟨rfl, hY5, hT5⟩
              have hX5 := hX4.keep hT5 hxy
              have B5 := Lib.hid (below_one B4.out hT5 hby)
              clear hT5 B4 hX4 hY4
              go_wp2_with fail
              refine (ring_len bx (m + 1) _ _ hX5).mono ?_
              rintro e w6 ⟨rfl, rfl⟩
              go_wp2_with fail
              refine (ring_len by' (n + 1) _ _ hY5).mono ?_
              rintro e w6 ⟨rfl, rfl⟩
              go_wp2
              go_roundw
              case rel => exact ⟨k + 1, q ++ [v], by go_num, HR.out, hX5, hY5, B5.out⟩
              case measure => simp [intOf]; omega
        · have hge : min l.length 300 ≤ k := by omega
          clear hlt
          go_wp2
          go_ret
          exact ⟨rfl, HB.out⟩

set_option maxHeartbeats 8000000 in
set_option maxRecDepth 100000 in
theorem ringSame_gt (m n : Nat) (a : Option Addr) (cap : Nat) (l : List Int) (w : World) (hn : n ≤ 255) (hx : m < n) (h : IntsIn .i64 w a cap l) :
    Calls Try.prog 6 #[.int .u8 n, .int .u8 m, .slice a l.length cap] w fun e w' => e = .returned (.bool true) ∧ Below w.heap.size w w' := by
  obtain ⟨hl, hc, he, _⟩ := h
  have hmn : m ≤ n := by omega
  have hm : m ≤ 255 := by omega
  have HE := Lib.hid he
  clear he
  all_goals
    go_enter Try.func6, Try.ntmps6
    go_wp2_with fail
    refine (ring_shown w).mono ?_
    rintro e w1 ⟨rfl, hT1⟩
    have B1 := below_no (Below.refl _ w) hT1
    clear hT1
    go_wp2_with fail
    refine (ring_new_yes (m + 1) w1 (by omega) (by omega)).mono ?_
    rintro e w2 ⟨bx, rfl, hb, hX, hT2⟩
    have hbx : w.heap.size ≤ bx := Nat.le_trans B1.size hb
    have B2 := below_no B1 hT2
    clear hT2 B1 hb
    have hlx := hX.lt
    go_wp2_with fail
    refine (ring_new_yes (n + 1) w2 (by omega) (by omega)).mono ?_
    rintro e w3 ⟨by', rfl, hb, hY, hT3⟩
    have hby : w.heap.size ≤ by' := Nat.le_trans B2.size hb
    have hxy : bx ≠ by' := by omega
    have B3 := below_no B2 hT3
    have hX3 := hX.keep hT3 (fun h => h)
    clear hT3 B2 hb hX hlx
    go_wp2_with fail
    all_goals
      go_loopw [61] (fun i wr => ∃ (k : Nat) (q : List Int), i = .int .i64 k ∧ k ≤ min l.length 300 ∧ RingQ wr bx (m + 1) q ∧ RingQ wr by' (n + 1) q ∧ Below w.heap.size w wr) (fun i _ => 300 - (intOf i).toNat)
      case atStart => exact ⟨0, [], rfl, Nat.zero_le _, hX3, hY, B3⟩
      case round =>
        clear hX3 hY B3
        obtain ⟨k, q, rfl, hk, hX, hY, B⟩ := hrel
        have HB := Lib.hid B
        clear B
        by_cases hlt : k < min l.length 300
        · obtain ⟨ba, off, rfl, hcell⟩ := HE.out (by omega)
          have hc1 := hcell k (by omega)
          have hcw : wr.cell? ⟨ba, off + k, none⟩ = some (.int .i64 (l.getD k 0)) := (HB.out.cell (p := ⟨ba, off + k, none⟩) (World.block_lt_of_cell? w _ hc1)).trans hc1
          have hkl : k < l.length := by omega
          have hk2 : k < 300 := by omega
          have HR : Hid (k + 1 ≤ min l.length 300) := Lib.hid (by omega)
          clear hcell hc1 hlt
          generalize l.getD k 0 = v at *
          by_cases hv : v < 0
          · cases q with
            | nil =>
              go_wp2_with fail
              refine (ring_take_no bx (m + 1) _ hX).mono ?_
              rintro e w4 ⟨rfl, rfl⟩
              go_wp2_with fail
              refine (ring_take_no by' (n + 1) _ hY).mono ?_
              rintro e w4 ⟨rfl, rfl⟩
              go_wp2
              go_roundw
              case rel => exact ⟨k + 1, [], by go_num, HR.out, hX, hY, HB.out⟩
              case measure => simp [intOf]; omega
            | cons x q =>
              go_wp2_with fail
              refine (ring_take_yes bx (m + 1) x q _ hX).mono ?_
              rintro e w4 ⟨rfl, hX4, hT4⟩
              have hY4 := hY.keep hT4 (fun h => hxy h.symm)
              have B4 := Lib.hid (below_one HB.out hT4 hbx)
              clear hT4 HB hX hY
              go_wp2_with fail
              refine (ring_take_yes by' (n + 1) x q _ hY4).mono ?_
              rintro e w5 ⟨rfl, hY5, hT5⟩
              have hX5 := hX4.keep hT5 hxy
              have B5 := Lib.hid (below_one B4.out hT5 hby)
              clear hT5 B4 hX4 hY4
              go_wp2
              go_roundw
              case rel => exact ⟨k + 1, q, by go_num, HR.out, hX5, hY5, B5.out⟩
              case measure => simp [intOf]; omega
          · have hle := hX.le
            by_cases hfull : q.length = m + 1
            · have HF := Lib.hid hfull
              go_wp2_with fail
              refine (ring_len bx (m + 1) q _ hX).mono ?_
              rintro e w4 ⟨rfl, rfl⟩
              rw [hfull]
              clear hfull
              go_wp2_with fail
              refine (ring_put_no bx (m + 1) q v _ hX HF.out).mono ?_
              rintro e w4 ⟨rfl, hX4, hT4⟩
              have hY4 := hY.keep hT4 (fun h => h)
              have B4 := Lib.hid (below_no HB.out hT4)
              clear hT4 HB hX hY
              go_wp2
              go_roundw
              case rel => exact ⟨k + 1, q, by go_num, HR.out, hX4, hY4, B4.out⟩
              case measure => simp [intOf]; omega
            · have hlq : q.length < m + 1 := by omega
              have hne : ((q.length : Int) == (m : Int) + 1) = false := by simp; omega
              clear hfull
              go_wp2_with fail
              refine (ring_len bx (m + 1) q _ hX).mono ?_
              rintro e w4 ⟨rfl, rfl⟩
              go_wp2_with fail
              refine (ring_put_yes bx (m + 1) q v _ hX hlq).mono ?_
              rintro e w4 ⟨rfl, hX4, hT4⟩
              have hY4 := hY.keep hT4 (fun h => hxy h.symm)
              have B4 := Lib.hid (below_one HB.out hT4 hbx)
              clear hT4 HB hX hY
              go_wp2_with fail
              refine (ring_put_yes by' (n + 1) q v _ hY4 (by omega)).mono ?_
              rintro e w5 ⟨rfl, hY5, hT5⟩
              have hX5 := hX4.keep hT5 hxy
              have B5 := Lib.hid (below_one B4.out hT5 hby)
              clear hT5 B4 hX4 hY4
              go_wp2_with fail
              refine (ring_len bx (m + 1) _ _ hX5).mono ?_
              rintro e w6 ⟨rfl, rfl⟩
              go_wp2_with fail
              refine (ring_len by' (n + 1) _ _ hY5).mono ?_
              rintro e w6 ⟨rfl, rfl⟩
              go_wp2
              go_roundw
              case rel => exact ⟨k + 1, q ++ [v], by go_num, HR.out, hX5, hY5, B5.out⟩
              case measure => simp [intOf]; omega
        · have hge : min l.length 300 ≤ k := by omega
          clear hlt
          go_wp2
          go_ret
          exact ⟨rfl, HB.out⟩

set_option maxHeartbeats 8000000 in
set_option maxRecDepth 100000 in
theorem ringSame_eq (n : Nat) (a : Option Addr) (cap : Nat) (l : List Int) (w : World) (hn : n ≤ 255)  (h : IntsIn .i64 w a cap l) :
    Calls Try.prog 6 #[.int .u8 n, .int .u8 n, .slice a l.length cap] w fun e w' => e = .returned (.bool true) ∧ Below w.heap.size w w' := by
  obtain ⟨hl, hc, he, _⟩ := h
  have hmn : n ≤ n := by omega
  have hm : n ≤ 255 := by omega
  have HE := Lib.hid he
  clear he
  all_goals
    go_enter Try.func6, Try.ntmps6
    go_wp2_with fail
    refine (ring_shown w).mono ?_
    rintro e w1 ⟨rfl, hT1⟩
    have B1 := below_no (Below.refl _ w) hT1
    clear hT1
    go_wp2_with fail
    refine (ring_new_yes (n + 1) w1 (by omega) (by omega)).mono ?_
    rintro e w2 ⟨bx, rfl, hb, hX, hT2⟩
    have hbx : w.heap.size ≤ bx := Nat.le_trans B1.size hb
    have B2 := below_no B1 hT2
    clear hT2 B1 hb
    have hlx := hX.lt
    go_wp2_with fail
    refine (ring_new_yes (n + 1) w2 (by omega) (by omega)).mono ?_
    rintro e w3 ⟨by', rfl, hb, hY, hT3⟩
    have hby : w.heap.size ≤ by' := Nat.le_trans B2.size hb
    have hxy : bx ≠ by' := by omega
    have B3 := below_no B2 hT3
    have hX3 := hX.keep hT3 (fun h => h)
    clear hT3 B2 hb hX hlx
    go_wp2_with fail
    all_goals
      go_loopw [61] (fun i wr => ∃ (k : Nat) (q : List Int), i = .int .i64 k ∧ k ≤ min l.length 300 ∧ RingQ wr bx (n + 1) q ∧ RingQ wr by' (n + 1) q ∧ Below w.heap.size w wr) (fun i _ => 300 - (intOf i).toNat)
      case atStart => exact ⟨0, [], rfl, Nat.zero_le _, hX3, hY, B3⟩
      case round =>
        clear hX3 hY B3
        obtain ⟨k, q, rfl, hk, hX, hY, B⟩ := hrel
        have HB := Lib.hid B
        clear B
        by_cases hlt : k < min l.length 300
        · obtain ⟨ba, off, rfl, hcell⟩ := HE.out (by omega)
          have hc1 := hcell k (by omega)
          have hcw : wr.cell? ⟨ba, off + k, none⟩ = some (.int .i64 (l.getD k 0)) := (HB.out.cell (p := ⟨ba, off + k, none⟩) (World.block_lt_of_cell? w _ hc1)).trans hc1
          have hkl : k < l.length := by omega
          have hk2 : k < 300 := by omega
          have HR : Hid (k + 1 ≤ min l.length 300) := Lib.hid (by omega)
          clear hcell hc1 hlt
          generalize l.getD k 0 = v at *
          by_cases hv : v < 0
          · cases q with
            | nil =>
              go_wp2_with fail
              refine (ring_take_no bx (n + 1) _ hX).mono ?_
              rintro e w4 ⟨rfl, rfl⟩
              go_wp2_with fail
              refine (ring_take_no by' (n + 1) _ hY).mono ?_
              rintro e w4 ⟨rfl, rfl⟩
              go_wp2
              go_roundw
              case rel => exact ⟨k + 1, [], by go_num, HR.out, hX, hY, HB.out⟩
              case measure => simp [intOf]; omega
            | cons x q =>
              go_wp2_with fail
              refine (ring_take_yes bx (n + 1) x q _ hX).mono ?_
              rintro e w4 ⟨rfl, hX4, hT4⟩
              have hY4 := hY.keep hT4 (fun h => hxy h.symm)
              have B4 := Lib.hid (below_one HB.out hT4 hbx)
              clear hT4 HB hX hY
              go_wp2_with fail
              refine (ring_take_yes by' (n + 1) x q _ hY4).mono ?_
              rintro e w5 ⟨rfl, hY5, hT5⟩
              have hX5 := hX4.keep hT5 hxy
              have B5 := Lib.hid (below_one B4.out hT5 hby)
              clear hT5 B4 hX4 hY4
              go_wp2
              go_roundw
              case rel => exact ⟨k + 1, q, by go_num, HR.out, hX5, hY5, B5.out⟩
              case measure => simp [intOf]; omega
          · have hle := hX.le
            by_cases hfull : q.length = n + 1
            · have HF := Lib.hid hfull
              go_wp2_with fail
              refine (ring_len bx (n + 1) q _ hX).mono ?_
              rintro e w4 ⟨rfl, rfl⟩
              rw [hfull]
              clear hfull
              go_wp2_with fail
              refine (ring_put_no bx (n + 1) q v _ hX HF.out).mono ?_
              rintro e w4 ⟨rfl, hX4, hT4⟩
              have hY4 := hY.keep hT4 (fun h => h)
              have B4 := Lib.hid (below_no HB.out hT4)
              clear hT4 HB hX hY
              go_wp2
              go_roundw
              case rel => exact ⟨k + 1, q, by go_num, HR.out, hX4, hY4, B4.out⟩
              case measure => simp [intOf]; omega
            · have hlq : q.length < n + 1 := by omega
              have hne : ((q.length : Int) == (n : Int) + 1) = false := by simp; omega
              clear hfull
              go_wp2_with fail
              refine (ring_len bx (n + 1) q _ hX).mono ?_
              rintro e w4 ⟨rfl, rfl⟩
              go_wp2_with fail
              refine (ring_put_yes bx (n + 1) q v _ hX hlq).mono ?_
              rintro e w4 ⟨rfl, hX4, hT4⟩
              have hY4 := hY.keep hT4 (fun h => hxy h.symm)
              have B4 := Lib.hid (below_one HB.out hT4 hbx)
              clear hT4 HB hX hY
              go_wp2_with fail
              refine (ring_put_yes by' (n + 1) q v _ hY4 (by omega)).mono ?_
              rintro e w5 ⟨rfl, hY5, hT5⟩
              have hX5 := hX4.keep hT5 hxy
              have B5 := Lib.hid (below_one B4.out hT5 hby)
              clear hT5 B4 hX4 hY4
              go_wp2_with fail
              refine (ring_len bx (n + 1) _ _ hX5).mono ?_
              rintro e w6 ⟨rfl, rfl⟩
              go_wp2_with fail
              refine (ring_len by' (n + 1) _ _ hY5).mono ?_
              rintro e w6 ⟨rfl, rfl⟩
              go_wp2
              go_roundw
              case rel => exact ⟨k + 1, q ++ [v], by go_num, HR.out, hX5, hY5, B5.out⟩
              case measure => simp [intOf]; omega
        · have hge : min l.length 300 ≤ k := by omega
          clear hlt
          go_wp2
          go_ret
          exact ⟨rfl, HB.out⟩

theorem ringSame_walk (x0 x1 : Int) (a : Option Addr) (cap : Nat) (l : List Int) (w : World) (h0 : IntKind.u8.min ≤ x0 ∧ x0 ≤ IntKind.u8.max) (h1 : IntKind.u8.min ≤ x1 ∧ x1 ≤ IntKind.u8.max) (h : IntsIn .i64 w a cap l) :
    Calls Try.prog 6 #[.int .u8 x0, .int .u8 x1, .slice a l.length cap] w fun e w' => e = .returned (.bool true) ∧ Below w.heap.size w w' := by
  simp only [IntKind.min, IntKind.max, IntKind.signed, IntKind.bits] at h0 h1
  simp at h0 h1
  obtain ⟨m, rfl⟩ := Int.eq_ofNat_of_zero_le h0.1
  obtain ⟨n, rfl⟩ := Int.eq_ofNat_of_zero_le h1.1
  rcases Nat.lt_trichotomy m n with hlt | rfl | hgt
  · exact ringSame_lt m n a cap l w (by omega) hlt h
  · exact ringSame_eq m a cap l w (by omega) h
  · exact ringSame_gt n m a cap l w (by omega) hgt h
end Go.Proofs.Ytcfnnpdackklhaa
