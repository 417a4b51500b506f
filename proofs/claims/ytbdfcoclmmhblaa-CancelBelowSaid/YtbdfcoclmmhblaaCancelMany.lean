/- CancelMany's walk. -/
import Derived.Test.YtbdfcoclmmhblaaCanNil
import Derived.Test.YtbdfcoclmmhblaaArgs
namespace Go.Proofs.Ytbdfcoclmmhblaa
open Go.RowKit

/-- One row below each other. -/
def chain (m : Nat) : List Int := (List.range m).map fun (i : Nat) => (i : Int) - 1
def offs (m : Nat) : List Bool := List.replicate m false
theorem chain_length (m : Nat) : (chain m).length = m := by simp [chain]
theorem chain_snoc (m : Nat) : chain (m + 1) = chain m ++ [(m : Int) - 1] := by simp [chain, List.range_succ]
theorem offs_snoc (m : Nat) : offs (m + 1) = offs m ++ [false] := by simp [offs, List.replicate_succ']
theorem toffM_offs (m : Nat) (x : Int) : toffM (offs m) x = false := by
  unfold toffM offs
  rw [List.getD_eq_getElem?_getD, List.getElem?_replicate]
  split <;> simp
theorem chain_make (i : Nat) (hi : i < 1024) : tmakeM (chain i) (offs i) ((i : Int) - 1) = ((chain (i + 1), offs (i + 1)), (i : Int), 0) := by
  unfold tmakeM
  rw [chain_length, if_neg (by omega), if_neg (by omega), toffM_offs, chain_snoc, offs_snoc]
theorem chain_wf (m : Nat) : TreeWf (chain m) := by
  intro j x h
  obtain ⟨hl, e⟩ := List.getElem?_eq_some_iff.1 h
  simp [chain] at e
  omega
theorem chain_up (m j : Nat) (hj : j + 1 < m) : up (chain m) (j + 1) = some j := by
  apply up_of
  simp [chain, hj]
theorem chain_comes (m c j : Nat) (hj : j < m) : Comes (chain m) c j ↔ c ≤ j := by
  constructor
  · exact fun h => h.le (chain_wf m)
  · intro h
    induction j with
    | zero =>
      obtain rfl : c = 0 := by omega
      exact .self
    | succ j ih =>
      by_cases e : c = j + 1
      · subst e
        exact .self
      · exact .step (chain_up m j hj) (ih (by omega) (by omega))
theorem offs_get (m j : Nat) : (offs m).getD j false = false := by
  unfold offs
  rw [List.getD_eq_getElem?_getD, List.getElem?_replicate]
  split <;> rfl
theorem chain_cancel (m q : Nat) (hq : q < m) : tcancelM (chain m) (offs m) (q : Int) = (offWith (chain m) (offs m) q, iota q (m - q), 0) := by
  unfold tcancelM
  rw [chain_length, if_pos (by omega), Int.toNat_natCast]
  congr 2
  refine rows_same (List.pairwise_map.2 ((newOff_inc _ _ _).imp (fun {a b} e => by omega))) ?_ fun j => ?_
  · exact List.pairwise_map.2 (List.pairwise_lt_range.imp (fun {a b} e => by omega))
  · simp only [List.mem_map, iota]
    constructor
    · rintro ⟨k, h, rfl⟩
      obtain ⟨h1, h2, _⟩ := (newOff_mem (chain_wf m)).1 h
      rw [chain_length] at h1
      rw [chain_comes m q k h1] at h2
      exact ⟨k - q, List.mem_range.2 (by omega), by omega⟩
    · rintro ⟨k, h, rfl⟩
      have := List.mem_range.1 h
      exact ⟨q + k, (newOff_mem (chain_wf m)).2 ⟨by rw [chain_length]; omega, (chain_comes m q _ (by omega)).2 (by omega), offs_get _ _⟩, rfl⟩
theorem chain_off (m q j : Nat) (hj : j < m) : toffM (offWith (chain m) (offs m) q) (j : Int) = decide (q ≤ j) := by
  have h := offWith_get (ab := chain m) (off := offs m) (c := q) (j := j) (by rw [chain_length]; exact hj)
  rw [offs_get, Bool.false_or] at h
  unfold toffM
  rw [Int.toNat_natCast, h, decide_eq_true (by omega : (0 : Int) ≤ (j : Int)), Bool.true_and, Bool.eq_iff_iff, comes_iff (chain_wf m), chain_comes m q j hj, decide_eq_true_eq]


set_option maxHeartbeats 2000000 in
set_option maxRecDepth 100000 in
theorem cancelMany_walk (x0 : Int) (w : World) (h0 : IntKind.u16.min ≤ x0 ∧ x0 ≤ IntKind.u16.max) :
    Calls Try.prog 5 #[.int .u16 x0] w fun e w' => e = .returned (.bool true) ∧ Below w.heap.size w w' := by
  obtain ⟨a0, a1⟩ := h0
  simp only [IntKind.min, IntKind.max, IntKind.signed, IntKind.bits] at a0 a1
  obtain ⟨m, rfl⟩ := Int.eq_ofNat_of_zero_le (show 0 ≤ x0 by simpa using a0)
  have hm : m ≤ 65535 := by simp at a1; omega
  obtain ⟨q, hq⟩ : ∃ q, q = m % 1024 := ⟨_, rfl⟩
  have hq1 : q < 1024 := by omega
  have hqm : (m : Int) % 1024 = (q : Int) := by omega
  clear a0 a1 hq
  go_enter Try.func5, Try.ntmps5
  go_wp2_with fail
  refine (can_shown w).mono ?_
  rintro e w1 ⟨rfl, hT1⟩
  have B1 := below_no (Below.refl _ w) hT1
  clear hT1
  go_wp2_with fail
  refine (cni_new B1).mono ?_
  rintro e w2 ⟨b, F, rfl, h2, _, _⟩
  clear B1
  go_wp2_with fail
  go_loopw [24] (fun i wr => ∃ (k : Nat) (F : Nat → Prop), i = .int .i64 k ∧ k ≤ 1024 ∧ CanI w wr b (chain k) (offs k) F) (fun i _ => 1024 - (intOf i).toNat)
  case atStart => exact ⟨0, F, rfl, by omega, h2⟩
  case round =>
    clear h2
    obtain ⟨k, F, rfl, hk, H⟩ := hrel
    by_cases hlt : k < 1024
    · have E := Lib.hid (chain_make k hlt)
      have g1 : ((k : Int) != (k : Int)) = false := by simp
      go_wp2_with fail
      refine (cni_make H ((k : Int) - 1) _ _ _ _ E.out).mono ?_
      rintro e w3 ⟨rfl, _, F3, h3, _⟩
      have H3 := Lib.hid h3
      clear H h3
      go_wp2
      go_roundw
      case rel => exact ⟨k + 1, F3, num (by omega), by omega, H3.out⟩
      case measure => simp [intOf]; omega
    · obtain rfl : k = 1024 := by omega
      have E1 : Hid (tmakeM (chain 1024) (offs 1024) 0 = ((chain 1024, offs 1024), 0, 3)) := Lib.hid (by unfold tmakeM; rw [chain_length, if_neg (by omega), if_pos (by omega)])
      have E2 : Hid (tmakeM (chain 1024) (offs 1024) 1024 = ((chain 1024, offs 1024), 0, 2)) := Lib.hid (by unfold tmakeM; rw [chain_length, if_pos (by omega)])
      have E3 := Lib.hid (chain_cancel 1024 q hq1)
      have E5 : Hid (toffM (offWith (chain 1024) (offs 1024) q) 1023 = true) := Lib.hid (by have := chain_off 1024 q 1023 (by omega); rw [decide_eq_true (by omega)] at this; exact this)
      have E4' : Hid (0 < q → toffM (offWith (chain 1024) (offs 1024) q) ((q : Int) - 1) = false) := Lib.hid (fun hq0 => by
        have := chain_off 1024 q (q - 1) (by omega)
        rw [decide_eq_false (by omega), show ((q - 1 : Nat) : Int) = (q : Int) - 1 by omega] at this
        exact this)
      have hx0 : (iota q (1024 - q)).getD 0 0 = (q : Int) := iota_getD q (1024 - q) 0 (by omega)
      have hxl := iota_length q (1024 - q)
      have hlen : (((1024 - q : Nat) : Int) == 1024 - (q : Int)) = true := by simp; omega
      clear hlt hk
      go_wp2_with fail
      refine (cni_make H 0 _ _ _ _ E1.out).mono ?_
      rintro e w3 ⟨rfl, _, F3, h3, _⟩
      clear H
      go_wp2_with fail
      refine (cni_make h3 1024 _ _ _ _ E2.out).mono ?_
      rintro e w4 ⟨rfl, _, F4, h4, _⟩
      clear h3
      go_wp2_with fail
      refine (cni_cancel h4 q _ _ _ E3.out).mono ?_
      rintro e w5 ⟨A5, c5, G5, rfl, hs5, hg5, h5, hT5⟩
      obtain ⟨g, rfl, rfl, hcl⟩ := hs5.cells (by rw [hxl]; omega)
      have hv0 := hcl _ _ (ints_get (iota q (1024 - q)) 0 (by rw [hxl]; omega))
      rw [hx0] at hv0
      have hcap := hs5.cap_le
      rw [hxl] at hcap ⊢
      have HI := Lib.hid h5
      clear h4 hs5 hg5 h5 hT5 hcl hx0 hxl
      go_wp2_with fail
      refine (can_make_nil (-1) _).mono ?_
      rintro e w0 ⟨rfl, h0⟩; subst w0
      go_wp2_with fail
      refine (can_cancel_nil 0 _).mono ?_
      rintro e w6 ⟨rfl, hT6⟩
      have HJ := Lib.hid (HI.out.nothing hT6)
      have hv6 := hT6.cell' hv0 (fun h => h)
      clear hT6 hv0 HI
      generalize offWith (chain 1024) (offs 1024) q = OF at *
      generalize chain 1024 = AB at *
      by_cases hq0 : q = 0
      · have hqz : ((q : Int) == 0) = true := by simp; omega
        have hqzn : (q == 0) = true := by simp; omega
        clear E4'
        go_wp2_with fail
        refine (cni_off HJ.out 1023 true E5.out).mono ?_
        rintro e w9 ⟨rfl, hw9⟩; subst w9
        go_wp2_with fail
        refine (can_off_nil 0 _).mono ?_
        rintro e w9 ⟨rfl, hw9⟩; subst w9
        go_wp2_with fail
        refine (can_len_nil _).mono ?_
        rintro e w9 ⟨rfl, hw9⟩; subst w9
        go_wp2
        go_ret
        exact ⟨rfl, HJ.out.below⟩
      · have hq0' : 0 < q := by omega
        have E4 := Lib.hid (E4'.out hq0')
        have hqz : ((q : Int) == 0) = false := by simp; omega
        have hqzn : (q == 0) = false := by simp; omega
        clear E4'
        go_wp2_with fail
        refine (cni_off HJ.out ((q : Int) - 1) false E4.out).mono ?_
        rintro e w9 ⟨rfl, hw9⟩; subst w9
        go_wp2_with fail
        refine (cni_off HJ.out 1023 true E5.out).mono ?_
        rintro e w9 ⟨rfl, hw9⟩; subst w9
        go_wp2_with fail
        refine (can_off_nil 0 _).mono ?_
        rintro e w9 ⟨rfl, hw9⟩; subst w9
        go_wp2_with fail
        refine (can_len_nil _).mono ?_
        rintro e w9 ⟨rfl, hw9⟩; subst w9
        go_wp2
        go_ret
        exact ⟨rfl, HJ.out.below⟩
end Go.Proofs.Ytbdfcoclmmhblaa
