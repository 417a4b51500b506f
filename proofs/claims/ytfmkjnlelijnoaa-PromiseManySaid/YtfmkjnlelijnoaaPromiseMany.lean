/- PromiseMany's walk. -/
import Derived.Test.YtfmkjnlelijnoaaPromiseNews
import Derived.Test.YtfmkjnlelijnoaaIota
namespace Go.Proofs.Ytfmkjnlelijnoaa
open Go.RowKit

def manyT (k j : Nat) : List Pr := (news 512).set k ⟨false, 0, iota 0 j⟩
def manyD (k : Nat) (v : Int) : List Pr := (news 512).set k ⟨true, v, []⟩
theorem many_zero (k : Nat) (h : k < 512) : news 512 = manyT k 0 := by
  apply List.ext_getElem?
  intro i
  simp only [manyT, iota_zero]
  by_cases hi : k = i
  · subst hi
    rw [set_get _ _ _ (by rw [news_length]; exact h), news_get _ _ h]
  · rw [set_get_ne _ _ _ _ hi]
theorem many_at (k j : Nat) (h : k < 512) : (manyT k j)[k]? = some ⟨false, 0, iota 0 j⟩ := set_get _ _ _ (by rw [news_length]; exact h)
theorem many_then (k j : Nat) (h : k < 512) (hj : j < 256) : thenM (manyT k j) (k : Int) (j : Int) = (manyT k (j + 1), 0, false, 0) := by
  rw [then_at _ _ _ _ (many_at k j h) rfl (by rw [iota_length]; exact hj)]
  simp only [manyT, List.set_set, iota_snoc, Nat.zero_add]
theorem many_full (k : Nat) (r : Int) (h : k < 512) : thenM (manyT k 256) (k : Int) r = (manyT k 256, 0, false, 140) := then_full _ _ _ _ (many_at k 256 h) rfl (by rw [iota_length]; omega)
theorem many_settle (k : Nat) (v : Int) (h : k < 512) : settleM (manyT k 256) (k : Int) v = (manyD k v, iota 0 256, 0) := by
  rw [settle_at _ _ _ _ (many_at k 256 h) rfl]
  simp only [manyT, manyD, List.set_set]
theorem many_value1 (k : Nat) (v : Int) (h : k < 512) : valueM (manyD k v) (k : Int) = (v, true, 0) := value_at _ _ _ (set_get _ _ _ (by rw [news_length]; exact h))
theorem many_value2 (k i : Nat) (v : Int) (h : i < 512) (hk : k ≠ i) : valueM (manyD k v) (i : Int) = (0, false, 0) := value_at _ _ ⟨false, 0, []⟩ (by rw [manyD, set_get_ne _ _ _ _ hk, news_get _ _ h])

set_option maxHeartbeats 4000000 in
set_option maxRecDepth 100000 in
theorem promiseMany_walk (x0 v : Int) (w : World) (h0 : IntKind.u16.min ≤ x0 ∧ x0 ≤ IntKind.u16.max) (_h1 : IntKind.i64.min ≤ v ∧ v ≤ IntKind.i64.max) :
    Calls Try.prog 6 #[.int .u16 x0, .int .i64 v] w fun e w' => e = .returned (.bool true) ∧ Below w.heap.size w w' := by
  clear _h1
  obtain ⟨a0, a1⟩ := h0
  simp only [IntKind.min, IntKind.max, IntKind.signed, IntKind.bits] at a0 a1
  obtain ⟨m, rfl⟩ := Int.eq_ofNat_of_zero_le (show 0 ≤ x0 by simpa using a0)
  have hm : m ≤ 65535 := by simp at a1; omega
  obtain ⟨k, hk⟩ : ∃ n, n = m % 512 := ⟨_, rfl⟩
  have hk1 : k < 512 := by omega
  have hnm : (m : Int) % 512 = (k : Int) := by omega
  clear a0 a1 hk
  go_enter Try.func6, Try.ntmps6
  go_wp2_with fail
  refine (promise_shown w).mono ?_
  rintro e w1 ⟨rfl, hT1⟩
  have B1 := below_no (Below.refl _ w) hT1
  clear hT1
  go_wp2_with fail
  refine (prs_new B1).mono ?_
  rintro e w2 ⟨b, F, rfl, h2, _, _⟩
  clear B1
  go_wp2_with fail
  go_loopw [41] (fun i wr => ∃ (j : Nat) (F : Nat → Prop), i = .int .i64 j ∧ j ≤ 512 ∧ PrsI w wr b (news j) F) (fun i _ => 512 - (intOf i).toNat)
  case atStart => exact ⟨0, F, rfl, Nat.zero_le _, h2⟩
  case round =>
    clear h2
    obtain ⟨j, F, rfl, hj, hI⟩ := hrel
    by_cases hlt : j < 512
    · have hne : ((j : Int) != (j : Int)) = false := by simp
      go_wp2_with fail
      refine (prs_make hI _ _ _ (news_make j hlt)).mono ?_
      rintro e w3 ⟨rfl, _, F3, hI3, _⟩
      clear hI
      go_wp2
      go_roundw
      case rel => exact ⟨j + 1, F3, rfl, by omega, hI3⟩
      case measure => simp [intOf]; omega
    · obtain rfl : j = 512 := by omega
      clear hlt hj
      go_wp2_with fail
      refine (prs_make hI _ _ _ news_full).mono ?_
      rintro e w3 ⟨rfl, _, F3, hI3, _⟩
      rw [many_zero k hk1] at hI3
      clear hI
      go_wp2_with fail
      simp only [hnm]
      clear hnm hm
      go_loopw [65] (fun i wr => ∃ j : Nat, i = .int .i64 j ∧ j ≤ 256 ∧ PrsI w wr b (manyT k j) F3) (fun i _ => 256 - (intOf i).toNat)
      case atStart => exact ⟨0, rfl, Nat.zero_le _, hI3⟩
      case round =>
        clear hI3
        obtain ⟨j, rfl, hj, hI⟩ := hrel
        by_cases hlt : j < 256
        · have E := Lib.hid (many_then k j hk1 hlt)
          go_wp2_with fail
          refine (prs_then hI k j _ _ _ _ E.out).mono ?_
          rintro e w4 ⟨rfl, hI4, _⟩
          clear hI
          go_wp2
          go_roundw
          case rel => exact ⟨j + 1, num (by omega), by omega, hI4⟩
          case measure => simp [intOf]; omega
        · obtain rfl : j = 256 := by omega
          clear hlt hj
          have E1 := Lib.hid (many_full k 0 hk1)
          have E2 := Lib.hid (many_settle k v hk1)
          go_wp2_with fail
          refine (prs_then hI k 0 _ _ _ _ E1.out).mono ?_
          rintro e w4 ⟨rfl, hI4, _⟩
          clear hI
          go_wp2_with fail
          refine (prs_settle hI4 k v _ _ _ E2.out).mono ?_
          rw [iota_length]
          rintro e w5 ⟨A, c, G, rfl, hs, _, hI5, _⟩
          clear hI4 hs E1 E2
          go_wp2_with fail
          go_loopw [93] (fun i wr => ∃ j : Nat, i = .int .i64 j ∧ j ≤ 512 ∧ PrsI w wr b (manyD k v) F3) (fun i _ => 512 - (intOf i).toNat)
          case atStart => exact ⟨0, rfl, Nat.zero_le _, hI5⟩
          case round =>
            clear hI5
            obtain ⟨j, rfl, hj, hI⟩ := hrel
            by_cases hlt : j < 512
            · by_cases hjk : k = j
              · subst hjk
                have heq : ((k : Int) == (k : Int)) = true := by simp
                have E := Lib.hid (many_value1 k v hk1)
                go_wp2_with fail
                refine (prs_value hI k _ _ _ E.out).mono ?_
                rintro e w6 ⟨rfl, n6, rfl⟩
                go_wp2
                go_roundw
                case rel => exact ⟨k + 1, num (by omega), by omega, hI.drewN n6⟩
                case measure => simp [intOf]; omega
              · have heq : ((j : Int) == (k : Int)) = false := by simp; omega
                have heqn : (j == k) = false := by simp; omega
                have E := Lib.hid (many_value2 k j v hlt hjk)
                go_wp2_with fail
                refine (prs_value hI j _ _ _ E.out).mono ?_
                rintro e w6 ⟨rfl, n6, rfl⟩
                go_wp2
                go_roundw
                case rel => exact ⟨j + 1, num (by omega), by omega, hI.drewN n6⟩
                case measure => simp [intOf]; omega
            · obtain rfl : j = 512 := by omega
              have HB := Lib.hid hI.below
              clear hlt hj hI
              go_wp2_with fail
              refine (promise_make_nil _).mono ?_
              rintro e w6 ⟨rfl, rfl⟩
              go_wp2_with fail
              refine (promise_then_nil 0 0 _).mono ?_
              rintro e w6 ⟨rfl, rfl⟩
              go_wp2_with fail
              refine (promise_settle_nil 0 0 _).mono ?_
              rintro e w6 ⟨rfl, rfl⟩
              go_wp2_with fail
              refine (promise_value_nil 0 _).mono ?_
              rintro e w6 ⟨rfl, rfl⟩
              go_wp2_with fail
              refine (promise_len_nil _).mono ?_
              rintro e w6 ⟨rfl, rfl⟩
              go_wp2_with fail
              refine (promise_waits_nil 0 _).mono ?_
              rintro e w6 ⟨rfl, rfl⟩
              go_wp2
              go_ret
              exact ⟨rfl, HB.out⟩
end Go.Proofs.Ytfmkjnlelijnoaa
