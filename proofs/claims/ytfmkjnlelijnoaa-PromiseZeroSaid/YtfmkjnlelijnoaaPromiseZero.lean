/- PromiseZero's walk. -/
import Derived.Test.YtfmkjnlelijnoaaPromiseLaw
namespace Go.Proofs.Ytfmkjnlelijnoaa
open Go.RowKit

set_option maxHeartbeats 1000000 in
set_option maxRecDepth 100000 in
theorem promiseZero_walk (a c : Int) (w : World) (_ha : IntKind.i64.min ≤ a ∧ a ≤ IntKind.i64.max) (_hc : IntKind.i64.min ≤ c ∧ c ≤ IntKind.i64.max) :
    Calls Try.prog 3 #[.int .i64 a, .int .i64 c] w fun e w' => e = .returned (.bool true) ∧ Below w.heap.size w w' := by
  clear _ha _hc
  have E1 := Lib.hid (show makeM [] = ([⟨false, 0, []⟩], 0, 0) from rfl)
  have E2 := Lib.hid (show settleM [⟨false, 0, []⟩] 0 a = ([⟨true, a, []⟩], [], 0) from rfl)
  have E3 := Lib.hid (show valueM [⟨true, a, []⟩] 0 = (a, true, 0) from rfl)
  have E4 := Lib.hid (show settleM [⟨true, a, []⟩] 0 c = ([⟨true, a, []⟩], [], 160) from rfl)
  have E5 := Lib.hid (show thenM [⟨true, a, []⟩] 0 5 = ([⟨true, a, []⟩], a, true, 0) from rfl)
  go_enter Try.func3, Try.ntmps3
  go_wp2_with fail
  refine (promise_shown w).mono ?_
  rintro e w1 ⟨rfl, hT1⟩
  have B1 := below_no (Below.refl _ w) hT1
  clear hT1
  go_wp2_with fail
  refine (prs_new B1).mono ?_
  rintro e w2 ⟨b, F1, rfl, h1, _, _⟩
  go_wp2_with fail
  refine (prs_make h1 _ _ _ E1.out).mono ?_
  rintro e w2 ⟨rfl, _, F2, h2, _⟩
  clear h1
  go_wp2_with fail
  refine (prs_settle h2 0 a _ _ _ E2.out).mono ?_
  rintro e w3 ⟨A, c3, G, rfl, _, _, h3, _⟩
  clear h2
  go_wp2_with fail
  refine (prs_value h3 0 _ _ _ E3.out).mono ?_
  rintro e w4 ⟨rfl, n, rfl⟩
  have h4 := h3.drewN n
  clear h3
  go_wp2_with fail
  refine (prs_settle h4 0 c _ _ _ E4.out).mono ?_
  rintro e w5 ⟨A', c5, G', rfl, _, _, h5, _⟩
  clear h4
  go_wp2_with fail
  refine (prs_then h5 0 5 _ _ _ _ E5.out).mono ?_
  rintro e w6 ⟨rfl, h6, _⟩
  clear h5
  go_wp2
  go_ret
  exact ⟨rfl, h6.below⟩
end Go.Proofs.Ytfmkjnlelijnoaa
