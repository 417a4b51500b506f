/- LoopNil: a nil loop has nothing. -/
import Derived.Test.YtipbimbnpikbcaaLoopNone
namespace Go.Proofs.Ytipbimbnpikbcaa
open Go.RowKit

set_option maxHeartbeats 8000000 in
set_option maxRecDepth 100000 in
theorem loopNil_walk (n : Int) (w : World) (_hn : IntKind.i64.min ≤ n ∧ n ≤ IntKind.i64.max) :
    Calls Try.prog 3 #[.int .i64 n] w fun e w' => e = .returned (.bool true) ∧ Below w.heap.size w w' := by
  clear _hn
  go_enter Try.func3, Try.ntmps3
  go_wp2_with fail
  refine (loop_shown w).mono ?_
  rintro e w1 ⟨rfl, hT1⟩
  have HB1 := Lib.hid (below_no (Below.refl _ w) hT1)
  clear hT1
  go_wp2_with fail
  refine (lnil_advance n w1).mono ?_
  rintro e w0 ⟨rfl, h0⟩; subst w0
  go_wp2_with fail
  refine (lnil_spawn n w1).mono ?_
  rintro e w0 ⟨rfl, h0⟩; subst w0
  go_wp2_with fail
  refine (lnil_micro n w1).mono ?_
  rintro e w0 ⟨rfl, h0⟩; subst w0
  go_wp2_with fail
  refine (lnil_after n w1).mono ?_
  rintro e w0 ⟨rfl, h0⟩; subst w0
  go_wp2_with fail
  refine (lnil_promise w1).mono ?_
  rintro e w0 ⟨rfl, h0⟩; subst w0
  go_wp2_with fail
  refine (lnil_then n w1).mono ?_
  rintro e w0 ⟨rfl, h0⟩; subst w0
  go_wp2_with fail
  refine (lnil_stream n w1).mono ?_
  rintro e w0 ⟨rfl, h0⟩; subst w0
  go_wp2_with fail
  refine (lnil_write n w1).mono ?_
  rintro e w2 ⟨rfl, hT2⟩
  have HB2 := Lib.hid (below_no HB1.out hT2)
  clear hT2 HB1
  go_wp2_with fail
  refine (lnil_read n w2).mono ?_
  rintro e w0 ⟨rfl, h0⟩; subst w0
  go_wp2_with fail
  refine (lnil_next w2).mono ?_
  rintro e w3 ⟨rfl, hT3⟩
  have HB3 := Lib.hid ((below_no HB2.out hT3).alloc (below_no HB2.out hT3).size (.cells #[.int .i64 0, .int .i64 0, .int .i64 0, .int .i64 0] 31))
  clear hT3 HB2
  simp only [tkv, tk0]
  go_wp2_with fail
  generalize w3.alloc (.cells #[.int .i64 0, .int .i64 0, .int .i64 0, .int .i64 0] 31) = w4 at *
  refine (lnil_due w4).mono ?_
  rintro e w0 ⟨rfl, h0⟩; subst w0
  go_wp2_with fail
  refine (lnil_waits w4).mono ?_
  rintro e w0 ⟨rfl, h0⟩; subst w0
  go_wp2_with fail
  refine (lnil_resume n w4).mono ?_
  rintro e w0 ⟨rfl, h0⟩; subst w0
  go_wp2_with fail
  refine (lnil_cancel n w4).mono ?_
  rintro e w0 ⟨rfl, h0⟩; subst w0
  go_wp2_with fail
  refine (lnil_settle n w4).mono ?_
  rintro e w0 ⟨rfl, h0⟩; subst w0
  go_wp2_with fail
  have hb5 : Blk (w4.alloc (.cells #[.int .i64 2, .int .i64 2, .int .i64 2, .int .i64 2, .int .i64 2, .int .i64 2, .int .i64 2, .int .i64 2, .int .i64 2, .int .i64 2, .int .i64 2] 25)) w4.heap.size 25 (List.replicate 11 (.int .i64 2)) := heap_alloc_new w4 _
  have HB5 := Lib.hid (HB3.out.alloc HB3.out.size (.cells #[.int .i64 2, .int .i64 2, .int .i64 2, .int .i64 2, .int .i64 2, .int .i64 2, .int .i64 2, .int .i64 2, .int .i64 2, .int .i64 2, .int .i64 2] 25))
  clear HB3
  generalize w4.alloc (.cells #[.int .i64 2, .int .i64 2, .int .i64 2, .int .i64 2, .int .i64 2, .int .i64 2, .int .i64 2, .int .i64 2, .int .i64 2, .int .i64 2, .int .i64 2] 25) = w5 at *
  generalize w4.heap.size = g at *
  go_loopw [120] (fun y wr => ∃ k : Nat, y = .int .i64 k ∧ k ≤ 11 ∧ wr = w5) (fun y _ => 11 - (intOf y).toNat)
  case atStart => exact ⟨0, rfl, by omega, rfl⟩
  case round =>
    obtain ⟨k, rfl, hk, hw⟩ := hrel
    subst hw
    by_cases hlt : k < 11
    · have hc := hb5.cellOf k (.int .i64 2) (by rw [List.getElem?_replicate, if_pos hlt])
      have hk1 : (k : Int) < 11 := by omega
      go_wp2
      go_roundw
      case rel => exact ⟨k + 1, num (by omega), by omega, by trivial⟩
      case measure => simp [intOf]; omega
    · have hk1 : ¬ ((k : Int) < 11) := by omega
      go_wp2
      go_ret
      exact ⟨rfl, HB5.out⟩
end Go.Proofs.Ytipbimbnpikbcaa
