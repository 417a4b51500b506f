/- A nil tree. -/
import Derived.Test.YtbdfcoclmmhblaaCanLaw
namespace Go.Proofs.Ytbdfcoclmmhblaa
open Go.RowKit

theorem can_there_nil (id : Int) (w : World) : Calls Try.prog 18 #[.pointer none, .int .i64 id] w fun e w' => e = .returned (.bool false) ∧ w' = w := by
  by_cases g : 0 ≤ id
  · have d : decide ((0 : Int) ≤ id) = true := by simpa using g
    have d2 : decide (id < 0) = false := by simpa using g
    clear g
    go_enter Try.func18, Try.ntmps18
    go_wp2_with ((go_at_call 17; refine (can_len_nil w).mono ?_; rintro e w8 ⟨rfl, hw8⟩; subst w8))
    go_ret
    exact ⟨rfl, rfl⟩
  · have d : decide ((0 : Int) ≤ id) = false := by simpa using g
    clear g
    go_enter Try.func18, Try.ntmps18
    go_wp2_with fail
    go_ret
    exact ⟨rfl, rfl⟩
theorem can_off_nil (id : Int) (w : World) : Calls Try.prog 15 #[.pointer none, .int .i64 id] w fun e w' => e = .returned (.bool false) ∧ w' = w := by
  go_enter Try.func15, Try.ntmps15
  go_wp2_with fail
  refine (can_there_nil id w).mono ?_
  rintro e w8 ⟨rfl, hw8⟩; subst w8
  go_wp2
  go_ret
  exact ⟨rfl, rfl⟩
theorem can_make_nil (id : Int) (w : World) : Calls Try.prog 10 #[.pointer none, .int .i64 id] w fun e w' => e = .returned (.tuple #[.int .i64 0, .int .i64 2]) ∧ w' = w := by
  go_enter Try.func10, Try.ntmps10
  go_wp2
  go_ret2
  exact ⟨rfl, rfl⟩
theorem can_cancel_nil (id : Int) (w : World) : Calls Try.prog 12 #[.pointer none, .int .i64 id] w fun e w' => e = .returned (.tuple #[.slice none 0 0, .int .i64 2]) ∧ Tch NoBlk w w' := by
  go_enter Try.func12, Try.ntmps12
  go_wp2_with fail
  refine (can_there_nil id _).mono ?_
  rintro e w8 ⟨rfl, hw8⟩; subst w8
  go_wp2
  go_ret2
  exact ⟨rfl, (Tch.refl NoBlk w).alloc _⟩
end Go.Proofs.Ytbdfcoclmmhblaa
