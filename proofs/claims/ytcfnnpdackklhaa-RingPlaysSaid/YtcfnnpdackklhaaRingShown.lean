/- The document's example, at the head of every statement. -/
import Derived.Test.YtcfnnpdackklhaaRing
namespace Go.Proofs.Ytcfnnpdackklhaa
open Go.RowKit

theorem ring_shown (w : World) : Calls Try.prog 8 #[] w fun e w' => e = .returned (.bool true) ∧ Tch NoBlk w w' := by
  go_enter Try.func8, Try.ntmps8
  go_wp2_with fail
  refine (ring_new_yes 2 w (by omega) (by omega)).mono ?_
  rintro e w1 ⟨b, rfl, hb, hR1, hT1⟩
  have B1 := below_no (Below.refl _ w) hT1
  clear hT1
  go_wp2_with fail
  refine (ring_put_yes b 2 [] 5 w1 hR1 (by simp)).mono ?_
  rintro e w2 ⟨rfl, hR2, hT2⟩
  have B2 := below_one B1 hT2 hb
  clear hT2 B1
  go_wp2_with fail
  refine (ring_put_yes b 2 [5] 6 w2 hR2 (by simp)).mono ?_
  rintro e w3 ⟨rfl, hR3, hT3⟩
  have B3 := below_one B2 hT3 hb
  clear hT3 B2
  go_wp2_with fail
  refine (ring_put_no b 2 [5, 6] 7 w3 hR3 (by simp)).mono ?_
  rintro e w4 ⟨rfl, hR4, hT4⟩
  have B4 := below_no B3 hT4
  clear hT4 B3
  go_wp2_with fail
  refine (ring_take_yes b 2 5 [6] w4 hR4).mono ?_
  rintro e w5 ⟨rfl, hR5, hT5⟩
  have B5 := below_one B4 hT5 hb
  clear hT5 B4
  go_wp2_with fail
  refine (ring_put_yes b 2 [6] 7 w5 hR5 (by simp)).mono ?_
  rintro e w6 ⟨rfl, hR6, hT6⟩
  have B6 := below_one B5 hT6 hb
  clear hT6 B5
  go_wp2_with fail
  refine (ring_at_yes b 2 [6, 7] 1 w6 hR6 (by simp) (by simp)).mono ?_
  rintro e w7 ⟨rfl, k, hw⟩
  have B7 := below_no B6 (hw ▸ (Tch.refl _ _).drewN k)
  clear hw B6
  go_wp2
  go_ret
  exact ⟨rfl, Tch.of_below B7⟩
end Go.Proofs.Ytcfnnpdackklhaa
