/- Rows of integers that are the same. -/
import Derived.Test.YtbdfcoclmmhblaaInts
import Derived.Test.YtbdfcoclmmhblaaIota
import Derived.Deep.QuietTactic
import Derived.BigQuiet
namespace Go.Proofs.Ytbdfcoclmmhblaa
open Go.RowKit

/-- Two rows of integers are the same where their lists are. -/
theorem ints_same (A A' : Option Addr) (c c' : Nat) (x y : List Int) (G G' : Option Nat) (w : World) (h : Sl w 3 1 A x.length c (ints x) G) (h' : Sl w 3 1 A' y.length c' (ints y) G') (he : x = y) :
    Calls Try.prog 14 #[.slice A x.length c, .slice A' y.length c'] w fun e w' => e = .returned (.bool true) ∧ ∃ k, w' = w.drewN k := by
  subst he
  have hcap := h.cap_le
  have hcap' := h'.cap_le
  go_enter Try.func14, Try.ntmps14
  go_wp2_with fail
  go_loopw [5] (fun i wr => ∃ k n : Nat, i = .int .i64 k ∧ k ≤ x.length ∧ wr = w.drewN n) (fun i _ => x.length - (intOf i).toNat)
  case atStart => exact ⟨0, 0, rfl, by omega, rfl⟩
  case round =>
    obtain ⟨k, n, rfl, hk, rfl⟩ := hrel
    by_cases hlt : k < x.length
    · obtain ⟨g, rfl, rfl, hc⟩ := h.cells (by omega)
      obtain ⟨g', rfl, rfl, hc'⟩ := h'.cells (by omega)
      have e1 := ints_get x k hlt
      have c1 : (w.drewN n).cell? ⟨g, k, none⟩ = _ := hc _ _ e1
      have c3 : (w.drewN n).cell? ⟨g', k, none⟩ = _ := hc' _ _ e1
      have d1 : w.cell? ⟨g, k, none⟩ = _ := hc _ _ e1
      have d3 : w.cell? ⟨g', k, none⟩ = _ := hc' _ _ e1
      clear hc hc' e1
      generalize x.getD k 0 = p at *
      go_wp2_with fail
      go_quiet (fail)
      go_wp2
      go_roundw
      case rel => exact ⟨k + 1, _, num (by omega), by omega, rfl⟩
      case measure => simp [intOf]; omega
    · go_wp2
      go_ret
      exact ⟨rfl, _, rfl⟩

end Go.Proofs.Ytbdfcoclmmhblaa
