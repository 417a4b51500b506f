/- A row of integers of the program's own, sorted by the library. -/
import Derived.Test.YtipbimbnpikbcaaSortLaid
import Derived.Test.YtipbimbnpikbcaaInts
import Derived.Sort.OwnSortedInts
namespace Go.Proofs.Ytipbimbnpikbcaa
open Go.RowKit

theorem sort_ints (A : Option Addr) (c : Nat) (G : Option Nat) (out : List Int) (w : World) (h : Sl w 3 1 A out.length c (ints out) G) (hl : out.length ≤ 1024) :
    Calls Try.prog 66 #[.slice A out.length c] w fun e w' => e = .returned (.tuple #[]) ∧ Sl w' 3 1 A out.length c (ints (out.mergeSort fun x y => decide (x ≤ y))) G ∧ Tch (fun k => G = some k) w w' := by
  rcases Nat.eq_zero_or_pos out.length with h0 | h0
  · have e : out = [] := List.eq_nil_of_length_eq_zero h0
    subst e
    refine (Try.slices_Sort_int_none A c w).mono ?_
    rintro e w' ⟨rfl, rfl⟩
    exact ⟨rfl, by simpa using h, Tch.refl _ _⟩
  · have hb := h.blk
    rcases h.own.2 with ⟨hv, _⟩ | ⟨g, c', cur, hv, _, hh, h1, h2, h3, h4⟩
    · injection hv with e1 e2
      omega
    · injection hv with e1 e2 e3
      subst e1
      subst e3
      have h4' : cur.toList.take out.length = out.map (Value.int .i64) := by rw [Nat.mul_one] at h4; exact h4
      refine (Try.slices_Sort_int g 0 c out w (holds_of_blockI hh h4') (Array.getElem?_eq_some_iff.1 hh).1 (by omega)).mono ?_
      rintro e w' ⟨rfl, n, os, rfl⟩
      refine ⟨rfl, ⟨ownsRow_sortedI (by simp) (Nat.zero_le _) hh h1 h2 h3, hb⟩, (Tch.refl _ w).grown (grownBy_sortedI _) (fun k e _ => ?_)⟩
      injection e with e
      rw [← hb, e]
      rfl
end Go.Proofs.Ytipbimbnpikbcaa
