/- The document's example of timers; putting as one answer. -/
import Derived.Test.YtbdmmijfcgafcaaTimPlain
namespace Go.Proofs.Ytbdmmijfcgafcaa
open Go.RowKit

/-- What Put answers. -/
def putM (L : List Tm) (n due item : Int) : List Tm × Int × Int × Nat := if L.length < 64 then (L ++ [(due, n, item)], n + 1, n, 0) else (L, n, 0, 140)
theorem putM_ok {L : List Tm} {n : Int} (H : RowOk L n) (_hn : 0 ≤ n) (due item : Int) : RowOk (putM L n due item).1 (putM L n due item).2.1 ∧ n ≤ (putM L n due item).2.1 ∧ (putM L n due item).2.1 ≤ n + 1 := by
  unfold putM
  split
  · exact ⟨H.put due item, by simp; omega, by simp⟩
  · exact ⟨H, by simp, by simp; omega⟩
section
variable {w0 w w' : World} {b : Nat} {L : List Tm} {n : Int} {F S : Nat → Prop}
theorem tmj_puts (H : TimJ w0 w b L n F) (due item : Int) (hn0 : 0 ≤ n) (hn : n < 4611686018427387904) (L' : List Tm) (n' x : Int) (y : Nat) (hm : putM L n due item = (L', n', x, y)) :
    Calls Try.prog 10 #[.pointer (some ⟨b, 0, none⟩), .int .i64 due, .int .i64 item] w fun e w' => e = .returned (.tuple #[.int .i64 x, .int .i64 y]) ∧ Tch F w w' ∧ ∃ F', TimJ w0 w' b L' n' F' ∧ ∀ k, F' k → F k ∨ w.heap.size ≤ k := by
  unfold putM at hm
  by_cases hl : L.length < 64
  · rw [if_pos hl] at hm
    injection hm with h1 h2
    injection h2 with h2 h3
    injection h3 with h3 h4
    subst h1 h2 h3 h4
    exact tmj_put H due item hl hn0 hn
  · rw [if_neg hl] at hm
    injection hm with h1 h2
    injection h2 with h2 h3
    injection h3 with h3 h4
    subst h1 h2 h3 h4
    refine (tmj_full H due item (by have := H.le; omega)).mono ?_
    rintro e w' ⟨rfl, rfl⟩
    exact ⟨rfl, Tch.refl _ _, F, H, fun k hk => .inl hk⟩
end

set_option maxRecDepth 100000 in
theorem timer_shown (w : World) : Calls Try.prog 8 #[] w fun e w' => e = .returned (.bool true) ∧ Tch NoBlk w w' := by
  have E1 := Lib.hid (show putM [] 0 5 1 = ([(5, 0, 1)], 1, 0, 0) from rfl)
  have E2 := Lib.hid (show putM [(5, 0, 1)] 1 3 2 = ([(5, 0, 1), (3, 1, 2)], 2, 1, 0) from rfl)
  have E3 := Lib.hid (show putM [(5, 0, 1), (3, 1, 2)] 2 5 3 = ([(5, 0, 1), (3, 1, 2), (5, 2, 3)], 3, 2, 0) from rfl)
  have E4 := Lib.hid (show dueM [(5, 0, 1), (3, 1, 2), (5, 2, 3)] 4 = ([(5, 0, 1), (5, 2, 3)], 2, true) by decide)
  have E5 := Lib.hid (show dueM [(5, 0, 1), (5, 2, 3)] 4 = ([(5, 0, 1), (5, 2, 3)], 0, false) by decide)
  have E6 := Lib.hid (show dueM [(5, 0, 1), (5, 2, 3)] 9 = ([(5, 2, 3)], 1, true) by decide)
  have E7 := Lib.hid (show dueM [(5, 2, 3)] 9 = ([], 3, true) by decide)
  go_enter Try.func8, Try.ntmps8
  go_wp2_with fail
  refine (tmj_new (Below.refl _ w)).mono ?_
  rintro e w1 ⟨b, F1, rfl, h1, _, _⟩
  go_wp2_with fail
  refine (tmj_puts h1 5 1 (by omega) (by omega) _ _ _ _ E1.out).mono ?_
  rintro e w2 ⟨rfl, _, F2, h2, _⟩
  clear h1
  go_wp2_with fail
  refine (tmj_puts h2 3 2 (by omega) (by omega) _ _ _ _ E2.out).mono ?_
  rintro e w3 ⟨rfl, _, F3, h3, _⟩
  clear h2
  go_wp2_with fail
  refine (tmj_puts h3 5 3 (by omega) (by omega) _ _ _ _ E3.out).mono ?_
  rintro e w4 ⟨rfl, _, F4, h4, _⟩
  clear h3
  go_wp2_with fail
  refine (tmj_due h4 4 _ _ _ E4.out).mono ?_
  rintro e w5 ⟨rfl, h5, _⟩
  clear h4
  go_wp2_with fail
  refine (tmj_due h5 4 _ _ _ E5.out).mono ?_
  rintro e w6 ⟨rfl, h6, _⟩
  clear h5
  go_wp2_with fail
  refine (tmj_due h6 9 _ _ _ E6.out).mono ?_
  rintro e w7 ⟨rfl, h7, _⟩
  clear h6
  go_wp2_with fail
  refine (tmj_due h7 9 _ _ _ E7.out).mono ?_
  rintro e w8 ⟨rfl, h8, _⟩
  have HB := Lib.hid h8.i.below
  clear h7 h8
  go_wp2
  go_ret
  exact ⟨rfl, Tch.of_below HB.out⟩
end Go.Proofs.Ytbdmmijfcgafcaa
