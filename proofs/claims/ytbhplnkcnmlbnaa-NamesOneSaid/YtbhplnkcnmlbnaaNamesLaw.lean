/- names.Put in one; the document's example; the document's own functions. -/
import Derived.Test.YtbhplnkcnmlbnaaNamesPut
import Derived.Test.YtbhplnkcnmlbnaaFew
namespace Go.Proofs.Ytbhplnkcnmlbnaa
open Go.RowKit

/-- What Put does: the names then, the number, the error. -/
def putM (l : List ByteArray) (s : ByteArray) : List ByteArray × Nat × Nat :=
  if s.size < 1 ∨ 32 < s.size then (l, 0, 1) else
  match npos s l 0 with
  | some n => (l, n, 0)
  | none => if 4096 ≤ l.length then (l, 0, 3) else (l ++ [s], l.length, 0)

theorem names_put (b : Nat) (l : List ByteArray) (F : Nat → Prop) (s : ByteArray) (w : World) (h : NamesQ w b l F) :
    Calls Try.prog 11 #[.pointer (some ⟨b, 0, none⟩), .string s] w fun e w' => e = .returned (.tuple #[.int .i64 (putM l s).2.1, .int .i64 (putM l s).2.2]) ∧ Tch F w w' ∧
      ∃ F', NamesQ w' b (putM l s).1 F' ∧ ∀ k, F' k → F k ∨ w.heap.size ≤ k := by
  unfold putM
  by_cases hs : s.size < 1 ∨ 32 < s.size
  · simp only [if_pos hs]
    refine (names_put_arg b s w hs).mono ?_
    rintro e w' ⟨rfl, rfl⟩
    exact ⟨rfl, Tch.refl _ _, F, h, fun k hk => .inl hk⟩
  · simp only [if_neg hs]
    cases hn : npos s l 0 with
    | some n =>
      refine (names_put_old b l F s n w h (by omega) (by omega) hn).mono ?_
      rintro e w' ⟨rfl, rfl⟩
      exact ⟨rfl, Tch.refl _ _, F, h, fun k hk => .inl hk⟩
    | none =>
      by_cases hl : 4096 ≤ l.length
      · simp only [if_pos hl]
        refine (names_put_full b l F s w h (by omega) (by omega) hn hl).mono ?_
        rintro e w' ⟨rfl, rfl⟩
        exact ⟨rfl, Tch.refl _ _, F, h, fun k hk => .inl hk⟩
      · simp only [if_neg hl]
        exact names_put_new b l F s w h (by omega) (by omega) hn (by omega)

theorem names_shown (w : World) : Calls Try.prog 8 #[] w fun e w' => e = .returned (.bool true) ∧ Tch NoBlk w w' := by
  go_enter Try.func8, Try.ntmps8
  go_wp2_with fail
  refine (names_new w).mono ?_
  rintro e w1 ⟨b, F1, rfl, hN1, hF1, hT1⟩
  have B1 := below_no (Below.refl _ w) hT1
  clear hT1
  have e1 : putM [] ⟨#[97]⟩ = ([⟨#[97]⟩], 0, 0) := by decide +kernel
  have e2 : putM [⟨#[97]⟩] ⟨#[98]⟩ = ([⟨#[97]⟩, ⟨#[98]⟩], 1, 0) := by decide +kernel
  have e3 : putM [⟨#[97]⟩, ⟨#[98]⟩] ⟨#[97]⟩ = ([⟨#[97]⟩, ⟨#[98]⟩], 0, 0) := by decide +kernel
  have E1 := Lib.hid e1
  have E2 := Lib.hid e2
  have E3 := Lib.hid e3
  clear e1 e2 e3
  go_wp2_with fail
  refine (names_put b _ _ _ _ hN1).mono ?_
  rw [E1.out]
  rintro e w2 ⟨rfl, hT2, F2, hN2, hF2⟩
  have B2 := below_tch B1 hT2 hF1
  have hG2 : ∀ k, F2 k → w.heap.size ≤ k := fun k hk => (hF2 k hk).elim (hF1 k) (fun h => Nat.le_trans B1.size h)
  clear hT2 hF1 hF2 hN1
  go_wp2_with fail
  refine (names_put b _ _ _ _ hN2).mono ?_
  rw [E2.out]
  rintro e w3 ⟨rfl, hT3, F3, hN3, hF3⟩
  have B3 := below_tch B2 hT3 hG2
  have hG3 : ∀ k, F3 k → w.heap.size ≤ k := fun k hk => (hF3 k hk).elim (hG2 k) (fun h => Nat.le_trans B2.size h)
  clear hT3 hG2 hF3 hN2
  go_wp2_with fail
  refine (names_put b _ _ _ _ hN3).mono ?_
  rw [E3.out]
  rintro e w4 ⟨rfl, hT4, F4, hN4, hF4⟩
  have B4 := below_tch B3 hT4 hG3
  clear hT4 hG3 hF4 hN3
  go_wp2_with fail
  refine (names_text_yes b _ _ 1 _ hN4 (by omega) (by simp)).mono ?_
  rintro e w5 ⟨rfl, rfl⟩
  go_wp2_with fail
  refine (names_len b _ _ _ hN4).mono ?_
  rintro e w5 ⟨rfl, rfl⟩
  go_wp2
  go_ret
  exact ⟨rfl, Tch.of_below B4⟩
end Go.Proofs.Ytbhplnkcnmlbnaa
