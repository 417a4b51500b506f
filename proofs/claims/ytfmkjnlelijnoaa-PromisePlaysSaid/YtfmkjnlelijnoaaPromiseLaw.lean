/- A table of a law's own; rows of integers that are the same; the document's example. -/
import Derived.Test.YtfmkjnlelijnoaaPromiseSettle
namespace Go.Proofs.Ytfmkjnlelijnoaa
open Go.RowKit

structure PrsI (w0 w : World) (b : Nat) (l : List Pr) (F : Nat → Prop) : Prop where
  q : PrsQ w b l F
  base : ∀ i, F i → w0.heap.size ≤ i
  below : Below w0.heap.size w0 w

section
variable {w0 w : World} {b : Nat} {l : List Pr} {F : Nat → Prop}
theorem PrsI.keep {w' : World} {S : Nat → Prop} (h : PrsI w0 w b l F) (ht : Tch S w w') (hS : ∀ i, F i → ¬ S i) (hB : ∀ i, S i → w0.heap.size ≤ i) : PrsI w0 w' b l F :=
  ⟨h.q.keep ht hS, h.base, below_tch h.below ht hB⟩
theorem PrsI.drewN (h : PrsI w0 w b l F) (n : Nat) : PrsI w0 (w.drewN n) b l F := h.keep ((Tch.refl NoBlk w).drewN n) (fun _ _ h => h) (fun _ h => h.elim)
theorem PrsI.alloc (h : PrsI w0 w b l F) (o : Obj) : PrsI w0 (w.alloc o) b l F := h.keep ((Tch.refl NoBlk w).alloc o) (fun _ _ h => h) (fun _ h => h.elim)

theorem prs_new (B : Below w0.heap.size w0 w) :
    Calls Try.prog 10 #[] w fun e w' => ∃ b F, e = .returned (.pointer (some ⟨b, 0, none⟩)) ∧ PrsI w0 w' b [] F ∧ (∀ k, F k → w.heap.size ≤ k) ∧ Tch NoBlk w w' := by
  refine (promise_new w).mono ?_
  rintro e w' ⟨b, F, rfl, hQ, hF, hT⟩
  exact ⟨b, F, rfl, ⟨hQ, fun i hi => Nat.le_trans B.size (hF i hi), below_no B hT⟩, hF, hT⟩

theorem prs_make (h : PrsI w0 w b l F) (l' : List Pr) (x y : Nat) (hm : makeM l = (l', x, y)) :
    Calls Try.prog 11 #[.pointer (some ⟨b, 0, none⟩)] w fun e w' => e = .returned (.tuple #[.int .i64 x, .int .i64 y]) ∧ Tch F w w' ∧ ∃ F', PrsI w0 w' b l' F' ∧ ∀ k, F' k → F k ∨ w.heap.size ≤ k := by
  refine (promise_make b l F w h.q).mono ?_
  rw [hm]
  rintro e w' ⟨rfl, hT, F', hQ, hF'⟩
  exact ⟨rfl, hT, F', ⟨hQ, fun i hi => (hF' i hi).elim (h.base i) (fun e => Nat.le_trans h.below.size e), below_tch h.below hT h.base⟩, hF'⟩
theorem prs_then (h : PrsI w0 w b l F) (id react : Int) (l' : List Pr) (x : Int) (t : Bool) (y : Nat) (hm : thenM l id react = (l', x, t, y)) :
    Calls Try.prog 14 #[.pointer (some ⟨b, 0, none⟩), .int .i64 id, .int .i64 react] w fun e w' => e = .returned (.tuple #[.int .i64 x, .bool t, .int .i64 y]) ∧ PrsI w0 w' b l' F ∧ Tch F w w' := by
  refine (promise_then b l F id react w h.q).mono ?_
  rw [hm]
  rintro e w' ⟨rfl, hQ, hT⟩
  exact ⟨rfl, ⟨hQ, h.base, below_tch h.below hT h.base⟩, hT⟩
theorem prs_settle (h : PrsI w0 w b l F) (id value : Int) (l' : List Pr) (x : List Int) (y : Nat) (hm : settleM l id value = (l', x, y)) :
    Calls Try.prog 12 #[.pointer (some ⟨b, 0, none⟩), .int .i64 id, .int .i64 value] w fun e w' => ∃ A cap G, e = .returned (.tuple #[.slice A x.length cap, .int .i64 y]) ∧ Sl w' 3 1 A x.length cap (ints x) G ∧ (∀ g, G = some g → w.heap.size ≤ g) ∧ PrsI w0 w' b l' F ∧ Tch F w w' := by
  refine (promise_settle b l F id value w h.q).mono ?_
  rw [hm]
  rintro e w' ⟨⟨A, c, G, rfl, hS, hG⟩, hQ, hT⟩
  exact ⟨A, c, G, rfl, hS, hG, ⟨hQ, h.base, below_tch h.below hT h.base⟩, hT⟩
theorem prs_value (h : PrsI w0 w b l F) (id : Int) (x : Int) (t : Bool) (y : Nat) (hm : valueM l id = (x, t, y)) :
    Calls Try.prog 13 #[.pointer (some ⟨b, 0, none⟩), .int .i64 id] w fun e w' => e = .returned (.tuple #[.int .i64 x, .bool t, .int .i64 y]) ∧ ∃ n, w' = w.drewN n := by
  refine (promise_value b l F id w h.q).mono ?_
  rw [hm]
  exact fun _ _ h => h
end

/-- Two rows of integers are the same where their lists are. -/
theorem ints_same (A A' : Option Addr) (c c' : Nat) (x y : List Int) (G G' : Option Nat) (w : World) (h : Sl w 3 1 A x.length c (ints x) G) (h' : Sl w 3 1 A' y.length c' (ints y) G') (he : x = y) :
    Calls Try.prog 18 #[.slice A x.length c, .slice A' y.length c'] w fun e w' => e = .returned (.bool true) ∧ ∃ k, w' = w.drewN k := by
  subst he
  have hcap := h.cap_le
  have hcap' := h'.cap_le
  go_enter Try.func18, Try.ntmps18
  go_wp2_with fail
  go_loopw [5] (fun i wr => ∃ k n : Nat, i = .int .i64 k ∧ k ≤ x.length ∧ wr = w.drewN n) (fun i _ => x.length - (intOf i).toNat)
  case atStart => exact ⟨0, 0, rfl, by omega, rfl⟩
  case round =>
    obtain ⟨k, n, rfl, hk, rfl⟩ := hrel
    by_cases hlt : k < x.length
    · obtain ⟨g, rfl, rfl, hc⟩ := h.cells (by omega)
      obtain ⟨g', rfl, rfl, hc'⟩ := h'.cells (by omega)
      have e1 := ints_get x k hlt
      have c1 : (w.drewN n).cell? ⟨g, k, none⟩ = _ := hc _ _ e1
      have c3 : (w.drewN n).cell? ⟨g', k, none⟩ = _ := hc' _ _ e1
      have d1 : w.cell? ⟨g, k, none⟩ = _ := hc _ _ e1
      have d3 : w.cell? ⟨g', k, none⟩ = _ := hc' _ _ e1
      clear hc hc' e1
      generalize x.getD k 0 = p at *
      go_wp2_with fail
      go_quiet (fail)
      go_wp2
      go_roundw
      case rel => exact ⟨k + 1, _, num (by omega), by omega, rfl⟩
      case measure => simp [intOf]; omega
    · go_wp2
      go_ret
      exact ⟨rfl, _, rfl⟩

set_option maxHeartbeats 1000000 in
set_option maxRecDepth 100000 in
theorem promise_shown (w : World) : Calls Try.prog 9 #[] w fun e w' => e = .returned (.bool true) ∧ Tch NoBlk w w' := by
  have E1 := Lib.hid (show makeM [] = ([⟨false, 0, []⟩], 0, 0) from rfl)
  have E2 := Lib.hid (show thenM [⟨false, 0, []⟩] 0 7 = ([⟨false, 0, [7]⟩], 0, false, 0) from rfl)
  have E3 := Lib.hid (show thenM [⟨false, 0, [7]⟩] 0 8 = ([⟨false, 0, [7, 8]⟩], 0, false, 0) from rfl)
  have E4 := Lib.hid (show settleM [⟨false, 0, [7, 8]⟩] 0 5 = ([⟨true, 5, []⟩], [7, 8], 0) from rfl)
  have E5 := Lib.hid (show thenM [⟨true, 5, []⟩] 0 9 = ([⟨true, 5, []⟩], 5, true, 0) from rfl)
  have E6 := Lib.hid (show settleM [⟨true, 5, []⟩] 0 6 = ([⟨true, 5, []⟩], [], 160) from rfl)
  go_enter Try.func9, Try.ntmps9
  go_wp2_with fail
  refine (prs_new (Below.refl _ w)).mono ?_
  rintro e w1 ⟨b, F1, rfl, h1, _, _⟩
  go_wp2_with fail
  refine (prs_make h1 _ _ _ E1.out).mono ?_
  rintro e w2 ⟨rfl, _, F2, h2, _⟩
  clear h1
  go_wp2_with fail
  refine (prs_then h2 0 7 _ _ _ _ E2.out).mono ?_
  rintro e w3 ⟨rfl, h3, _⟩
  clear h2
  go_wp2_with fail
  refine (prs_then h3 0 8 _ _ _ _ E3.out).mono ?_
  rintro e w4 ⟨rfl, h4, _⟩
  clear h3
  go_wp2_with fail
  refine (prs_settle h4 0 5 _ _ _ E4.out).mono ?_
  rintro e w5 ⟨A, c, G, rfl, hs5, hg5, h5, hT5⟩
  have HN : Hid (∀ g, G = some g → ¬ F2 g) := Lib.hid (fun g hg hf => by have := hg5 g hg; have := h4.q.lt g hf; omega)
  clear h4 hg5 hT5
  go_wp2_with fail
  refine (prs_then h5 0 9 _ _ _ _ E5.out).mono ?_
  rintro e w6 ⟨rfl, h6, hT6⟩
  have hs6 := hs5.keep hT6 HN.out
  clear h5 hT6 hs5
  go_wp2_with fail
  refine (prs_settle h6 0 6 _ _ _ E6.out).mono ?_
  rintro e w7 ⟨A', c', G', rfl, hs7', hg7, h7, hT7⟩
  have hs7 := hs6.keep hT7 HN.out
  have HB := Lib.hid h7.below
  clear h6 hT7 hs6 hg7 h7 hs7' HN
  go_wp2_with fail
  refine (ints_same _ _ _ _ [7, 8] [7, 8] _ _ _ (hs7.alloc _) (Sl.made w7 3 #[.int .i64 7, .int .i64 8] 2 rfl (by omega)) rfl).mono ?_
  rintro e w8 ⟨rfl, n, rfl⟩
  go_wp2
  go_ret
  exact ⟨rfl, Tch.of_below (below_no HB.out (((Tch.refl NoBlk w7).alloc _).drewN n))⟩
end Go.Proofs.Ytfmkjnlelijnoaa
