/- A tree of a law's own; the document's example. -/
import Derived.Test.YtbdfcoclmmhblaaCanCancel
import Derived.Test.YtbdfcoclmmhblaaIntsSame
namespace Go.Proofs.Ytbdfcoclmmhblaa
open Go.RowKit

structure CanI (w0 w : World) (b : Nat) (ab : List Int) (off : List Bool) (F : Nat → Prop) : Prop where
  q : CanQ w b ab off F
  base : ∀ i, F i → w0.heap.size ≤ i
  below : Below w0.heap.size w0 w
section
variable {w0 w w' : World} {b : Nat} {ab : List Int} {off : List Bool} {F S : Nat → Prop}
theorem CanI.keep (h : CanI w0 w b ab off F) (ht : Tch S w w') (hS : ∀ i, F i → ¬ S i) (hB : ∀ i, S i → w0.heap.size ≤ i) : CanI w0 w' b ab off F := ⟨h.q.keep ht hS, h.base, below_tch h.below ht hB⟩
theorem CanI.nothing (h : CanI w0 w b ab off F) (ht : Tch NoBlk w w') : CanI w0 w' b ab off F := h.keep ht (fun _ _ h => h) (fun _ h => h.elim)
theorem cni_new (B : Below w0.heap.size w0 w) :
    Calls Try.prog 9 #[] w fun e w' => ∃ b F, e = .returned (.pointer (some ⟨b, 0, none⟩)) ∧ CanI w0 w' b [] [] F ∧ (∀ k, F k → w.heap.size ≤ k) ∧ Tch NoBlk w w' := by
  refine (can_new w).mono ?_
  rintro e w' ⟨b, F, rfl, hQ, hF, hT⟩
  exact ⟨b, F, rfl, ⟨hQ, fun i hi => Nat.le_trans B.size (hF i hi), below_no B hT⟩, hF, hT⟩
theorem cni_make (h : CanI w0 w b ab off F) (above : Int) (ab' : List Int) (off' : List Bool) (x : Int) (y : Nat) (hm : tmakeM ab off above = ((ab', off'), x, y)) :
    Calls Try.prog 10 #[.pointer (some ⟨b, 0, none⟩), .int .i64 above] w fun e w' => e = .returned (.tuple #[.int .i64 x, .int .i64 y]) ∧ Tch F w w' ∧ ∃ F', CanI w0 w' b ab' off' F' ∧ ∀ k, F' k → F k ∨ w.heap.size ≤ k := by
  refine (can_make b ab off F above w h.q).mono ?_
  rw [hm]
  rintro e w' ⟨rfl, hT, F', hQ, hF'⟩
  exact ⟨rfl, hT, F', ⟨hQ, fun i hi => (hF' i hi).elim (h.base i) (fun e => Nat.le_trans h.below.size e), below_tch h.below hT h.base⟩, hF'⟩
theorem cni_cancel (h : CanI w0 w b ab off F) (id : Int) (off' : List Bool) (x : List Int) (y : Nat) (hm : tcancelM ab off id = (off', x, y)) :
    Calls Try.prog 12 #[.pointer (some ⟨b, 0, none⟩), .int .i64 id] w fun e w' => ∃ A cap G, e = .returned (.tuple #[.slice A x.length cap, .int .i64 y]) ∧ Sl w' 3 1 A x.length cap (ints x) G ∧ (∀ g, G = some g → w.heap.size ≤ g) ∧ CanI w0 w' b ab off' F ∧ Tch F w w' := by
  refine (can_cancel b ab off F id w h.q).mono ?_
  rw [hm]
  rintro e w' ⟨⟨A, c, G, rfl, hS, hG⟩, hT, hQ⟩
  exact ⟨A, c, G, rfl, hS, hG, ⟨hQ, h.base, below_tch h.below hT h.base⟩, hT⟩
theorem cni_off (h : CanI w0 w b ab off F) (id : Int) (x : Bool) (hm : toffM off id = x) :
    Calls Try.prog 15 #[.pointer (some ⟨b, 0, none⟩), .int .i64 id] w fun e w' => e = .returned (.bool x) ∧ w' = w := by
  rw [← hm]
  exact can_off b ab off F id w h.q
theorem cni_len (h : CanI w0 w b ab off F) :
    Calls Try.prog 17 #[.pointer (some ⟨b, 0, none⟩)] w fun e w' => e = .returned (.int .i64 ab.length) ∧ w' = w := can_len b ab off F w h.q
end

set_option maxHeartbeats 1000000 in
set_option maxRecDepth 100000 in
theorem can_shown (w : World) : Calls Try.prog 8 #[] w fun e w' => e = .returned (.bool true) ∧ Tch NoBlk w w' := by
  have E1 := Lib.hid (show tmakeM [] [] (-1) = (([-1], [false]), 0, 0) from rfl)
  have E2 := Lib.hid (show tmakeM [-1] [false] 0 = (([-1, 0], [false, false]), 1, 0) from rfl)
  have E3 := Lib.hid (show tmakeM [-1, 0] [false, false] (-1) = (([-1, 0, -1], [false, false, false]), 2, 0) from rfl)
  have E4 := Lib.hid (show tcancelM [-1, 0, -1] [false, false, false] 0 = ([true, true, false], [0, 1], 0) from rfl)
  have E5 := Lib.hid (show tmakeM [-1, 0, -1] [true, true, false] 1 = (([-1, 0, -1, 1], [true, true, false, true]), 3, 0) from rfl)
  have E6 := Lib.hid (show toffM [true, true, false, true] 3 = true from rfl)
  have E7 := Lib.hid (show toffM [true, true, false, true] 2 = false from rfl)
  go_enter Try.func8, Try.ntmps8
  go_wp2_with fail
  refine (cni_new (Below.refl _ w)).mono ?_
  rintro e w1 ⟨b, F1, rfl, h1, _, _⟩
  go_wp2_with fail
  refine (cni_make h1 _ _ _ _ _ E1.out).mono ?_
  rintro e w2 ⟨rfl, _, F2, h2, _⟩
  clear h1
  go_wp2_with fail
  refine (cni_make h2 _ _ _ _ _ E2.out).mono ?_
  rintro e w3 ⟨rfl, _, F3, h3, _⟩
  clear h2
  go_wp2_with fail
  refine (cni_make h3 _ _ _ _ _ E3.out).mono ?_
  rintro e w4 ⟨rfl, _, F4, h4, _⟩
  clear h3
  go_wp2_with fail
  refine (cni_cancel h4 0 _ _ _ E4.out).mono ?_
  rintro e w5 ⟨A, c, G, rfl, hs5, hg5, h5, hT5⟩
  have HN : Hid (∀ g, G = some g → ¬ F4 g) := Lib.hid (fun g hg hf => by have := hg5 g hg; have := h4.q.lt g hf; omega)
  clear h4 hg5 hT5
  go_wp2_with fail
  refine (cni_make h5 _ _ _ _ _ E5.out).mono ?_
  rintro e w6 ⟨rfl, hT6, F6, h6, _⟩
  have hs6 := hs5.keep hT6 HN.out
  have HI := Lib.hid h6
  clear h5 hT6 hs5 h6
  go_wp2_with fail
  refine (ints_same _ _ _ _ [0, 1] [0, 1] _ _ _ (hs6.alloc _) (Sl.made w6 3 #[.int .i64 0, .int .i64 1] 2 rfl (by omega)) rfl).mono ?_
  rintro e w8 ⟨rfl, n, rfl⟩
  have HJ := Lib.hid ((HI.out.nothing ((Tch.refl NoBlk w6).alloc (.cells #[.int .i64 0, .int .i64 1] 3))).nothing ((Tch.refl NoBlk _).drewN n))
  clear hs6
  go_wp2_with fail
  refine (cni_off HJ.out 3 _ E6.out).mono ?_
  rintro e w9 ⟨rfl, h9⟩; subst w9
  go_wp2_with fail
  refine (cni_off HJ.out 2 _ E7.out).mono ?_
  rintro e w9 ⟨rfl, h9⟩; subst w9
  go_wp2
  go_ret
  exact ⟨rfl, Tch.of_below HJ.out.below⟩
end Go.Proofs.Ytbdfcoclmmhblaa
