/- A stream of a law's own; the document's example. -/
import Derived.Test.YtmmnilckdlkggaaStreamNew
import Derived.Test.YtmmnilckdlkggaaInts
namespace Go.Proofs.Ytmmnilckdlkggaa
open Go.RowKit

/-- A stream that a law made: new since w0. -/
structure StrI (w0 w : World) (b room : Nat) (s : St) (F : Nat → Prop) : Prop where
  q : StreamQ w b room s F
  base : ∀ i, F i → w0.heap.size ≤ i
  below : Below w0.heap.size w0 w

theorem StrI.keep {w0 w w' : World} {b room : Nat} {s : St} {F S : Nat → Prop} (h : StrI w0 w b room s F) (ht : Tch S w w') (hS : ∀ i, F i → ¬ S i) (hB : ∀ i, S i → w0.heap.size ≤ i) : StrI w0 w' b room s F :=
  ⟨h.q.keep ht hS, h.base, below_tch h.below ht hB⟩
theorem StrI.drewN {w0 w : World} {b room : Nat} {s : St} {F : Nat → Prop} (h : StrI w0 w b room s F) (n : Nat) : StrI w0 (w.drewN n) b room s F := h.keep ((Tch.refl NoBlk w).drewN n) (fun _ _ h => h) (fun _ h => h.elim)
theorem StrI.alloc {w0 w : World} {b room : Nat} {s : St} {F : Nat → Prop} (h : StrI w0 w b room s F) (o : Obj) : StrI w0 (w.alloc o) b room s F := h.keep ((Tch.refl NoBlk w).alloc o) (fun _ _ h => h) (fun _ h => h.elim)

theorem str_new (w0 w : World) (room : Nat) (h1 : 1 ≤ room) (h2 : room ≤ 32) (B : Below w0.heap.size w0 w) :
    Calls Try.prog 9 #[.int .i64 room] w fun e w' => ∃ b F, e = .returned (.tuple #[.pointer (some ⟨b, 0, none⟩), .int .i64 0]) ∧ StrI w0 w' b room ⟨[], [], []⟩ F ∧ (∀ i, F i → w.heap.size ≤ i) ∧ Tch NoBlk w w' := by
  refine (stream_new_yes room w h1 h2).mono ?_
  rintro e w' ⟨b, F, rfl, hQ, hF, hT⟩
  exact ⟨b, F, rfl, ⟨hQ, fun i hi => Nat.le_trans B.size (hF i hi), below_no B hT⟩, hF, hT⟩

theorem str_write {w0 w : World} {b room : Nat} {s : St} {F : Nat → Prop} (h : StrI w0 w b room s F) (value who : Int) (s' : St) (l : List (Int × Int)) (en : Int) (hm : writeM room s value who = (s', l, en)) :
    Calls Try.prog 11 #[.pointer (some ⟨b, 0, none⟩), .int .i64 value, .int .i64 who] w fun e w' =>
      ∃ A cap G, e = .returned (.tuple #[.slice A l.length cap, .int .i64 en]) ∧ Sl w' 34 2 A l.length cap (gots l) G ∧ (∀ g, G = some g → w.heap.size ≤ g) ∧ StrI w0 w' b room s' F ∧ Tch F w w' := by
  refine (stream_write b room s F value who w h.q).mono ?_
  rw [hm]
  rintro e w' ⟨⟨A, c, G, rfl, h1, h2⟩, h3, h4⟩
  exact ⟨A, c, G, rfl, h1, h2, ⟨h3, h.base, below_tch h.below h4 h.base⟩, h4⟩

theorem str_read {w0 w : World} {b room : Nat} {s : St} {F : Nat → Prop} (h : StrI w0 w b room s F) (who : Int) (s' : St) (l : List (Int × Int)) (en : Int) (hm : readM s who = (s', l, en)) :
    Calls Try.prog 10 #[.pointer (some ⟨b, 0, none⟩), .int .i64 who] w fun e w' =>
      ∃ A cap G, e = .returned (.tuple #[.slice A l.length cap, .int .i64 en]) ∧ Sl w' 34 2 A l.length cap (gots l) G ∧ (∀ g, G = some g → w.heap.size ≤ g) ∧ StrI w0 w' b room s' F ∧ Tch F w w' := by
  refine (stream_read b room s F who w h.q).mono ?_
  rw [hm]
  rintro e w' ⟨⟨A, c, G, rfl, h1, h2⟩, h3, h4⟩
  exact ⟨A, c, G, rfl, h1, h2, ⟨h3, h.base, below_tch h.below h4 h.base⟩, h4⟩

set_option maxHeartbeats 4000000 in
set_option maxRecDepth 100000 in
theorem stream_shown (w : World) : Calls Try.prog 8 #[] w fun e w' => e = .returned (.bool true) ∧ Tch NoBlk w w' := by
  have E1 := Lib.hid (show writeM 1 ⟨[], [], []⟩ 5 1 = (⟨[5], [], []⟩, [(1, 5)], 0) from rfl)
  have E2 := Lib.hid (show writeM 1 ⟨[5], [], []⟩ 6 2 = (⟨[5], [], [(2, 6)]⟩, [], 0) from rfl)
  have E3 := Lib.hid (show readM ⟨[5], [], [(2, 6)]⟩ 3 = (⟨[6], [], []⟩, [(3, 5), (2, 6)], 0) from rfl)
  go_enter Try.func8, Try.ntmps8
  go_wp2_with fail
  refine (str_new w w 1 (by omega) (by omega) (Below.refl _ w)).mono ?_
  rintro e w1 ⟨b, F, rfl, h1, hF1, _⟩
  clear hF1
  go_wp2_with fail
  refine (str_write h1 5 1 _ _ _ E1.out).mono ?_
  rintro e w2 ⟨A2, c2, G2, rfl, hs2, hg2, h2, hT2⟩
  have HF2 : Hid (∀ g, G2 = some g → ¬ F g) := Lib.hid (fun g hg hf => by have := hg2 g hg; have := h1.q.lt g hf; omega)
  clear hT2 hg2 h1
  go_wp2_with fail
  refine (str_write h2 6 2 _ _ _ E2.out).mono ?_
  rintro e w3 ⟨A3, c3, G3, rfl, hs3, hg3, h3, hT3⟩
  have hs23 := hs2.keep hT3 HF2.out
  clear hT3 hg3 h2 hs3 hs2
  go_wp2_with fail
  refine (str_read h3 3 _ _ _ E3.out).mono ?_
  rintro e w4 ⟨A4, c4, G4, rfl, hs4, hg4, h4, hT4⟩
  have hs24 := hs23.keep hT4 HF2.out
  have HB := Lib.hid h4.below
  clear hT4 hg4 h3 h4 hs23 HF2
  go_wp2_with fail
  refine (stream_same _ _ _ _ [(1, 5)] [(1, 5)] _ _ _ (hs24.alloc _) (Sl.made w4 34 #[.int .i64 1, .int .i64 5] 1 rfl (by omega)) rfl).mono ?_
  rintro e w5 ⟨rfl, n, rfl⟩
  go_wp2_with fail
  refine (stream_same _ _ _ _ [(3, 5), (2, 6)] [(3, 5), (2, 6)] _ _ _ (((hs4.alloc _).drewN n).alloc _) (Sl.madeAt _ 34 #[.int .i64 3, .int .i64 5, .int .i64 2, .int .i64 6] 2 (w4.heap.size + 1) (World.size_alloc _ _) rfl (by omega)) rfl).mono ?_
  rintro e w6 ⟨rfl, n6, rfl⟩
  go_wp2
  go_ret
  exact ⟨rfl, Tch.of_below (below_no HB.out (((((Tch.refl NoBlk w4).alloc _).drewN n).alloc _).drewN n6))⟩
end Go.Proofs.Ytmmnilckdlkggaa
