/- NamesPuts' walk. -/
import Derived.Test.YtbhplnkcnmlbnaaRefNames
namespace Go.Proofs.Ytbhplnkcnmlbnaa
open Go.RowKit

/-- Names L at b, the document's names (a slice that holds L too), the names to come X: each in blocks of its own, new since w0. -/
structure Both (w0 w : World) (b : Nat) (L : List ByteArray) (A : Option Addr) (cap : Nat) (G : Option Nat) (Ax : Option Addr) (cx : Nat) (X : List ByteArray) (Gx : Option Nat) (F : Nat → Prop) : Prop where
  names : NamesQ w b L F
  ref : Sl w 9 1 A L.length cap (strs L) G
  few : Sl w 9 1 Ax X.length cx (strs X) Gx
  g : ∀ k, G = some k → ¬ F k
  gx : ∀ k, Gx = some k → ¬ F k
  base : ∀ k, F k → w0.heap.size ≤ k
  below : Below w0.heap.size w0 w

theorem both_put {w0 w : World} {b : Nat} {L : List ByteArray} {A : Option Addr} {cap : Nat} {G : Option Nat} {Ax : Option Addr} {cx : Nat} {X : List ByteArray} {Gx : Option Nat} {F : Nat → Prop} (h : Both w0 w b L A cap G Ax cx X Gx F) (s : ByteArray) (L' : List ByteArray) (x y : Nat) (hp : putM L s = (L', x, y)) :
    Calls Try.prog 11 #[.pointer (some ⟨b, 0, none⟩), .string s] w fun e w' => e = .returned (.tuple #[.int .i64 x, .int .i64 y]) ∧
      Calls Try.prog 16 #[.slice A L.length cap, .string s] w' fun e w'' => ∃ A' cap', e = .returned (.tuple #[.slice A' L'.length cap', .int .i64 x, .int .i64 y]) ∧ ∃ G' F', Both w0 w'' b L' A' cap' G' Ax cx X Gx F' := by
  refine (names_put b L F s w h.names).mono ?_
  rw [hp]
  rintro e w' ⟨rfl, hT, F', hN, hF'⟩
  refine ⟨rfl, ?_⟩
  have href := h.ref.keep hT h.g
  refine (refnames_put A cap G L s w' href).mono ?_
  rw [hp]
  rintro e w'' ⟨A', cap', G', rfl, hS, hG', hT'⟩
  refine ⟨A', cap', rfl, G', F', hN.keep hT' (fun _ _ h => h), hS, (h.few.keep hT h.gx).keep hT' (fun _ _ h => h), fun k hk hf => ?_, fun k hk hf => ?_, fun k hk => ?_, below_no (below_tch h.below hT h.base) hT'⟩
  · rcases hG' with rfl | h1
    · rcases hF' k hf with h2 | h2
      · exact h.g k hk h2
      · have := h.ref.lt k hk
        omega
    · have h2 := h1 k hk
      have h3 := hN.lt k hf
      omega
  · rcases hF' k hf with h2 | h2
    · exact h.gx k hk h2
    · have := h.few.lt k hk
      omega
  · rcases hF' k hk with h2 | h2
    · exact h.base k h2
    · exact Nat.le_trans h.below.size h2


set_option maxHeartbeats 4000000 in
set_option maxRecDepth 100000 in
theorem namesPuts_walk (a : Option Addr) (cap : Nat) (l : List ByteArray) (i : Int) (w : World) (h : StrsIn w a cap l) (hi : IntKind.i64.min ≤ i ∧ i ≤ IntKind.i64.max) :
    Calls Try.prog 5 #[.slice a l.length cap, .int .i64 i] w fun e w' => e = .returned (.bool true) ∧ Below w.heap.size w w' := by
  obtain ⟨hi1, hi2⟩ := hi
  go_enter Try.func5, Try.ntmps5
  go_wp2_with fail
  refine (names_shown w).mono ?_
  rintro e w1 ⟨rfl, hT1⟩
  have B1 := below_no (Below.refl _ w) hT1
  clear hT1
  go_wp2_with fail
  refine (names_new w1).mono ?_
  rintro e w2 ⟨b, F, rfl, hN2, hF2, hT2⟩
  have hF : ∀ k, F k → w.heap.size ≤ k := fun k hk => Nat.le_trans B1.size (hF2 k hk)
  have B2 := below_no B1 hT2
  have hin : StrsIn w2 a cap l := ⟨h.le, h.cap, fun h0 => by
    obtain ⟨x, off, rfl, hc⟩ := h.cells h0
    exact ⟨x, off, rfl, fun i hi => (B2.cell (World.block_lt_of_cell? w _ (hc i hi))).trans (hc i hi)⟩, h.wf⟩
  clear hT2 B1 hF2
  go_wp2_with fail
  refine (few_any a cap l _ hin).mono ?_
  clear hin
  rintro e w4 ⟨Ax, cx, Gx, rfl, hS4, hG, hT4⟩
  have I4 : Both w w4 b [] none 0 none Ax cx (fewL l) Gx F :=
    ⟨hN2.keep hT4 (fun _ _ h => h), Sl.nil _ _ _, hS4, (fun k hk => by cases hk), (fun k hk hf => by have h1 := hG k hk; have h2 := hN2.lt k hf; omega), hF, below_no B2 hT4⟩
  clear hN2 hT4 hG hS4 hF B2
  have hn100 : (fewL l).length ≤ 100 := by rw [fewL_length]; omega
  generalize fewL l = X at *
  go_wp2_with fail
  go_loopw [7, 30] (fun x i wr => ∃ (k : Nat) (L : List ByteArray) (A : Option Addr) (cap : Nat) (G : Option Nat) (F : Nat → Prop), x = .slice A L.length cap ∧ i = .int .i64 k ∧ k ≤ X.length ∧ Both w wr b L A cap G Ax cx X Gx F) (fun _ i _ => X.length - (intOf i).toNat)
  case atStart => exact ⟨0, [], none, 0, none, F, rfl, rfl, Nat.zero_le _, I4⟩
  case round =>
    clear I4
    obtain ⟨k, L, A, cap', G, F, rfl, rfl, hk, hI⟩ := hrel
    by_cases hlt : k < X.length
    · obtain ⟨g, rfl, rfl, hcell⟩ := hI.few.cells (by omega)
      have hcw : wr.cell? ⟨g, k, none⟩ = some (.string (X.getD k ByteArray.empty)) := hcell k _ (by simp [strs, List.getD_eq_getElem?_getD, hlt])
      clear hcell
      generalize X.getD k ByteArray.empty = s at *
      obtain ⟨⟨L', x, y⟩, hp⟩ : ∃ p, putM L s = p := ⟨_, rfl⟩
      have HP := Lib.hid hp
      clear hp
      go_wp2_with fail
      refine (names_find b L F s _ hI.names).mono ?_
      rintro e w5 ⟨rfl, rfl⟩
      unfold told
      obtain ⟨fx, hfx⟩ : ∃ fx : Int, (((npos s L 0).getD 0 : Nat) : Int) = fx := ⟨_, rfl⟩
      obtain ⟨fy, hfy⟩ : ∃ fy : Bool, (npos s L 0).isSome = fy := ⟨_, rfl⟩
      rw [hfx, hfy]
      have HX := Lib.hid hfx
      have HY := Lib.hid hfy
      clear hfx hfy
      go_wp2_with fail
      refine (refnames_find A cap' G L s _ hI.ref).mono ?_
      rintro e w5 ⟨rfl, rfl⟩
      unfold told
      rw [HX.out, HY.out]
      go_wp2_with fail
      refine (both_put hI s L' x y HP.out).mono ?_
      rintro e w5 ⟨rfl, hq⟩
      have HQ := Lib.hid hq
      clear hq
      go_wp2_with fail
      refine HQ.out.mono ?_
      rintro e w6 ⟨A7, cap7, rfl, G7, F7, H7⟩
      clear HQ hI
      by_cases hin : i < 0 ∨ (L'.length : Int) ≤ i
      · go_wp2_with fail
        refine (names_text_no b L' F7 i _ H7.names hin).mono ?_
        rintro e w8 ⟨rfl, rfl⟩
        go_wp2_with fail
        refine (refnames_text_no A7 L'.length cap7 i _ hin).mono ?_
        rintro e w8 ⟨rfl, rfl⟩
        go_wp2_with fail
        refine (names_len b L' F7 _ H7.names).mono ?_
        rintro e w9 ⟨rfl, rfl⟩
        go_wp2
        go_roundw
        case rel => exact ⟨k + 1, L', A7, cap7, G7, F7, rfl, num (by omega), by omega, H7⟩
        case measure => simp [intOf]; omega
      · go_wp2_with fail
        refine (names_text_yes b L' F7 i _ H7.names (by omega) (by omega)).mono ?_
        rintro e w8 ⟨rfl, rfl⟩
        obtain ⟨t, ht⟩ : ∃ t, L'.getD i.toNat ByteArray.empty = t := ⟨_, rfl⟩
        have HT := Lib.hid ht
        rw [ht]
        clear ht
        go_wp2_with fail
        refine (refnames_text_yes A7 cap7 G7 L' i _ H7.ref (by omega) (by omega)).mono ?_
        rintro e w8 ⟨rfl, rfl⟩
        rw [HT.out]
        go_wp2_with fail
        refine (names_len b L' F7 _ H7.names).mono ?_
        rintro e w9 ⟨rfl, rfl⟩
        go_wp2
        go_roundw
        case rel => exact ⟨k + 1, L', A7, cap7, G7, F7, rfl, num (by omega), by omega, H7⟩
        case measure => simp [intOf]; omega
    · have hge : X.length ≤ k := by omega
      clear hlt
      go_wp2
      go_ret
      exact ⟨rfl, hI.below⟩
end Go.Proofs.Ytbhplnkcnmlbnaa
