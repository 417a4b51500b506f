/- The document's functions on names. -/
import Derived.Test.YtbhplnkcnmlbnaaNamesLaw
namespace Go.Proofs.Ytbhplnkcnmlbnaa
open Go.RowKit

theorem toList_beq (x s : ByteArray) : (x.toList == s.toList) = decide (x = s) := by
  rw [Bool.eq_iff_iff]
  simp only [beq_iff_eq, decide_eq_true_eq, ByteArray.toList_eq]
  constructor
  · intro h
    exact ByteArray.ext (Array.ext' h)
  · intro h
    rw [h]

theorem npos_drop (s : ByteArray) (l : List ByteArray) (k : Nat) (h : k < l.length) : npos s (l.drop k) k = if s = l.getD k ByteArray.empty then some k else npos s (l.drop (k + 1)) (k + 1) := by
  rw [List.drop_eq_getElem_cons h, npos]
  simp [List.getD_eq_getElem?_getD, h]

theorem refnames_find (A : Option Addr) (cap : Nat) (G : Option Nat) (l : List ByteArray) (s : ByteArray) (w : World) (h : Sl w 9 1 A l.length cap (strs l) G) :
    Calls Try.prog 15 #[.slice A l.length cap, .string s] w fun e w' => e = .returned (told (npos s l 0)) ∧ w' = w := by
  have hcap := h.cap_le
  unfold told
  go_enter Try.func15, Try.ntmps15
  go_wp2
  go_loop [6] (fun i => ∃ k : Nat, i = .int .i64 k ∧ k ≤ l.length ∧ npos s l 0 = npos s (l.drop k) k) (fun i => l.length - (intOf i).toNat)
  case atStart => exact ⟨0, rfl, Nat.zero_le _, rfl⟩
  case round =>
    obtain ⟨k, rfl, hk, hp⟩ := hrel
    by_cases hlt : k < l.length
    · obtain ⟨g, rfl, rfl, hcell⟩ := h.cells (by omega)
      have hcw : w.cell? ⟨g, k, none⟩ = some (.string (l.getD k ByteArray.empty)) := hcell k _ (by simp [strs, List.getD_eq_getElem?_getD, hlt])
      rw [npos_drop s l k hlt] at hp
      clear hcell
      generalize l.getD k ByteArray.empty = x at *
      by_cases hx : s = x
      · rw [if_pos hx] at hp
        have HP := Lib.hid hp
        have hb : (x.toList == s.toList) = true := by rw [toList_beq, hx]; simp
        clear hp hx
        go_wp2
        go_ret2
        rw [HP.out]
        exact ⟨rfl, rfl⟩
      · rw [if_neg hx] at hp
        have HP := Lib.hid hp
        have hb : (x.toList == s.toList) = false := by rw [toList_beq]; simp; exact fun e => hx e.symm
        clear hp hx
        go_wp2
        go_round
        case rel => exact ⟨k + 1, by go_num, by omega, HP.out⟩
        case measure => simp [intOf]; omega
    · have hge : l.length ≤ k := by omega
      rw [List.drop_eq_nil_of_le hge] at hp
      have HP := Lib.hid hp
      clear hp hlt
      go_wp2
      go_ret2
      rw [HP.out]
      exact ⟨rfl, rfl⟩

theorem refnames_text_yes (A : Option Addr) (cap : Nat) (G : Option Nat) (l : List ByteArray) (i : Int) (w : World) (h : Sl w 9 1 A l.length cap (strs l) G) (h0 : 0 ≤ i) (h1 : i < l.length) :
    Calls Try.prog 17 #[.slice A l.length cap, .int .i64 i] w fun e w' => e = .returned (.tuple #[.string (l.getD i.toNat ByteArray.empty), .bool true]) ∧ w' = w := by
  obtain ⟨n, rfl⟩ := Int.eq_ofNat_of_zero_le h0
  have hn : n < l.length := by omega
  obtain ⟨g, rfl, rfl, hcell⟩ := h.cells (by omega)
  have hcl : w.cell? ⟨g, n, none⟩ = some (.string (l.getD n ByteArray.empty)) := hcell n _ (by simp [strs, List.getD_eq_getElem?_getD, hn])
  have hcap := h.cap_le
  clear hcell
  simp only [Int.toNat_natCast]
  generalize l.getD n ByteArray.empty = v at *
  go_enter Try.func17, Try.ntmps17
  go_wp2
  go_ret2
  exact ⟨rfl, rfl⟩

theorem refnames_text_no (A : Option Addr) (n cap : Nat) (i : Int) (w : World) (h1 : i < 0 ∨ n ≤ i) :
    Calls Try.prog 17 #[.slice A n cap, .int .i64 i] w fun e w' => e = .returned (.tuple #[.string ByteArray.empty, .bool false]) ∧ w' = w := by
  by_cases h0 : i < 0
  · go_enter Try.func17, Try.ntmps17
    go_wp2
    go_ret2
    exact ⟨rfl, rfl⟩
  · have h2 : (n : Int) ≤ i := by omega
    clear h1
    go_enter Try.func17, Try.ntmps17
    go_wp2
    go_ret2
    exact ⟨rfl, rfl⟩

/-- What the document's Put leaves: the names then lie where they lay, or in new blocks. -/
def PutPost (w : World) (G : Option Nat) (L : List ByteArray) (x y : Nat) (e : Ending) (w' : World) : Prop :=
  ∃ A' cap' G', e = .returned (.tuple #[.slice A' L.length cap', .int .i64 x, .int .i64 y]) ∧ Sl w' 9 1 A' L.length cap' (strs L) G' ∧ (G' = G ∨ ∀ g, G' = some g → w.heap.size ≤ g) ∧ Tch NoBlk w w'

set_option maxRecDepth 100000 in
theorem refnames_put (A : Option Addr) (cap : Nat) (G : Option Nat) (l : List ByteArray) (s : ByteArray) (w : World) (h : Sl w 9 1 A l.length cap (strs l) G) :
    Calls Try.prog 16 #[.slice A l.length cap, .string s] w (PutPost w G (putM l s).1 (putM l s).2.1 (putM l s).2.2) := by
  unfold putM
  by_cases hs : s.size < 1 ∨ 32 < s.size
  · simp only [if_pos hs]
    by_cases h1 : s.size < 1
    · clear hs
      go_enter Try.func16, Try.ntmps16
      go_wp2
      go_ret3
      exact ⟨A, cap, G, rfl, h, .inl rfl, Tch.refl _ _⟩
    · have h2 : 32 < s.size := by omega
      clear hs
      go_enter Try.func16, Try.ntmps16
      go_wp2
      go_ret3
      exact ⟨A, cap, G, rfl, h, .inl rfl, Tch.refl _ _⟩
  · simp only [if_neg hs]
    have h1 : 1 ≤ s.size := by omega
    have h2 : s.size ≤ 32 := by omega
    clear hs
    cases hn : npos s l 0 with
    | some n =>
      have HN := Lib.hid hn
      clear hn
      go_enter Try.func16, Try.ntmps16
      go_wp2_with fail
      refine (refnames_find A cap G l s w h).mono ?_
      rintro e w' ⟨rfl, rfl⟩
      rw [HN.out]
      unfold told
      simp only [Option.getD_some, Option.isSome_some]
      go_wp2
      go_ret3
      exact ⟨A, cap, G, rfl, h, .inl rfl, Tch.refl _ _⟩
    | none =>
      have HN := Lib.hid hn
      clear hn
      by_cases hl : 4096 ≤ l.length
      · simp only [if_pos hl]
        go_enter Try.func16, Try.ntmps16
        go_wp2_with fail
        refine (refnames_find A cap G l s w h).mono ?_
        rintro e w' ⟨rfl, rfl⟩
        rw [HN.out]
        unfold told
        simp only [Option.getD_none, Option.isSome_none]
        go_wp2
        go_ret3
        exact ⟨A, cap, G, rfl, h, .inl rfl, Tch.refl _ _⟩
      · simp only [if_neg hl]
        have hl2 : l.length < 4096 := by omega
        clear hl
        go_enter Try.func16, Try.ntmps16
        go_wp2_with fail
        refine (refnames_find A cap G l s w h).mono ?_
        rintro e w' ⟨rfl, rfl⟩
        rw [HN.out]
        unfold told
        simp only [Option.getD_none, Option.isSome_none]
        go_wp2_with (at_builtin; first
          | (refine wpList_app _ rfl (.tmp 31) (.tmp 32) 22 rfl 9 (.string ByteArray.empty) 1 16 Try.underlying22 infoStr rfl (by decide) (by decide) _ _ _ _ _ _ _ _ _ rfl rfl (Sl.made w' 9 #[] 0 rfl (by decide)) (h.alloc _).src (strs_one l) (by omega) ?_; intro A1 cap1 w1 G1 hs1 ht1 hg1; simp only [Nat.zero_add, List.nil_append] at hs1; have T1 := Lib.hid (tch_own ((Tch.refl NoBlk w').alloc _) ht1 (own_some (Nat.le_refl _))); have N1 := Lib.hid (own_from (B := w'.heap.size) (by simp) (own_some (Nat.le_refl _)) hg1); clear ht1 hg1)
          | (refine wpList_app _ rfl (.tmp 33) (.tmp 35) 22 rfl 9 (.string ByteArray.empty) 1 16 Try.underlying22 infoStr rfl (by decide) (by decide) _ _ _ _ _ _ _ _ _ rfl rfl (hs1.alloc _) (Src.made w1 9 #[.string s] 1 rfl) (strs_one [s]) (by omega) ?_; intro A2 cap2 w2 G2 hs2 ht2 hg2; have T2 := Lib.hid (tch_own (T1.out.alloc _) ht2 N1.out); have N2 := Lib.hid (own_from (Nat.le_trans T1.out.size (by simp)) N1.out hg2); clear ht2 hg2))
        go_ret3
        refine ⟨A2, cap2, G2, ?_, ?_, .inr N2.out, T2.out⟩
        · rw [List.length_append]; rfl
        · rw [List.length_append, strs, List.map_append]
          exact hs2
end Go.Proofs.Ytbhplnkcnmlbnaa
