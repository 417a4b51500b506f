/- The first names, cut: few. -/
import Derived.Test.YtbhplnkcnmlbnaaNames
import Derived.Test.YtbhplnkcnmlbnaaArgs
import Derived.Test.YtbhplnkcnmlbnaaIota
namespace Go.Proofs.Ytbhplnkcnmlbnaa
open Go.RowKit

def cut40 (s : ByteArray) : ByteArray := s.extract 0 (min s.size 40)
def fewL (l : List ByteArray) : List ByteArray := (l.take 100).map cut40

theorem fewL_length (l : List ByteArray) : (fewL l).length = min 100 l.length := by simp [fewL]
theorem cut40_size (s : ByteArray) : (cut40 s).size ≤ 40 := by
  unfold cut40
  simp [ByteArray.size_extract]
  omega

theorem cut40_short (s : ByteArray) (h : s.size ≤ 40) : cut40 s = s := by
  unfold cut40
  rw [Nat.min_eq_left h]
  simp
theorem cut40_long (s : ByteArray) (h : 40 ≤ s.size) : cut40 s = s.extract 0 40 := by
  unfold cut40
  rw [Nat.min_eq_right h]

theorem few_take_snoc (l : List ByteArray) (k : Nat) (h : k < l.length) (hk : k < 100) : fewL (l.take (k + 1)) = fewL (l.take k) ++ [cut40 (l.getD k ByteArray.empty)] := by
  unfold fewL
  rw [List.take_take, List.take_take, Nat.min_eq_right (by omega), Nat.min_eq_right (by omega), List.take_succ_eq_append_getElem h, List.map_append]
  simp [List.getD_eq_getElem?_getD, h]
theorem few_take_same (l : List ByteArray) (k : Nat) (hk : 100 ≤ k) : fewL (l.take k) = fewL l := by
  unfold fewL
  rw [List.take_take, Nat.min_eq_left hk]

set_option maxHeartbeats 1000000 in
theorem few_any (a : Option Addr) (cap : Nat) (l : List ByteArray) (w : World) (h : StrsIn w a cap l) :
    Calls Try.prog 10 #[.slice a l.length cap] w fun e w' => ∃ A c G, e = .returned (.slice A (fewL l).length c) ∧ Sl w' 9 1 A (fewL l).length c (strs (fewL l)) G ∧ (∀ g, G = some g → w.heap.size ≤ g) ∧ Tch NoBlk w w' := by
  obtain ⟨hl, hc, he, hwf⟩ := h
  have HE := Lib.hid he
  have HW := Lib.hid hwf
  clear he hwf
  go_enter Try.func10, Try.ntmps10
  go_wp2_with fail
  go_loopw [3, 8] (fun x i wr => ∃ (k n : Nat) (A : Option Addr) (c : Nat) (G : Option Nat), x = .slice A n c ∧ i = .int .i64 k ∧ k ≤ l.length ∧ n = min 100 k ∧ Sl wr 9 1 A n c (strs (fewL (l.take k))) G ∧ (∀ g, G = some g → w.heap.size ≤ g) ∧ Tch NoBlk w wr) (fun _ i _ => l.length - (intOf i).toNat)
  case atStart => exact ⟨0, 0, none, 0, none, rfl, rfl, Nat.zero_le _, rfl, Sl.nil _ _ _, own_none, Tch.refl _ _⟩
  case round =>
    obtain ⟨k, n, A, c, G, rfl, rfl, hk, hn, hS, hG, hT⟩ := hrel
    have HG := Lib.hid hG
    have HT := Lib.hid hT
    have HN := Lib.hid hn
    have hn2 : n ≤ 100 := by omega
    clear hG hT hn
    by_cases hlt : k < l.length
    · obtain ⟨ba, off, rfl, hcell⟩ := HE.out (by omega)
      have hc1 := hcell k (by omega)
      have hcw : wr.cell? ⟨ba, off + k, none⟩ = some (.string (l.getD k ByteArray.empty)) := HT.out.cell' hc1 (fun h => h)
      have hsz := HW.out (l.getD k ByteArray.empty) (by rw [List.getD_eq_getElem?_getD, List.getElem?_eq_getElem hlt]; exact List.getElem_mem hlt)
      by_cases h100 : k < 100
      · have hf := few_take_snoc l k hlt h100
        clear hcell hc1
        generalize l.getD k ByteArray.empty = s at *
        by_cases h40 : s.size ≤ 40
        · rw [cut40_short s h40] at hf
          have HF := Lib.hid hf
          clear hf
          go_wp2_with (at_builtin; refine wpList_app _ rfl (.tmp 15) (.tmp 21) 22 rfl 9 (.string ByteArray.empty) 1 16 Try.underlying22 infoStr rfl (by decide) (by decide) _ _ _ _ _ _ _ _ _ rfl rfl (hS.alloc _) (Src.made wr 9 #[.string s] 1 rfl) (strs_one [s]) (by omega) ?_; intro A2 c2 w2 G2 hs2 ht2 hg2; have T2 := Lib.hid (tch_own (HT.out.alloc _) ht2 HG.out); have N2 := Lib.hid (own_from (Nat.le_trans HT.out.size (by simp)) HG.out hg2); clear ht2 hg2)
          go_roundw
          case rel => exact ⟨k + 1, n + 1, A2, c2, G2, rfl, num (by omega), by omega, by have := HN.out; omega, by rw [HF.out, strs, List.map_append]; exact hs2, N2.out, T2.out⟩
          case measure => simp [intOf]; omega
        · rw [cut40_long s (by omega)] at hf
          have HF := Lib.hid hf
          clear hf
          go_wp2_with (at_builtin; refine wpList_app _ rfl (.tmp 15) (.tmp 21) 22 rfl 9 (.string ByteArray.empty) 1 16 Try.underlying22 infoStr rfl (by decide) (by decide) _ _ _ _ _ _ _ _ _ rfl rfl (hS.alloc _) (Src.made wr 9 #[.string (s.extract 0 40)] 1 rfl) (strs_one [s.extract 0 40]) (by omega) ?_; intro A2 c2 w2 G2 hs2 ht2 hg2; have T2 := Lib.hid (tch_own (HT.out.alloc _) ht2 HG.out); have N2 := Lib.hid (own_from (Nat.le_trans HT.out.size (by simp)) HG.out hg2); clear ht2 hg2)
          go_roundw
          case rel => exact ⟨k + 1, n + 1, A2, c2, G2, rfl, num (by omega), by omega, by have := HN.out; omega, by rw [HF.out, strs, List.map_append]; exact hs2, N2.out, T2.out⟩
          case measure => simp [intOf]; omega
      · have hge : 100 ≤ k := by omega
        have HF := Lib.hid (show fewL (l.take (k + 1)) = fewL (l.take k) by rw [few_take_same l k hge, few_take_same l (k + 1) (by omega)])
        clear hcell hc1
        go_wp2
        go_roundw
        case rel => exact ⟨k + 1, n, A, c, G, rfl, num (by omega), by omega, by have := HN.out; omega, by rw [HF.out]; exact hS, HG.out, HT.out⟩
        case measure => simp [intOf]; omega
    · have hkl : l.length ≤ k := by omega
      have HF := Lib.hid (show fewL (l.take k) = fewL l by rw [List.take_of_length_le hkl])
      have HL := Lib.hid (show n = (fewL l).length by rw [fewL_length]; have := HN.out; omega)
      clear hlt
      go_wp2
      go_ret
      rw [HF.out] at hS
      rw [← HL.out]
      exact ⟨A, c, G, rfl, hS, HG.out, HT.out⟩
end Go.Proofs.Ytbhplnkcnmlbnaa
