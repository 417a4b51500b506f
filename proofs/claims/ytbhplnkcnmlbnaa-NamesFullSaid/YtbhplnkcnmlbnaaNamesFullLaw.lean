/- NamesFull's walk, the law. -/
import Derived.Test.YtbhplnkcnmlbnaaNamesFull
namespace Go.Proofs.Ytbhplnkcnmlbnaa
open Go.RowKit

set_option maxHeartbeats 4000000 in
set_option maxRecDepth 100000 in
theorem namesFull_walk (x : Int) (w : World) (hx : IntKind.u16.min ≤ x ∧ x ≤ IntKind.u16.max) :
    Calls Try.prog 7 #[.int .u16 x] w fun e w' => e = .returned (.bool true) ∧ Below w.heap.size w w' := by
  simp only [IntKind.min, IntKind.max, IntKind.signed, IntKind.bits] at hx
  simp at hx
  obtain ⟨m, rfl⟩ := Int.eq_ofNat_of_zero_le hx.1
  have hm : m ≤ 65535 := by omega
  clear hx
  go_enter Try.func7, Try.ntmps7
  go_wp2_with fail
  refine (names_shown w).mono ?_
  rintro e w1 ⟨rfl, hT1⟩
  have B1 := below_no (Below.refl _ w) hT1
  clear hT1
  go_wp2_with fail
  refine (names_new w1).mono ?_
  rintro e w2 ⟨b, F, rfl, hN2, hF2, hT2⟩
  have hF : ∀ k, F k → w.heap.size ≤ k := fun k hk => Nat.le_trans B1.size (hF2 k hk)
  have B2 := below_no B1 hT2
  clear hT2 B1 hF2
  go_wp2_with fail
  go_loopw [27] (fun i wr => ∃ (k : Nat) (F : Nat → Prop), i = .int .i64 k ∧ k ≤ 4096 ∧ NamesQ wr b (nms k) F ∧ (∀ j, F j → w.heap.size ≤ j) ∧ Below w.heap.size w wr) (fun i _ => 4096 - (intOf i).toNat)
  case atStart => exact ⟨0, F, rfl, by omega, hN2, hF, B2⟩
  case round =>
    clear hN2 hF B2
    obtain ⟨k, F, rfl, hk, hN, hF, B⟩ := hrel
    have HB := Lib.hid B
    have HF := Lib.hid hF
    clear B hF
    by_cases hlt : k < 4096
    · have E := Lib.hid (putM_new (nms k) (nm k) (by rw [nm_size]; omega) (npos_nms_none k hlt) (by rw [nms_length]; exact hlt))
      go_wp2_with fail
      refine (name_any k _ hlt).mono ?_
      rintro e w5 ⟨rfl, hT5⟩
      have hN5 := hN.keep hT5 (fun _ _ h => h)
      have B5 := Lib.hid (below_no HB.out hT5)
      clear hN hT5 HB
      go_wp2_with fail
      refine (names_put b _ _ _ _ hN5).mono ?_
      change (Hid (putM (nms k) (strOfNums [97 + (k : Int) % 16, 97 + (k : Int) / 16 % 16, 97 + (k : Int) / 256]) = _)) at E
      rw [E.out, nms_length]
      rintro e w6 ⟨rfl, hT6, F6, hN6, hF6⟩
      have B6 := Lib.hid (below_tch B5.out hT6 HF.out)
      have HF6 : Hid (∀ j, F6 j → w.heap.size ≤ j) := Lib.hid (fun j hj => (hF6 j hj).elim (HF.out j) (fun h => Nat.le_trans B5.out.size h))
      clear hT6 hF6 B5 hN5
      go_wp2
      go_roundw
      case rel => exact ⟨k + 1, F6, num (by omega), by omega, by rw [nms_snoc]; exact hN6, HF6.out, B6.out⟩
      case measure => simp [intOf]; omega
    · have hge : 4096 ≤ k := by omega
      have HK := Lib.hid (show k = 4096 by omega)
      have E1 : Hid (putM (nms k) ⟨#[111, 110, 101, 32, 109, 111, 114, 101]⟩ = (nms k, 0, 3)) := Lib.hid (by
        have h1 : (⟨#[111, 110, 101, 32, 109, 111, 114, 101]⟩ : ByteArray).size = 8 := rfl
        simp only [putM]
        rw [if_neg (by omega), npos_size _ (by omega)]
        simp only
        rw [if_pos (by rw [nms_length]; omega)])
      obtain ⟨q, hq⟩ : ∃ q, q = m % 4096 := ⟨_, rfl⟩
      have hm4 : q < 4096 := by omega
      have hqm : (m : Int) % 4096 = (q : Int) := by omega
      clear hq
      have E2 : Hid (putM (nms k) (nm q) = (nms k, q, 0)) := Lib.hid (putM_old _ _ _ (by rw [nm_size]; omega) (by rw [HK.out]; exact npos_nms_some 4096 _ hm4 (Nat.le_refl _)))
      have E3 : Hid (npos ⟨#[111, 110, 101, 32, 109, 111, 114, 101]⟩ (nms k) 0 = none) := Lib.hid (npos_size _ (by decide) k)
      clear hlt hk
      go_wp2_with fail
      refine (names_put b _ _ _ _ hN).mono ?_
      rw [E1.out]
      rintro e w6 ⟨rfl, hT6, F6, hN6, hF6⟩
      have B6 := Lib.hid (below_tch HB.out hT6 HF.out)
      have HF6 : Hid (∀ j, F6 j → w.heap.size ≤ j) := Lib.hid (fun j hj => (hF6 j hj).elim (HF.out j) (fun h => Nat.le_trans HB.out.size h))
      clear hT6 hF6 HB HF hN
      go_wp2_with fail
      refine (name_any q _ hm4).mono ?_
      rintro e w7 ⟨rfl, hT7⟩
      have hN7 := hN6.keep hT7 (fun _ _ h => h)
      have B7 := Lib.hid (below_no B6.out hT7)
      clear hN6 hT7 B6
      go_wp2_with fail
      refine (names_put b _ _ _ _ hN7).mono ?_
      change (Hid (putM (nms k) (strOfNums [97 + (q : Int) % 16, 97 + (q : Int) / 16 % 16, 97 + (q : Int) / 256]) = _)) at E2
      rw [E2.out]
      rintro e w8 ⟨rfl, hT8, F8, hN8, hF8⟩
      have B8 := Lib.hid (below_tch B7.out hT8 HF6.out)
      clear hT8 hF8 B7 hN7 HF6
      go_wp2_with fail
      refine (names_find b _ _ _ _ hN8).mono ?_
      rw [E3.out]
      unfold told
      rintro e w9 ⟨rfl, rfl⟩
      simp only [Option.getD_none, Option.isSome_none]
      go_wp2_with fail
      refine (names_put_nil _ _).mono ?_
      rintro e w10 ⟨rfl, rfl⟩
      go_wp2_with fail
      refine (names_find_nil _ _).mono ?_
      unfold told
      rintro e w10 ⟨rfl, rfl⟩
      simp only [Option.getD_none, Option.isSome_none]
      go_wp2_with fail
      refine (names_text_nil 0 _).mono ?_
      rintro e w10 ⟨rfl, rfl⟩
      go_wp2_with fail
      refine (names_len b _ _ _ hN8).mono ?_
      rintro e w10 ⟨rfl, rfl⟩
      have HL := nms_length k
      rw [HK.out] at HL
      rw [HK.out, HL]
      go_wp2_with fail
      refine (names_len_nil _).mono ?_
      rintro e w11 ⟨rfl, rfl⟩
      go_wp2
      go_ret
      exact ⟨rfl, B8.out⟩
end Go.Proofs.Ytbhplnkcnmlbnaa
