/- Timers: none at first; how many; when the next one is due; one is taken away. -/
import Derived.Test.YtipbimbnpikbcaaTimerDown
namespace Go.Proofs.Ytipbimbnpikbcaa
open Go.RowKit

theorem timer_new (w : World) : Calls Try.prog 51 #[] w fun e w' => ∃ b F, e = .returned (.pointer (some ⟨b, 0, none⟩)) ∧ TimersQ w' b [] 0 F ∧ (∀ k, F k → w.heap.size ≤ k) ∧ Tch NoBlk w w' := by
  go_enter Try.func51, Try.ntmps51
  go_wp2
  go_ret
  refine ⟨w.heap.size, fun k => k = w.heap.size ∨ (none : Option Nat) = some k, rfl, ⟨none, 0, none, ⟨Blk.new w _ _, Sl.nil _ _ _, by simp, by simp⟩, fun _ => Iff.rfl⟩, fun k hk => ?_, (Tch.refl NoBlk w).alloc _⟩
  rcases hk with rfl | hk
  · exact Nat.le_refl _
  · cases hk
theorem timer_len (b : Nat) (h : List Tm) (n : Int) (F : Nat → Prop) (w : World) (H : TimersQ w b h n F) :
    Calls Try.prog 33 #[.pointer (some ⟨b, 0, none⟩)] w fun e w' => e = .returned (.int .i64 h.length) ∧ w' = w := by
  obtain ⟨A, c, G, H, _⟩ := H
  have hc := H.blk.cellOf 0 _ rfl
  clear H
  go_enter Try.func33, Try.ntmps33
  go_wp2
  go_ret
  exact ⟨rfl, rfl⟩
theorem timer_len_nil (w : World) : Calls Try.prog 33 #[.pointer none] w fun e w' => e = .returned (.int .i64 0) ∧ w' = w := by
  go_enter Try.func33, Try.ntmps33
  go_wp2
  go_ret
  exact ⟨rfl, rfl⟩
theorem timer_next_none (b : Nat) (n : Int) (F : Nat → Prop) (w : World) (H : TimersQ w b [] n F) :
    Calls Try.prog 48 #[.pointer (some ⟨b, 0, none⟩)] w fun e w' => e = .returned (.tuple #[.int .i64 0, .bool false]) ∧ w' = w := by
  go_enter Try.func48, Try.ntmps48
  go_wp2_with fail
  refine (timer_len b [] n F w H).mono ?_
  rintro e w0 ⟨rfl, h0⟩; subst w0
  go_wp2
  go_ret2
  exact ⟨rfl, rfl⟩
theorem timer_next_some (b : Nat) (h : List Tm) (n : Int) (F : Nat → Prop) (w : World) (H : TimersQ w b h n F) (hl : 0 < h.length) :
    Calls Try.prog 48 #[.pointer (some ⟨b, 0, none⟩)] w fun e w' => e = .returned (.tuple #[.int .i64 (tat h 0).1, .bool true]) ∧ w' = w := by
  have HH := Lib.hid H
  obtain ⟨A, c, G, H, _⟩ := H
  have hc := H.blk.cellOf 0 _ rfl
  obtain ⟨g, rfl, rfl, hcl⟩ := H.sl.cells hl
  have c0 := hcl _ _ (tcells_get h 0 hl).1
  have hle := H.le
  have hz : ((h.length : Int) == 0) = false := by simp; intro e; subst e; simp at hl
  have hzn : (h.length == 0) = false := by simp; intro e; subst e; simp at hl
  clear H hcl
  go_enter Try.func48, Try.ntmps48
  go_wp2_with fail
  refine (timer_len b h n F w HH.out).mono ?_
  rintro e w0 ⟨rfl, h0⟩; subst w0
  go_wp2
  go_ret2
  exact ⟨rfl, rfl⟩
theorem timer_next_nil (w : World) : Calls Try.prog 48 #[.pointer none] w fun e w' => e = .returned (.tuple #[.int .i64 0, .bool false]) ∧ w' = w := by
  go_enter Try.func48, Try.ntmps48
  go_wp2_with fail
  refine (timer_len_nil w).mono ?_
  rintro e w0 ⟨rfl, h0⟩; subst w0
  go_wp2
  go_ret2
  exact ⟨rfl, rfl⟩

theorem TimersAt.cut {w : World} {b : Nat} {h : List Tm} {n : Int} {g c : Nat} (H : TimersAt w b h n (some ⟨g, 0, none⟩) c (some g)) (l : Nat) (hl : l ≤ h.length) :
    TimersAt (w.setCell ⟨b, 0, none⟩ (.slice (some ⟨g, 0, none⟩) l c)) b (h.take l) n (some ⟨g, 0, none⟩) c (some g) ∧ Tch (· = b) w (w.setCell ⟨b, 0, none⟩ (.slice (some ⟨g, 0, none⟩) l c)) := by
  have hS : Tch (· = b) w (w.setCell ⟨b, 0, none⟩ (.slice (some ⟨g, 0, none⟩) l c)) := (Tch.refl (· = b) w).setCell (p := ⟨b, 0, none⟩) (fun _ => rfl) _
  have e : (h.take l).length = l := by rw [List.length_take]; omega
  have hs := (H.sl.less hl).keep hS (fun k hk e => H.nb (by rw [hk, e]))
  rw [tcells_take h l hl] at hs
  refine ⟨⟨?_, ?_, H.nb, by rw [e]; have := H.le; omega⟩, hS⟩
  · rw [e]
    exact H.blk.set 0 _
  · rw [e]
    exact hs

set_option maxHeartbeats 2000000 in
set_option maxRecDepth 100000 in
theorem timer_gone (b : Nat) (h : List Tm) (n : Int) (g c : Nat) (i : Nat) (w : World) (H : TimersAt w b h n (some ⟨g, 0, none⟩) c (some g)) (hH : IsHeap h) (hi : i < h.length) :
    Calls Try.prog 54 #[.pointer (some ⟨b, 0, none⟩), .int .i64 i] w fun e w' => e = .returned (.int .i64 (tat h i).2.2) ∧
      ∃ h', TimersAt w' b h' n (some ⟨g, 0, none⟩) c (some g) ∧ IsHeap h' ∧ h'.Perm (cutL h i) ∧ Tch (fun k => k = b ∨ k = g) w w' := by
  obtain ⟨l, hl⟩ : ∃ l, l = h.length - 1 := ⟨_, rfl⟩
  have hll : (h.length : Int) - 1 = (l : Int) := by omega
  have hlt : l < h.length := by omega
  have hc := H.blk.cellOf 0 _ rfl
  obtain ⟨g2, e1, e2, hcl⟩ := H.sl.cells (by omega)
  injection e2 with e2
  subst e2
  have c2 := hcl _ _ (tcells_get h i hi).2.2
  have hle := H.le
  have hcap := H.sl.cap_le
  have hlc : l ≤ c := by omega
  have HC : Hid (swapL h i l = swapL h i (h.length - 1)) := Lib.hid (by rw [hl])
  have HT : Hid ((swapL h i l).take l = cutL h i) := Lib.hid (by rw [hl]; rfl)
  have hsl := swapL_length h i l
  have HL := Lib.hid hl
  clear hcl e1 hl
  go_enter Try.func54, Try.ntmps54
  go_wp2_with fail
  refine (timer_swap b h n g c i l w H hi hlt).mono ?_
  rintro e w1 ⟨rfl, h1, hT1⟩
  have hc1 := h1.blk.cellOf 0 _ rfl
  rw [hsl] at hc1
  have hf1 := h1.blk.free 0
  obtain ⟨h2, hT2⟩ := h1.cut l (by rw [hsl]; omega)
  rw [HT.out] at h2
  have HH2 := Lib.hid h2
  have HTT := Lib.hid ((hT1.mono (T := fun k => k = b ∨ k = g) (fun _ _ e => .inr e)).trans (hT2.mono (fun _ _ e => .inl e)))
  clear h1 hT1 hT2 h2 H hc c2 hsl HC
  by_cases hil : i < l
  · have hd : decide ((i : Int) < (l : Int)) = true := by simp; omega
    have hdn : decide (i < l) = true := by simp; omega
    have hil2 : i < h.length - 1 := by rw [← HL.out]; exact hil
    by_cases hu : 0 < i ∧ Tlt (tat (cutL h i) i) (tat (cutL h i) ((i - 1) / 2))
    · have HU := Lib.hid (hH.cutUp hil2 hu.1 hu.2)
      clear hu hil2
      go_wp2_with fail
      refine (timer_up b (cutL h i) n g c i _ HH2.out HU.out).mono ?_
      rintro e w3 ⟨rfl, h3, hA3, hP3⟩
      have hil3 : i < h3.length := by rw [hA3.perm.length_eq, cutL_length]; have := HL.out; omega
      go_wp2_with fail
      refine (timer_down b h3 n g c i _ hA3.at_ (hP3.down hil3)).mono ?_
      rintro e w4 ⟨rfl, h4, hA4, hP4⟩
      have HE := Lib.hid hA4.at_
      have HF := Lib.hid (hA4.perm.trans hA3.perm)
      have HG := Lib.hid ((HTT.out.trans (hA3.tch.mono (fun _ _ e => .inr e))).trans (hA4.tch.mono (fun _ _ e => .inr e)))
      have HP := Lib.hid hP4
      clear hA3 hA4 hP3 hP4
      go_wp2
      go_ret
      exact ⟨rfl, h4, HE.out, HP.out, HF.out, HG.out⟩
    · have HU := Lib.hid (hH.cutDown hil2 hu)
      have hlc2 : i < (cutL h i).length := by rw [cutL_length]; exact hil2
      go_wp2_with fail
      refine (timer_up_stay b (cutL h i) n g c i _ HH2.out hlc2 hu).mono ?_
      rintro e w3 ⟨rfl, hT3⟩
      have h3 := HH2.out.keep hT3 (fun h => h) (fun _ _ h => h)
      go_wp2_with fail
      refine (timer_down b (cutL h i) n g c i _ h3 HU.out).mono ?_
      rintro e w4 ⟨rfl, h4, hA4, hP4⟩
      have HE := Lib.hid hA4.at_
      have HF := Lib.hid hA4.perm
      have HG := Lib.hid ((HTT.out.trans (hT3.mono (fun _ _ e => e.elim))).trans (hA4.tch.mono (fun _ _ e => .inr e)))
      have HP := Lib.hid hP4
      clear hA4 hP4 h3 hT3 hu
      go_wp2
      go_ret
      exact ⟨rfl, h4, HE.out, HP.out, HF.out, HG.out⟩
  · have hd : decide ((i : Int) < (l : Int)) = false := by simp; omega
    have hdn : decide (i < l) = false := by simp; omega
    have HP : Hid (IsHeap (cutL h i)) := Lib.hid (by have e : i = h.length - 1 := by have := HL.out; omega
                                                     rw [e]; exact hH.cutLast)
    clear hil
    go_wp2
    go_ret
    exact ⟨rfl, cutL h i, HH2.out, HP.out, List.Perm.refl _, HTT.out⟩
end Go.Proofs.Ytipbimbnpikbcaa
