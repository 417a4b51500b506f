import Derived.Test.YtipbimbnpikbcaaGreatMg06
import Derived.Deep.RegionLaw
/- Timers: one is brought down. -/
namespace Go.Proofs.YtipbimbnpikbcaaGreat
open Go.RowKit

theorem tlt_trans {x y z : Tm} (h : Tlt x y) (k : Tlt y z) : Tlt x z := by unfold Tlt at *; omega

/-- Among the ones below j, as far as c, and j itself: k is the first. -/
structure Least (h : List Tm) (j k c : Nat) : Prop where
  lo : 2 * j + 1 ≤ c
  hi : c ≤ 2 * j + 3
  kl : k < h.length
  sort : k = j ∨ (0 < k ∧ (k - 1) / 2 = j ∧ Tlt (tat h k) (tat h j))
  least : ∀ d, 2 * j + 1 ≤ d → d < c → d < h.length → ¬ Tlt (tat h d) (tat h k)
theorem Least.start (h : List Tm) (j : Nat) (hj : j < h.length) : Least h j j (2 * j + 1) := ⟨by omega, by omega, hj, .inl rfl, fun d h1 h2 => by omega⟩
theorem Least.take {h : List Tm} {j k c : Nat} (H : Least h j k c) (hc : c ≤ 2 * j + 2) (hl : c < h.length) (ht : Tlt (tat h c) (tat h k)) : Least h j c (c + 1) := by
  have := H.lo
  refine ⟨by omega, by omega, hl, .inr ⟨by omega, by omega, ?_⟩, fun d h1 h2 h3 => ?_⟩
  · rcases H.sort with e | ⟨_, _, e⟩
    · rw [← e]; exact ht
    · exact tlt_trans ht e
  · by_cases hd : d = c
    · subst hd
      exact Tlt.irrefl _
    · exact tlt_le ht (H.least d h1 (by omega) h3)
theorem Least.pass {h : List Tm} {j k c : Nat} (H : Least h j k c) (hc : c ≤ 2 * j + 2) (ht : ¬ Tlt (tat h c) (tat h k)) : Least h j k (c + 1) := by
  have := H.lo
  refine ⟨by omega, by omega, H.kl, H.sort, fun d h1 h2 h3 => ?_⟩
  by_cases hd : d = c
  · subst hd
    exact ht
  · exact H.least d h1 (by omega) h3
theorem Least.all {h : List Tm} {j k c : Nat} (H : Least h j k c) (he : 2 * j + 2 < c ∨ h.length ≤ c) : ∀ d, 0 < d → d < h.length → (d - 1) / 2 = j → ¬ Tlt (tat h d) (tat h k) :=
  fun d h0 h1 h2 => H.least d (by omega) (by omega) h1


set_option maxHeartbeats 2000000 in
set_option maxRecDepth 100000 in
theorem timer_down (b : Nat) (h : List Tm) (n : Int) (g c : Nat) (i : Nat) (w : World) (H : TimersAt w b h n (some ⟨g, 0, none⟩) c (some g)) (hU : DownInv h i) :
    Calls Tryz.prog 103 #[.pointer (some ⟨b, 0, none⟩), .int .i64 i] w fun e w' => e = .returned (.tuple #[]) ∧ ∃ h', HeapAt w w' b h h' n g c ∧ IsHeap h' := by
  have HH : HeapAt w w b h h n g c := ⟨H, List.Perm.refl _, Tch.refl _ w⟩
  clear H
  go_enter Tryz.func103, Tryz.ntmps103
  go_wp2_with fail
  go_loopw [1] (fun x wr => ∃ (j : Nat) (h' : List Tm), x = .int .i64 j ∧ HeapAt w wr b h h' n g c ∧ DownInv h' j) (fun x _ => 64 - (intOf x).toNat)
  case atStart => exact ⟨i, h, rfl, HH, hU⟩
  case round =>
    clear HH hU
    obtain ⟨j, h', rfl, HH, hU⟩ := hrel
    have hle := HH.at_.le
    have hjl := hU.lt
    have hj64 : j < 64 := by omega
    have HU := Lib.hid hU
    have HL0 := Lib.hid (Least.start h' j hjl)
    clear hU
    go_wp2_with fail
    go_loopw [4, 5] (fun y x wr => ∃ k d : Nat, y = .int .i64 k ∧ x = .int .i64 d ∧ HeapAt w wr b h h' n g c ∧ Least h' j k d) (fun _ x _ => 2 * j + 3 - (intOf x).toNat)
    case atStart => exact ⟨j, 2 * j + 1, rfl, num (by omega), HH, HL0.out⟩
    case round =>
      clear HH HL0
      obtain ⟨k, d, rfl, rfl, HH, hL⟩ := hrel
      have h1 := hL.lo
      have h2 := hL.hi
      have hkl := hL.kl
      have hd130 : d ≤ 130 := by omega
      have hc0 := HH.at_.blk.cellOf 0 _ rfl
      have HL := Lib.hid hL
      clear hL
      by_cases hd : d ≤ 2 * j + 2
      · have hdi : decide ((d : Int) ≤ 2 * (j : Int) + 2) = true := by simp; omega
        by_cases hdl : d < h'.length
        · have hdli : decide ((d : Int) < (h'.length : Int)) = true := by simp; omega
          have hdln : decide (d < h'.length) = true := by simp; omega
          by_cases ht : Tlt (tat h' d) (tat h' k)
          · have HN := Lib.hid (HL.out.take hd hdl ht)
            go_wp2_with fail
            refine (timer_ahead b h' n _ c _ d k _ HH.at_ hdl hkl).mono ?_
            rw [decide_eq_true ht]
            rintro e w5 ⟨rfl, hT⟩
            have HH5 := Lib.hid (HH.nothing hT)
            clear HH hT ht HL hc0
            go_wp2
            go_roundw
            case rel => exact ⟨d, d + 1, rfl, num (by omega), HH5.out, HN.out⟩
            case measure => simp [intOf]; omega
          · have HN := Lib.hid (HL.out.pass hd ht)
            go_wp2_with fail
            refine (timer_ahead b h' n _ c _ d k _ HH.at_ hdl hkl).mono ?_
            rw [decide_eq_false ht]
            rintro e w5 ⟨rfl, hT⟩
            have HH5 := Lib.hid (HH.nothing hT)
            clear HH hT ht HL hc0
            go_wp2
            go_roundw
            case rel => exact ⟨k, d + 1, rfl, num (by omega), HH5.out, HN.out⟩
            case measure => simp [intOf]; omega
        · have hdli : decide ((d : Int) < (h'.length : Int)) = false := by simp; omega
          have hdln : decide (d < h'.length) = false := by simp; omega
          have hend : 2 * j + 2 < d ∨ h'.length ≤ d := .inr (by omega)
          clear hd hdl
          -- the ones below are looked through
          by_cases hkj : k = j
          · subst hkj
            have HD := Lib.hid (HU.out.done (HL.out.all hend))
            have HE := Lib.hid HH
            have heq : ((k : Int) == (k : Int)) = true := by simp
            clear HH HL hend
            go_wp2
            ((try simp only [Exit.inBlock, Exit.then]); refine bodyPost_ret (results_none rfl _ _ _) rfl ?_)
            exact ⟨rfl, h', HE.out, HD.out⟩
          · have heq : ((k : Int) == (j : Int)) = false := by simp; omega
            have heqn : (k == j) = false := by simp; omega
            have hk3 : 0 < k ∧ (k - 1) / 2 = j ∧ Tlt (tat h' k) (tat h' j) := HL.out.sort.elim (fun e => absurd e hkj) (fun e => e)
            have HV := Lib.hid (HU.out.step HL.out.kl hk3.1 hk3.2.1 hk3.2.2 (HL.out.all hend))
            have hkl := HL.out.kl
            have hjk : j < k := by omega
            clear HL hend hk3
            go_wp2_with fail
            refine (timer_swap b h' n g c j k _ HH.at_ hjl hkl).mono ?_
            rintro e w6 ⟨rfl, h6, hT6⟩
            have HN := Lib.hid (HH.swap j k hjl hkl h6 hT6)
            clear HH h6 hT6
            go_wp2
            go_roundw
            case rel => exact ⟨k, _, rfl, HN.out, HV.out⟩
            case measure => simp [intOf]; omega
      · have hdi : decide ((d : Int) ≤ 2 * (j : Int) + 2) = false := by simp; omega
        have hend : 2 * j + 2 < d ∨ h'.length ≤ d := .inl (by omega)
        clear hd
        -- the ones below are looked through
        by_cases hkj : k = j
        · subst hkj
          have HD := Lib.hid (HU.out.done (HL.out.all hend))
          have HE := Lib.hid HH
          have heq : ((k : Int) == (k : Int)) = true := by simp
          clear HH HL hend
          go_wp2
          ((try simp only [Exit.inBlock, Exit.then]); refine bodyPost_ret (results_none rfl _ _ _) rfl ?_)
          exact ⟨rfl, h', HE.out, HD.out⟩
        · have heq : ((k : Int) == (j : Int)) = false := by simp; omega
          have heqn : (k == j) = false := by simp; omega
          have hk3 : 0 < k ∧ (k - 1) / 2 = j ∧ Tlt (tat h' k) (tat h' j) := HL.out.sort.elim (fun e => absurd e hkj) (fun e => e)
          have HV := Lib.hid (HU.out.step HL.out.kl hk3.1 hk3.2.1 hk3.2.2 (HL.out.all hend))
          have hkl := HL.out.kl
          have hjk : j < k := by omega
          clear HL hend hk3
          go_wp2_with fail
          refine (timer_swap b h' n g c j k _ HH.at_ hjl hkl).mono ?_
          rintro e w6 ⟨rfl, h6, hT6⟩
          have HN := Lib.hid (HH.swap j k hjl hkl h6 hT6)
          clear HH h6 hT6
          go_wp2
          go_roundw
          case rel => exact ⟨k, _, rfl, HN.out, HV.out⟩
          case measure => simp [intOf]; omega
end Go.Proofs.YtipbimbnpikbcaaGreat

/- Timers: none at first; how many; when the next one is due; one is taken away. -/
namespace Go.Proofs.YtipbimbnpikbcaaGreat
open Go.RowKit

theorem timer_new (w : World) : Calls Tryz.prog 18 #[] w fun e w' => ∃ b F, e = .returned (.pointer (some ⟨b, 0, none⟩)) ∧ TimersQ w' b [] 0 F ∧ (∀ k, F k → w.heap.size ≤ k) ∧ Tch NoBlk w w' := by
  go_enter Tryz.func18, Tryz.ntmps18
  go_wp2
  go_ret
  refine ⟨w.heap.size, fun k => k = w.heap.size ∨ (none : Option Nat) = some k, rfl, ⟨none, 0, none, ⟨Blk.new w _ _, Sl.nil _ _ _, by simp, by simp⟩, fun _ => Iff.rfl⟩, fun k hk => ?_, (Tch.refl NoBlk w).alloc _⟩
  rcases hk with rfl | hk
  · exact Nat.le_refl _
  · cases hk
theorem timer_len (b : Nat) (h : List Tm) (n : Int) (F : Nat → Prop) (w : World) (H : TimersQ w b h n F) :
    Calls Tryz.prog 47 #[.pointer (some ⟨b, 0, none⟩)] w fun e w' => e = .returned (.int .i64 h.length) ∧ w' = w := by
  obtain ⟨A, c, G, H, _⟩ := H
  have hc := H.blk.cellOf 0 _ rfl
  clear H
  go_enter Tryz.func47, Tryz.ntmps47
  go_wp2
  go_ret
  exact ⟨rfl, rfl⟩
theorem timer_len_nil (w : World) : Calls Tryz.prog 47 #[.pointer none] w fun e w' => e = .returned (.int .i64 0) ∧ w' = w := by
  go_enter Tryz.func47, Tryz.ntmps47
  go_wp2
  go_ret
  exact ⟨rfl, rfl⟩
theorem timer_next_none (b : Nat) (n : Int) (F : Nat → Prop) (w : World) (H : TimersQ w b [] n F) :
    Calls Tryz.prog 48 #[.pointer (some ⟨b, 0, none⟩)] w fun e w' => e = .returned (.tuple #[.int .i64 0, .bool false]) ∧ w' = w := by
  go_enter Tryz.func48, Tryz.ntmps48
  go_wp2_with fail
  refine (timer_len b [] n F w H).mono ?_
  rintro e w0 ⟨rfl, h0⟩; subst w0
  go_wp2
  go_ret2
  exact ⟨rfl, rfl⟩
theorem timer_next_some (b : Nat) (h : List Tm) (n : Int) (F : Nat → Prop) (w : World) (H : TimersQ w b h n F) (hl : 0 < h.length) :
    Calls Tryz.prog 48 #[.pointer (some ⟨b, 0, none⟩)] w fun e w' => e = .returned (.tuple #[.int .i64 (tat h 0).1, .bool true]) ∧ w' = w := by
  have HH := Lib.hid H
  obtain ⟨A, c, G, H, _⟩ := H
  have hc := H.blk.cellOf 0 _ rfl
  obtain ⟨g, rfl, rfl, hcl⟩ := H.sl.cells hl
  have c0 := hcl _ _ (tcells_get h 0 hl).1
  have hle := H.le
  have hz : ((h.length : Int) == 0) = false := by simp; intro e; subst e; simp at hl
  have hzn : (h.length == 0) = false := by simp; intro e; subst e; simp at hl
  clear H hcl
  go_enter Tryz.func48, Tryz.ntmps48
  go_wp2_with fail
  refine (timer_len b h n F w HH.out).mono ?_
  rintro e w0 ⟨rfl, h0⟩; subst w0
  go_wp2
  go_ret2
  exact ⟨rfl, rfl⟩
theorem timer_next_nil (w : World) : Calls Tryz.prog 48 #[.pointer none] w fun e w' => e = .returned (.tuple #[.int .i64 0, .bool false]) ∧ w' = w := by
  go_enter Tryz.func48, Tryz.ntmps48
  go_wp2_with fail
  refine (timer_len_nil w).mono ?_
  rintro e w0 ⟨rfl, h0⟩; subst w0
  go_wp2
  go_ret2
  exact ⟨rfl, rfl⟩

theorem TimersAt.cut {w : World} {b : Nat} {h : List Tm} {n : Int} {g c : Nat} (H : TimersAt w b h n (some ⟨g, 0, none⟩) c (some g)) (l : Nat) (hl : l ≤ h.length) :
    TimersAt (w.setCell ⟨b, 0, none⟩ (.slice (some ⟨g, 0, none⟩) l c)) b (h.take l) n (some ⟨g, 0, none⟩) c (some g) ∧ Tch (· = b) w (w.setCell ⟨b, 0, none⟩ (.slice (some ⟨g, 0, none⟩) l c)) := by
  have hS : Tch (· = b) w (w.setCell ⟨b, 0, none⟩ (.slice (some ⟨g, 0, none⟩) l c)) := (Tch.refl (· = b) w).setCell (p := ⟨b, 0, none⟩) (fun _ => rfl) _
  have e : (h.take l).length = l := by rw [List.length_take]; omega
  have hs := (H.sl.less hl).keep hS (fun k hk e => H.nb (by rw [hk, e]))
  rw [tcells_take h l hl] at hs
  refine ⟨⟨?_, ?_, H.nb, by rw [e]; have := H.le; omega⟩, hS⟩
  · rw [e]
    exact H.blk.set 0 _
  · rw [e]
    exact hs

set_option maxHeartbeats 2000000 in
set_option maxRecDepth 100000 in
theorem timer_gone (b : Nat) (h : List Tm) (n : Int) (g c : Nat) (i : Nat) (w : World) (H : TimersAt w b h n (some ⟨g, 0, none⟩) c (some g)) (hH : IsHeap h) (hi : i < h.length) :
    Calls Tryz.prog 90 #[.pointer (some ⟨b, 0, none⟩), .int .i64 i] w fun e w' => e = .returned (.int .i64 (tat h i).2.2) ∧
      ∃ h', TimersAt w' b h' n (some ⟨g, 0, none⟩) c (some g) ∧ IsHeap h' ∧ h'.Perm (cutL h i) ∧ Tch (fun k => k = b ∨ k = g) w w' := by
  obtain ⟨l, hl⟩ : ∃ l, l = h.length - 1 := ⟨_, rfl⟩
  have hll : (h.length : Int) - 1 = (l : Int) := by omega
  have hlt : l < h.length := by omega
  have hc := H.blk.cellOf 0 _ rfl
  obtain ⟨g2, e1, e2, hcl⟩ := H.sl.cells (by omega)
  injection e2 with e2
  subst e2
  have c2 := hcl _ _ (tcells_get h i hi).2.2
  have hle := H.le
  have hcap := H.sl.cap_le
  have hlc : l ≤ c := by omega
  have HC : Hid (swapL h i l = swapL h i (h.length - 1)) := Lib.hid (by rw [hl])
  have HT : Hid ((swapL h i l).take l = cutL h i) := Lib.hid (by rw [hl]; rfl)
  have hsl := swapL_length h i l
  have HL := Lib.hid hl
  clear hcl e1 hl
  go_enter Tryz.func90, Tryz.ntmps90
  go_wp2_with fail
  refine (timer_swap b h n g c i l w H hi hlt).mono ?_
  rintro e w1 ⟨rfl, h1, hT1⟩
  have hc1 := h1.blk.cellOf 0 _ rfl
  rw [hsl] at hc1
  have hf1 := h1.blk.free 0
  obtain ⟨h2, hT2⟩ := h1.cut l (by rw [hsl]; omega)
  rw [HT.out] at h2
  have HH2 := Lib.hid h2
  have HTT := Lib.hid ((hT1.mono (T := fun k => k = b ∨ k = g) (fun _ _ e => .inr e)).trans (hT2.mono (fun _ _ e => .inl e)))
  clear h1 hT1 hT2 h2 H hc c2 hsl HC
  by_cases hil : i < l
  · have hd : decide ((i : Int) < (l : Int)) = true := by simp; omega
    have hdn : decide (i < l) = true := by simp; omega
    have hil2 : i < h.length - 1 := by rw [← HL.out]; exact hil
    by_cases hu : 0 < i ∧ Tlt (tat (cutL h i) i) (tat (cutL h i) ((i - 1) / 2))
    · have HU := Lib.hid (hH.cutUp hil2 hu.1 hu.2)
      clear hu hil2
      go_wp2_with fail
      refine (timer_up b (cutL h i) n g c i _ HH2.out HU.out).mono ?_
      rintro e w3 ⟨rfl, h3, hA3, hP3⟩
      have hil3 : i < h3.length := by rw [hA3.perm.length_eq, cutL_length]; have := HL.out; omega
      go_wp2_with fail
      refine (timer_down b h3 n g c i _ hA3.at_ (hP3.down hil3)).mono ?_
      rintro e w4 ⟨rfl, h4, hA4, hP4⟩
      have HE := Lib.hid hA4.at_
      have HF := Lib.hid (hA4.perm.trans hA3.perm)
      have HG := Lib.hid ((HTT.out.trans (hA3.tch.mono (fun _ _ e => .inr e))).trans (hA4.tch.mono (fun _ _ e => .inr e)))
      have HP := Lib.hid hP4
      clear hA3 hA4 hP3 hP4
      go_wp2
      go_ret
      exact ⟨rfl, h4, HE.out, HP.out, HF.out, HG.out⟩
    · have HU := Lib.hid (hH.cutDown hil2 hu)
      have hlc2 : i < (cutL h i).length := by rw [cutL_length]; exact hil2
      go_wp2_with fail
      refine (timer_up_stay b (cutL h i) n g c i _ HH2.out hlc2 hu).mono ?_
      rintro e w3 ⟨rfl, hT3⟩
      have h3 := HH2.out.keep hT3 (fun h => h) (fun _ _ h => h)
      go_wp2_with fail
      refine (timer_down b (cutL h i) n g c i _ h3 HU.out).mono ?_
      rintro e w4 ⟨rfl, h4, hA4, hP4⟩
      have HE := Lib.hid hA4.at_
      have HF := Lib.hid hA4.perm
      have HG := Lib.hid ((HTT.out.trans (hT3.mono (fun _ _ e => e.elim))).trans (hA4.tch.mono (fun _ _ e => .inr e)))
      have HP := Lib.hid hP4
      clear hA4 hP4 h3 hT3 hu
      go_wp2
      go_ret
      exact ⟨rfl, h4, HE.out, HP.out, HF.out, HG.out⟩
  · have hd : decide ((i : Int) < (l : Int)) = false := by simp; omega
    have hdn : decide (i < l) = false := by simp; omega
    have HP : Hid (IsHeap (cutL h i)) := Lib.hid (by have e : i = h.length - 1 := by have := HL.out; omega
                                                     rw [e]; exact hH.cutLast)
    clear hil
    go_wp2
    go_ret
    exact ⟨rfl, cutL h i, HH2.out, HP.out, List.Perm.refl _, HTT.out⟩
end Go.Proofs.YtipbimbnpikbcaaGreat

/- Timers: one is put. -/
namespace Go.Proofs.YtipbimbnpikbcaaGreat
open Go.RowKit

theorem TimersAt.more {w w2 : World} {b : Nat} {h : List Tm} {n : Int} {A : Option Addr} {c : Nat} {G : Option Nat} {x : Tm} (H : TimersAt w b h n A c G) (T : Tch (fun k => G = some k) w w2) {A' : Option Addr} {c' : Nat} {G' : Option Nat} (hl : h.length < 64)
    (hs : Sl w2 126 3 A' (h.length + 1) c' (tcells (h ++ [x])) G') (hG : G' = G ∨ ∃ g, G' = some g ∧ w.heap.size ≤ g) :
    ∃ g', A' = some ⟨g', 0, none⟩ ∧ G' = some g' ∧ (G = some g' ∨ w.heap.size ≤ g') ∧ TimersAt (w2.setCell ⟨b, 0, none⟩ (.slice A' (h.length + 1) c')) b (h ++ [x]) n A' c' G' ∧ Tch (fun k => k = b ∨ G = some k) w (w2.setCell ⟨b, 0, none⟩ (.slice A' (h.length + 1) c')) := by
  have hS : Tch (· = b) w2 (w2.setCell ⟨b, 0, none⟩ (.slice A' (h.length + 1) c')) := (Tch.refl (· = b) w2).setCell (p := ⟨b, 0, none⟩) (fun _ => rfl) _
  have hlb := H.blk.lt
  have hn : G' ≠ some b := by
    intro e
    rcases hG with e2 | ⟨g, e2, hg⟩
    · exact H.nb (e2 ▸ e)
    · rw [e2] at e
      injection e with e
      omega
  obtain ⟨g', e1, e2, _⟩ := hs.form (by omega)
  have e : (h ++ [x]).length = h.length + 1 := by simp
  refine ⟨g', e1, e2, ?_, ⟨?_, ?_, hn, by rw [e]; omega⟩, (T.mono (fun _ _ e => .inr e)).trans (hS.mono (fun _ _ e => .inl e))⟩
  · rcases hG with e3 | ⟨g, e3, hg⟩
    · exact .inl (e3 ▸ e2)
    · rw [e3] at e2
      injection e2 with e2
      exact .inr (by omega)
  · rw [e]
    exact (H.blk.keep T H.nb).set 0 _
  · rw [e]
    exact hs.keep hS (fun k hk e => hn (by rw [hk, e]))
theorem TimersAt.count {w : World} {b : Nat} {h : List Tm} {n m : Int} {A : Option Addr} {c : Nat} {G : Option Nat} (H : TimersAt w b h n A c G) : TimersAt (w.setCell ⟨b, 1, none⟩ (.int .i64 m)) b h m A c G ∧ Tch (· = b) w (w.setCell ⟨b, 1, none⟩ (.int .i64 m)) := by
  have hS : Tch (· = b) w (w.setCell ⟨b, 1, none⟩ (.int .i64 m)) := (Tch.refl (· = b) w).setCell (p := ⟨b, 1, none⟩) (fun _ => rfl) _
  exact ⟨⟨H.blk.set 1 _, H.sl.keep hS (fun k hk e => H.nb (by rw [hk, e])), H.nb, H.le⟩, hS⟩

set_option maxHeartbeats 4000000 in
set_option maxRecDepth 100000 in
theorem timer_put (b : Nat) (h : List Tm) (n : Int) (F : Nat → Prop) (due item : Int) (w : World) (H : TimersQ w b h n F) (hH : IsHeap h) (hl : h.length < 64) (hn0 : 0 ≤ n) (hn : n < 4611686018427387904) :
    Calls Tryz.prog 54 #[.pointer (some ⟨b, 0, none⟩), .int .i64 due, .int .i64 item] w fun e w' => e = .returned (.tuple #[.int .i64 n, .int .i64 0]) ∧ Tch F w w' ∧
      ∃ h' F', TimersQ w' b h' (n + 1) F' ∧ IsHeap h' ∧ h'.Perm (h ++ [(due, n, item)]) ∧ ∀ k, F' k → F k ∨ w.heap.size ≤ k := by
  obtain ⟨A, c, G, H, hF⟩ := H
  have HF := Lib.hid hF
  have hc0 := H.blk.cellOf 0 _ rfl
  have hc1 := H.blk.cellOf 1 _ rfl
  have hb := H.blk
  have hs := H.sl
  have hnb := H.nb
  have hcap := H.sl.cap_le
  have hcA0 : ∀ ob, (w.alloc ob).cell? ⟨b, 0, none⟩ = some (.slice A h.length c) := fun ob => ((Tch.refl NoBlk w).alloc ob).cell' hc0 (fun h => h)
  have hcA1 : ∀ ob, (w.alloc ob).cell? ⟨b, 1, none⟩ = some (.int .i64 n) := fun ob => ((Tch.refl NoBlk w).alloc ob).cell' hc1 (fun h => h)
  have hd64 : decide ((64 : Int) ≤ (h.length : Int)) = false := by simp; omega
  have HH := Lib.hid H
  have HP := Lib.hid (hH.put (due, n, item))
  clear H hF hH
  go_enter Tryz.func54, Tryz.ntmps54
  go_wp2_with fail
  go_region_law (refine step_app _ rfl (.tmp 22) (.tmp 30) 89 rfl 126 (.agg #[.int .i64 0, .int .i64 0, .int .i64 0]) 3 24 Tryz.underlying89 infoTm rfl (by decide) (by decide) A h.length c (tcells h) G (some ⟨w.heap.size, 0, none⟩) 1 1 (tcells [(due, n, item)]) (by simp [Act.eval]) (by simp [Act.eval]) (by exact (hs.alloc _).keep (Tch.refl NoBlk _).drew (fun _ _ h => h)) (by exact (Src.made (sz := 3) w 126 #[.int .i64 due, .int .i64 n, .int .i64 item] 1 rfl).keep (Tch.refl NoBlk _).drew (fun _ _ h => h)) (tcells_one [(due, n, item)]) (by omega) ?_; intro A6 c6 w4 G6 hs6 ht6 hg6; have HS6 := Lib.hid hs6; have HT6 : Hid (Tch (fun k => G = some k) w w4) := Lib.hid (Tch.then ((Tch.refl _ w).alloc _).drew ht6 (fun _ _ h => h)); have HG6 := Lib.hid hg6; have hb6 := hb.keep HT6.out hnb; have hc6 := hb6.cellOf 0 _ rfl; have hf6 := hb6.free 0; clear hs6 ht6 hg6 hb6)
  all_goals
    have hs7 : Sl w4 126 3 A6 (h.length + 1) c6 (tcells (h ++ [(due, n, item)])) G6 := by rw [tcells_app]; exact HS6.out
    have hg7 : G6 = G ∨ ∃ g, G6 = some g ∧ w.heap.size ≤ g := HG6.out.elim .inl (fun ⟨g, h1, h2⟩ => .inr ⟨g, h1, by simp at h2; omega⟩)
    obtain ⟨g', rfl, rfl, hgg, h8, hT8⟩ := HH.out.more HT6.out hl hs7 hg7
    clear hs7 hg7 HS6 HG6 HT6 hc6 hf6
    generalize w4.setCell ⟨b, 0, none⟩ (.slice (some ⟨g', 0, none⟩) (h.length + 1) c6) = w8 at *
    have k1 := h8.blk.cellOf 1 _ rfl
    have q1 := h8.blk.free 1
    obtain ⟨h9, hT9⟩ := h8.count (m := n + 1)
    have k0 : (w8.setCell ⟨b, 1, none⟩ (.int .i64 (n + 1))).cell? ⟨b, 0, none⟩ = some (.slice (some ⟨g', 0, none⟩) (h.length + 1) c6) := by
      have e := h9.blk.cellOf 0 _ rfl
      rw [List.length_append] at e
      exact e
    have H9 := Lib.hid h9
    have HT9 : Hid (Tch F w (w8.setCell ⟨b, 1, none⟩ (.int .i64 (n + 1)))) := Lib.hid ((hT8.mono (fun k _ e => (HF.out k).2 e)).trans (hT9.mono (fun k _ e => (HF.out k).2 (.inl e))))
    have hsz := hT8.size
    clear h8 hT8 h9 hT9 hc0 hc1 hb hs hcA0 hcA1
    go_wp2_with fail
    refine (timer_up b (h ++ [(due, n, item)]) (n + 1) g' c6 h.length _ H9.out HP.out).mono ?_
    rintro e w10 ⟨rfl, h', hA, hI⟩
    have c10 := hA.at_.blk.cellOf 1 _ rfl
    have HA := Lib.hid hA
    have HI := Lib.hid hI
    clear hA hI k0 k1 q1
    go_wp2
    go_ret2
    have hT10 : Tch F w w10 := HT9.out.then HA.out.tch (fun k hk e => by
      subst e
      rcases hgg with e | e
      · exact (HF.out _).2 (.inr e)
      · omega)
    refine ⟨by simp, hT10, h', fun k => k = b ∨ some g' = some k, ⟨_, _, _, HA.out.at_, fun _ => Iff.rfl⟩, HI.out, HA.out.perm, fun k hk => ?_⟩
    rcases hk with hk | hk
    · exact .inl ((HF.out k).2 (.inl hk))
    · injection hk with hk
      subst hk
      rcases hgg with e | e
      · exact .inl ((HF.out _).2 (.inr e))
      · exact .inr e
end Go.Proofs.YtipbimbnpikbcaaGreat

/- Timers: the next one that is due; what is refused; nil timers. -/
namespace Go.Proofs.YtipbimbnpikbcaaGreat
open Go.RowKit

theorem timer_due_none (b : Nat) (n : Int) (F : Nat → Prop) (now : Int) (w : World) (H : TimersQ w b [] n F) :
    Calls Tryz.prog 67 #[.pointer (some ⟨b, 0, none⟩), .int .i64 now] w fun e w' => e = .returned (.tuple #[.int .i64 0, .bool false]) ∧ w' = w := by
  go_enter Tryz.func67, Tryz.ntmps67
  go_wp2_with fail
  refine (timer_next_none b n F w H).mono ?_
  rintro e w0 ⟨rfl, h0⟩; subst w0
  go_wp2
  go_ret2
  exact ⟨rfl, rfl⟩
theorem timer_due_no (b : Nat) (h : List Tm) (n : Int) (F : Nat → Prop) (now : Int) (w : World) (H : TimersQ w b h n F) (hl : 0 < h.length) (hd : now < (tat h 0).1) :
    Calls Tryz.prog 67 #[.pointer (some ⟨b, 0, none⟩), .int .i64 now] w fun e w' => e = .returned (.tuple #[.int .i64 0, .bool false]) ∧ w' = w := by
  have d : decide (now < (tat h 0).1) = true := by simpa using hd
  go_enter Tryz.func67, Tryz.ntmps67
  go_wp2_with fail
  refine (timer_next_some b h n F w H hl).mono ?_
  rintro e w0 ⟨rfl, h0⟩; subst w0
  go_wp2
  go_ret2
  exact ⟨rfl, rfl⟩
theorem timer_due_nil (now : Int) (w : World) : Calls Tryz.prog 67 #[.pointer none, .int .i64 now] w fun e w' => e = .returned (.tuple #[.int .i64 0, .bool false]) ∧ w' = w := by
  go_enter Tryz.func67, Tryz.ntmps67
  go_wp2_with fail
  refine (timer_next_nil w).mono ?_
  rintro e w0 ⟨rfl, h0⟩; subst w0
  go_wp2
  go_ret2
  exact ⟨rfl, rfl⟩

/-- One of place i was taken away. -/
def TimerLess (w w' : World) (b : Nat) (h : List Tm) (n : Int) (F : Nat → Prop) (i : Nat) : Prop :=
  Tch F w w' ∧ ∃ h', TimersQ w' b h' n F ∧ IsHeap h' ∧ h'.Perm (cutL h i)
theorem timer_gone_at (b : Nat) (h : List Tm) (n : Int) (F : Nat → Prop) (i : Nat) (w : World) (H : TimersQ w b h n F) (hH : IsHeap h) (hi : i < h.length) :
    Calls Tryz.prog 90 #[.pointer (some ⟨b, 0, none⟩), .int .i64 i] w fun e w' => e = .returned (.int .i64 (tat h i).2.2) ∧ TimerLess w w' b h n F i := by
  obtain ⟨A, c, G, H, hF⟩ := H
  obtain ⟨g, rfl, rfl, _⟩ := H.sl.form (by omega)
  refine (timer_gone b h n g c i w H hH hi).mono ?_
  rintro e w' ⟨rfl, h', h1, h2, h3, h4⟩
  refine ⟨rfl, h4.mono (fun k _ e => (hF k).2 (e.elim .inl (fun e => .inr (by rw [e])))), h', ⟨_, c, _, h1, hF⟩, h2, h3⟩
theorem timer_due_yes (b : Nat) (h : List Tm) (n : Int) (F : Nat → Prop) (now : Int) (w : World) (H : TimersQ w b h n F) (hH : IsHeap h) (hl : 0 < h.length) (hd : (tat h 0).1 ≤ now) :
    Calls Tryz.prog 67 #[.pointer (some ⟨b, 0, none⟩), .int .i64 now] w fun e w' => e = .returned (.tuple #[.int .i64 (tat h 0).2.2, .bool true]) ∧ TimerLess w w' b h n F 0 := by
  have d : decide (now < (tat h 0).1) = false := by simpa using hd
  have HH := Lib.hid hH
  have HQ := Lib.hid H
  clear hH hd
  go_enter Tryz.func67, Tryz.ntmps67
  go_wp2_with fail
  refine (timer_next_some b h n F w H hl).mono ?_
  rintro e w0 ⟨rfl, h0⟩; subst w0
  go_wp2_with fail
  refine (timer_gone_at b h n F 0 w HQ.out HH.out hl).mono ?_
  rintro e w1 ⟨rfl, hL⟩
  have HL := Lib.hid hL
  clear hL
  go_wp2
  go_ret2
  exact ⟨rfl, HL.out⟩
theorem timer_put_full (b : Nat) (h : List Tm) (n : Int) (F : Nat → Prop) (due item : Int) (w : World) (H : TimersQ w b h n F) (hl : h.length = 64) :
    Calls Tryz.prog 54 #[.pointer (some ⟨b, 0, none⟩), .int .i64 due, .int .i64 item] w fun e w' => e = .returned (.tuple #[.int .i64 0, .int .i64 140]) ∧ w' = w := by
  obtain ⟨A, c, G, H, _⟩ := H
  have hc0 := H.blk.cellOf 0 _ rfl
  rw [hl] at hc0
  clear H
  go_enter Tryz.func54, Tryz.ntmps54
  go_wp2
  go_ret2
  exact ⟨rfl, rfl⟩
theorem timer_put_nil (due item : Int) (w : World) : Calls Tryz.prog 54 #[.pointer none, .int .i64 due, .int .i64 item] w fun e w' => e = .returned (.tuple #[.int .i64 0, .int .i64 2]) ∧ w' = w := by
  go_enter Tryz.func54, Tryz.ntmps54
  go_wp2
  go_ret2
  exact ⟨rfl, rfl⟩
end Go.Proofs.YtipbimbnpikbcaaGreat
