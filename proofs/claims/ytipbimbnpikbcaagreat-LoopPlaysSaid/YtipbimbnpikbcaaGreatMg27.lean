import Derived.Test.YtipbimbnpikbcaaGreatMg26
import Derived.Test.YtipbimbnpikbcaaGreatMg16
/- The document's loop: one more is put behind a row; Spawn, Micro, wait, Resume, Cancel. -/
namespace Go.Proofs.YtipbimbnpikbcaaGreat
open Go.RowKit

section
variable {w w' w6 : World} {b : Nat} {s s' : Lp} {o : RPl} {F : Nat → Prop} {P : Nat → Nat → Prop} {A6 : Option Addr} {c6 : Nat} {G6 : Option Nat}
theorem RLoopAt.put_mac (H : RLoopAt w b s o P) (hF0 : ∀ k, F k ↔ ∃ i, P i k) (x : Tk) (hok : LOk (macL s x)) (T : Tch (fun k => o.G1 = some k) w w6) (hs : Rw w6 35 4 A6 (s.mac.length + 1) c6 (tks s.mac ++ tkl x) G6) (hG : G6 = o.G1 ∨ ∃ g, G6 = some g ∧ w.heap.size ≤ g) :
    RLeft w (w6.setCell ⟨b, 3, none⟩ (.slice A6 (s.mac.length + 1) c6)) b F (macL s x) := by
  have h00 := H.part 0
  have h1 := (H.part 1).2
  have hnb : o.G1 ≠ some b := fun e => H.nb (by decide) ((h1 b).2 e)
  have hS : Tch (· = b) w6 (w6.setCell ⟨b, 3, none⟩ (.slice A6 (s.mac.length + 1) c6)) := (Tch.refl (· = b) w6).setCell (p := ⟨b, 3, none⟩) (fun _ => rfl) _
  have hG' : ∀ g, G6 = some g → o.G1 = some g ∨ w.heap.size ≤ g := fun g hg => by
    rcases hG with e | ⟨g', e, hl⟩
    · exact .inl (e ▸ hg)
    · rw [e] at hg
      injection hg with hg
      subst hg
      exact .inr hl
  have hb6 := (h00.1.keep T hnb).set 3 (.slice A6 (s.mac.length + 1) c6)
  refine H.upd hF0 1 (by decide) (F' := fun k => G6 = some k) (s' := macL s x) (o' := { o with A1 := A6, c1 := c6, G1 := G6 }) ((T.mono (fun k _ e => .inr ((h1 k).2 e))).trans (hS.mono (fun k _ e => .inl ((h00.2 k).2 e)))) ?_ ⟨?_, fun _ => Iff.rfl⟩ (fun k hk => (hG' k hk).imp_left (fun e => (h1 k).2 e)) (fun i h0 hj => ?_) H.sb hok
  · simpa [rcells, macL] using hb6
  · have := hs.keep hS (fun g hg e => by
      subst e
      rcases hG' g hg with e | e
      · exact hnb e
      · have := h00.1.lt
        omega)
    simpa [macL, tks_snoc] using this
  · match i, h0, hj with
    | 2, _, _ => exact ⟨rfl, rfl, rfl, rfl⟩
    | 3, _, _ => exact ⟨rfl, rfl, rfl, rfl⟩
    | 4, _, _ => exact ⟨rfl, rfl, rfl, rfl⟩
    | 5, _, _ => exact ⟨rfl, rfl⟩
    | 6, _, _ => exact ⟨rfl, rfl, rfl, rfl⟩
    | 7, _, _ => exact ⟨rfl, rfl, rfl, rfl, rfl⟩
    | i + 8, _, _ => exact ⟨rfl, rfl⟩
theorem RLoopAt.put_mic (H : RLoopAt w b s o P) (hF0 : ∀ k, F k ↔ ∃ i, P i k) (x : Tk) (hok : LOk (micL s x)) (T : Tch (fun k => o.G2 = some k) w w6) (hs : Rw w6 35 4 A6 (s.mic.length + 1) c6 (tks s.mic ++ tkl x) G6) (hG : G6 = o.G2 ∨ ∃ g, G6 = some g ∧ w.heap.size ≤ g) :
    RLeft w (w6.setCell ⟨b, 4, none⟩ (.slice A6 (s.mic.length + 1) c6)) b F (micL s x) := by
  have h00 := H.part 0
  have h1 := (H.part 2).2
  have hnb : o.G2 ≠ some b := fun e => H.nb (by decide) ((h1 b).2 e)
  have hS : Tch (· = b) w6 (w6.setCell ⟨b, 4, none⟩ (.slice A6 (s.mic.length + 1) c6)) := (Tch.refl (· = b) w6).setCell (p := ⟨b, 4, none⟩) (fun _ => rfl) _
  have hG' : ∀ g, G6 = some g → o.G2 = some g ∨ w.heap.size ≤ g := fun g hg => by
    rcases hG with e | ⟨g', e, hl⟩
    · exact .inl (e ▸ hg)
    · rw [e] at hg
      injection hg with hg
      subst hg
      exact .inr hl
  have hb6 := (h00.1.keep T hnb).set 4 (.slice A6 (s.mic.length + 1) c6)
  refine H.upd hF0 2 (by decide) (F' := fun k => G6 = some k) (s' := micL s x) (o' := { o with A2 := A6, c2 := c6, G2 := G6 }) ((T.mono (fun k _ e => .inr ((h1 k).2 e))).trans (hS.mono (fun k _ e => .inl ((h00.2 k).2 e)))) ?_ ⟨?_, fun _ => Iff.rfl⟩ (fun k hk => (hG' k hk).imp_left (fun e => (h1 k).2 e)) (fun i h0 hj => ?_) H.sb hok
  · simpa [rcells, micL] using hb6
  · have := hs.keep hS (fun g hg e => by
      subst e
      rcases hG' g hg with e | e
      · exact hnb e
      · have := h00.1.lt
        omega)
    simpa [micL, tks_snoc] using this
  · match i, h0, hj with
    | 1, _, _ => exact ⟨rfl, rfl, rfl, rfl⟩
    | 3, _, _ => exact ⟨rfl, rfl, rfl, rfl⟩
    | 4, _, _ => exact ⟨rfl, rfl, rfl, rfl⟩
    | 5, _, _ => exact ⟨rfl, rfl⟩
    | 6, _, _ => exact ⟨rfl, rfl, rfl, rfl⟩
    | 7, _, _ => exact ⟨rfl, rfl, rfl, rfl, rfl⟩
    | i + 8, _, _ => exact ⟨rfl, rfl⟩
theorem RLoopAt.put_wai (H : RLoopAt w b s o P) (hF0 : ∀ k, F k ↔ ∃ i, P i k) (x : Tk) (hok : LOk (waiL s x)) (T : Tch (fun k => o.G3 = some k) w w6) (hs : Rw w6 35 4 A6 (s.wai.length + 1) c6 (tks s.wai ++ tkl x) G6) (hG : G6 = o.G3 ∨ ∃ g, G6 = some g ∧ w.heap.size ≤ g) :
    RLeft w (w6.setCell ⟨b, 5, none⟩ (.slice A6 (s.wai.length + 1) c6)) b F (waiL s x) := by
  have h00 := H.part 0
  have h1 := (H.part 3).2
  have hnb : o.G3 ≠ some b := fun e => H.nb (by decide) ((h1 b).2 e)
  have hS : Tch (· = b) w6 (w6.setCell ⟨b, 5, none⟩ (.slice A6 (s.wai.length + 1) c6)) := (Tch.refl (· = b) w6).setCell (p := ⟨b, 5, none⟩) (fun _ => rfl) _
  have hG' : ∀ g, G6 = some g → o.G3 = some g ∨ w.heap.size ≤ g := fun g hg => by
    rcases hG with e | ⟨g', e, hl⟩
    · exact .inl (e ▸ hg)
    · rw [e] at hg
      injection hg with hg
      subst hg
      exact .inr hl
  have hb6 := (h00.1.keep T hnb).set 5 (.slice A6 (s.wai.length + 1) c6)
  refine H.upd hF0 3 (by decide) (F' := fun k => G6 = some k) (s' := waiL s x) (o' := { o with A3 := A6, c3 := c6, G3 := G6 }) ((T.mono (fun k _ e => .inr ((h1 k).2 e))).trans (hS.mono (fun k _ e => .inl ((h00.2 k).2 e)))) ?_ ⟨?_, fun _ => Iff.rfl⟩ (fun k hk => (hG' k hk).imp_left (fun e => (h1 k).2 e)) (fun i h0 hj => ?_) H.sb hok
  · simpa [rcells, waiL] using hb6
  · have := hs.keep hS (fun g hg e => by
      subst e
      rcases hG' g hg with e | e
      · exact hnb e
      · have := h00.1.lt
        omega)
    simpa [waiL, tks_snoc] using this
  · match i, h0, hj with
    | 1, _, _ => exact ⟨rfl, rfl, rfl, rfl⟩
    | 2, _, _ => exact ⟨rfl, rfl, rfl, rfl⟩
    | 4, _, _ => exact ⟨rfl, rfl, rfl, rfl⟩
    | 5, _, _ => exact ⟨rfl, rfl⟩
    | 6, _, _ => exact ⟨rfl, rfl, rfl, rfl⟩
    | 7, _, _ => exact ⟨rfl, rfl, rfl, rfl, rfl⟩
    | i + 8, _, _ => exact ⟨rfl, rfl⟩
theorem tkl_one (x : Tk) : ∀ u ∈ tkl x, u.oneCell' = true := by
  intro u hu
  simp only [tkl, List.mem_cons, List.not_mem_nil, or_false] at hu
  rcases hu with rfl | rfl | rfl | rfl <;> rfl
/-- A token more. -/
theorem rl_make (h : RLoopQ w b s F) {ab' : List Int} {off' : List Bool} {x : Int} {en : Nat} (hm : tmakeM s.ab s.off s.token = ((ab', off'), x, en)) (hok : LOk { s with ab := ab', off := off' }) :
    Calls Tryz.prog 68 #[.pointer (some ⟨b, 9, none⟩), .int .i64 s.token] w fun e w' => e = .returned (.tuple #[.int .i64 x, .int .i64 en]) ∧ RLeft w w' b F { s with ab := ab', off := off' } := by
  obtain ⟨o, P, H, hF⟩ := h
  have := reftree_make b 9 58 (rcells s o) s.ab s.off _ s.token w H.tree
  rw [hm] at this
  refine this.mono ?_
  rintro e w' ⟨rfl, hl⟩
  exact ⟨rfl, H.treeLeft hF hl hok⟩
theorem RLoopQ.token (h : RLoopQ w b s F) : w.cell? ⟨b, 2, none⟩ = some (.int .i64 s.token) := by
  obtain ⟨o, P, H, hF⟩ := h
  exact (H.part 0).1.cellOf 2 _ rfl



set_option maxHeartbeats 4000000 in
set_option maxRecDepth 100000 in
theorem rl_spawn (h : RLoopQ w b s F) (fn : Int) (hn : s.mac.length < 1000000) :
    Calls Tryz.prog 35 #[.pointer (some ⟨b, 0, none⟩), .int .i64 fn] w fun e w' => e = .returned (.tuple #[.int .i64 (spawnL s fn).2.1, .int .i64 (spawnL s fn).2.2]) ∧ RLeft w w' b F (spawnL s fn).1 := by
  have c2 := h.token
  have hd := h.keep (Tch.refl NoBlk w).drew (fun _ _ h => h)
  unfold spawnL
  by_cases hl : 1024 ≤ s.ab.length
  · rw [if_pos hl]
    have HM := Lib.hid (rl_make hd (tmakeM_full h.ok hl) h.ok)
    clear hd h hl hn
    go_enter Tryz.func35, Tryz.ntmps35
    go_wp2_with fail
    go_region_law (go_simp; go_at_call 68; refine HM.out.mono ?_; rintro e w2 ⟨rfl, h2⟩; have H2 : Hid (RLeft w.drew w2 b F s) := Lib.hid h2; clear h2)
    all_goals
      go_wp2
      go_ret2
      exact ⟨rfl, H2.out.ahead (Tch.refl NoBlk w).drew⟩
  · rw [if_neg hl]
    have hl' : s.ab.length < 1024 := by omega
    have HM := Lib.hid (rl_make hd (tmakeM_tok h.ok hl') (h.ok.more hl'))
    have HOK := Lib.hid (h.ok.more hl')
    clear hd h hl hl'
    generalize hN : (s.ab.length : Int) = N at *
    have HN := Lib.hid hN
    clear hN
    go_enter Tryz.func35, Tryz.ntmps35
    go_wp2_with fail
    go_region_law (go_simp; go_at_call 68; refine HM.out.mono ?_; rintro e w2 ⟨rfl, h2⟩; have H2 : Hid (RLeft w.drew w2 b F (moreL s)) := Lib.hid h2; clear h2)
    all_goals
      obtain ⟨t2, F2, ⟨o, P, H, hF⟩, l2⟩ := H2.out
      have c3 := (H.part 0).1.cellOf 3 _ rfl
      have hr := (H.part 1).1
      have hc3 : w2.cell? ⟨b, 3, none⟩ = some (.slice o.A1 s.mac.length o.c1) := c3
      have hr3 : Rw w2 35 4 o.A1 s.mac.length o.c1 (tks s.mac) o.G1 := hr
      have HT2 := Lib.hid t2
      have HL2 := Lib.hid l2
      have HH := Lib.hid H
      have HF := Lib.hid hF
      have HB := Lib.hid (H.part 0).1
      have hnb : o.G1 ≠ some b := fun e => H.nb (by decide) (((H.part 1).2 b).2 e)
      have HNB := Lib.hid hnb
      clear t2 l2 H hF H2 c2 c3 hr hnb HM
      go_wp2_with (at_builtin; refine wpList_rw_app _ rfl (.tmp 26) (.tmp 30) 45 rfl 35 (.agg #[.int .i64 0, .int .i64 0, .int .i64 0, .int .i64 0]) 4 32 Tryz.underlying45 infoTk rfl (by decide) (by decide) _ _ _ _ _ _ _ _ [.int .i64 1, .int .i64 fn, .int .i64 0, .int .i64 N] rfl rfl (by decide) (hr3.keep ((Tch.refl NoBlk w2).alloc _) (fun _ _ h => h)) (Src.made (sz := 4) w2 35 #[.int .i64 1, .int .i64 fn, .int .i64 0, .int .i64 N] 1 rfl) (tkl_one ⟨1, fn, 0, N⟩) (by omega) ?_; intro A6 c6 w6 G6 hs6 ht6 hg6; have HS6 := Lib.hid hs6; have HT6 : Hid (Tch (fun k => o.G1 = some k) w2 w6) := Lib.hid (Tch.then ((Tch.refl _ w2).alloc _) ht6 (fun _ _ h => h)); have HG6 := Lib.hid hg6; have hb6 := HB.out.keep HT6.out HNB.out; have c3 := hb6.cellOf 3 _ rfl; have f3 := hb6.free 3; clear hs6 ht6 hg6 hb6)
      have hp := HH.out.put_mac HF.out ⟨1, fn, 0, s.ab.length⟩ (HOK.out.putMac tokOk_more) HT6.out (by have := HS6.out; rw [← HN.out] at this; exact this) (HG6.out.elim .inl (fun ⟨g, h1, h2⟩ => .inr ⟨g, h1, by simp at h2; omega⟩))
      have HP : Hid (RLeft w2 (w6.setCell ⟨b, 3, none⟩ (.slice A6 (s.mac.length + 1) c6)) b F2 (macL (moreL s) ⟨1, fn, 0, N⟩)) := Lib.hid (by rw [HN.out] at hp; exact hp)
      clear hp HS6 HT6 HG6
      go_wp2
      go_ret2
      exact ⟨rfl, (RLeft.comp HT2.out HL2.out HP.out).ahead (Tch.refl NoBlk w).drew⟩
set_option maxHeartbeats 4000000 in
set_option maxRecDepth 100000 in
theorem rl_micro (h : RLoopQ w b s F) (fn : Int) (hn : s.mic.length < 1000000) :
    Calls Tryz.prog 36 #[.pointer (some ⟨b, 0, none⟩), .int .i64 fn] w fun e w' => e = .returned (.tuple #[.int .i64 (microL s fn).2.1, .int .i64 (microL s fn).2.2]) ∧ RLeft w w' b F (microL s fn).1 := by
  have c2 := h.token
  have hd := h.keep (Tch.refl NoBlk w).drew (fun _ _ h => h)
  unfold microL
  by_cases hl : 1024 ≤ s.ab.length
  · rw [if_pos hl]
    have HM := Lib.hid (rl_make hd (tmakeM_full h.ok hl) h.ok)
    clear hd h hl hn
    go_enter Tryz.func36, Tryz.ntmps36
    go_wp2_with fail
    go_region_law (go_simp; go_at_call 68; refine HM.out.mono ?_; rintro e w2 ⟨rfl, h2⟩; have H2 : Hid (RLeft w.drew w2 b F s) := Lib.hid h2; clear h2)
    all_goals
      go_wp2
      go_ret2
      exact ⟨rfl, H2.out.ahead (Tch.refl NoBlk w).drew⟩
  · rw [if_neg hl]
    have hl' : s.ab.length < 1024 := by omega
    have HM := Lib.hid (rl_make hd (tmakeM_tok h.ok hl') (h.ok.more hl'))
    have HOK := Lib.hid (h.ok.more hl')
    clear hd h hl hl'
    generalize hN : (s.ab.length : Int) = N at *
    have HN := Lib.hid hN
    clear hN
    go_enter Tryz.func36, Tryz.ntmps36
    go_wp2_with fail
    go_region_law (go_simp; go_at_call 68; refine HM.out.mono ?_; rintro e w2 ⟨rfl, h2⟩; have H2 : Hid (RLeft w.drew w2 b F (moreL s)) := Lib.hid h2; clear h2)
    all_goals
      obtain ⟨t2, F2, ⟨o, P, H, hF⟩, l2⟩ := H2.out
      have c3 := (H.part 0).1.cellOf 4 _ rfl
      have hr := (H.part 2).1
      have hc3 : w2.cell? ⟨b, 4, none⟩ = some (.slice o.A2 s.mic.length o.c2) := c3
      have hr3 : Rw w2 35 4 o.A2 s.mic.length o.c2 (tks s.mic) o.G2 := hr
      have HT2 := Lib.hid t2
      have HL2 := Lib.hid l2
      have HH := Lib.hid H
      have HF := Lib.hid hF
      have HB := Lib.hid (H.part 0).1
      have hnb : o.G2 ≠ some b := fun e => H.nb (by decide) (((H.part 2).2 b).2 e)
      have HNB := Lib.hid hnb
      clear t2 l2 H hF H2 c2 c3 hr hnb HM
      go_wp2_with (at_builtin; refine wpList_rw_app _ rfl (.tmp 26) (.tmp 30) 45 rfl 35 (.agg #[.int .i64 0, .int .i64 0, .int .i64 0, .int .i64 0]) 4 32 Tryz.underlying45 infoTk rfl (by decide) (by decide) _ _ _ _ _ _ _ _ [.int .i64 2, .int .i64 fn, .int .i64 0, .int .i64 N] rfl rfl (by decide) (hr3.keep ((Tch.refl NoBlk w2).alloc _) (fun _ _ h => h)) (Src.made (sz := 4) w2 35 #[.int .i64 2, .int .i64 fn, .int .i64 0, .int .i64 N] 1 rfl) (tkl_one ⟨2, fn, 0, N⟩) (by omega) ?_; intro A6 c6 w6 G6 hs6 ht6 hg6; have HS6 := Lib.hid hs6; have HT6 : Hid (Tch (fun k => o.G2 = some k) w2 w6) := Lib.hid (Tch.then ((Tch.refl _ w2).alloc _) ht6 (fun _ _ h => h)); have HG6 := Lib.hid hg6; have hb6 := HB.out.keep HT6.out HNB.out; have c3 := hb6.cellOf 4 _ rfl; have f3 := hb6.free 4; clear hs6 ht6 hg6 hb6)
      have hp := HH.out.put_mic HF.out ⟨2, fn, 0, s.ab.length⟩ (HOK.out.putMic tokOk_more) HT6.out (by have := HS6.out; rw [← HN.out] at this; exact this) (HG6.out.elim .inl (fun ⟨g, h1, h2⟩ => .inr ⟨g, h1, by simp at h2; omega⟩))
      have HP : Hid (RLeft w2 (w6.setCell ⟨b, 4, none⟩ (.slice A6 (s.mic.length + 1) c6)) b F2 (micL (moreL s) ⟨2, fn, 0, N⟩)) := Lib.hid (by rw [HN.out] at hp; exact hp)
      clear hp HS6 HT6 HG6
      go_wp2
      go_ret2
      exact ⟨rfl, (RLeft.comp HT2.out HL2.out HP.out).ahead (Tch.refl NoBlk w).drew⟩
end
end Go.Proofs.YtipbimbnpikbcaaGreat

/- The document's loop: wait, Resume, After, Cancel; when the next timer is due. -/
namespace Go.Proofs.YtipbimbnpikbcaaGreat
open Go.RowKit

section
variable {w : World} {b : Nat} {s : Lp} {F : Nat → Prop}
set_option maxHeartbeats 4000000 in
set_option maxRecDepth 100000 in
theorem rl_wait (h : RLoopQ w b s F) (x : Tk) (hok : LOk (waiL s x)) :
    Calls Tryz.prog 70 #[.pointer (some ⟨b, 0, none⟩), tkv x] w fun e w' => e = .returned (.int .i64 s.wai.length) ∧ RLeft w w' b F (waiL s x) := by
  have hwl : s.wai.length ≤ 1024 := by
    have h1 := hok.waiLe
    have h2 := hok.tree.le
    simp [waiL] at h1 h2
    omega
  have HOK := Lib.hid hok
  obtain ⟨k, f, a, t⟩ := x
  unfold tkv
  have hT1 := (Tch.refl NoBlk w).alloc (.cells #[.int .i64 k, .int .i64 f, .int .i64 a, .int .i64 t] 35)
  have hq1 := h.keep hT1 (fun _ _ h => h)
  have hbW : Blk (w.alloc (.cells #[.int .i64 k, .int .i64 f, .int .i64 a, .int .i64 t] 35)) w.heap.size 35 [.int .i64 k, .int .i64 f, .int .i64 a, .int .i64 t] := heap_alloc_new w _
  clear h hok
  go_enter Tryz.func70, Tryz.ntmps70
  go_wp2_with fail
  generalize w.alloc (.cells #[.int .i64 k, .int .i64 f, .int .i64 a, .int .i64 t] 35) = w1 at *
  generalize w.heap.size = z at *
  obtain ⟨o, P, H, hF⟩ := hq1
  have hb1 := (H.part 0).1
  have hr : Rw w1 35 4 o.A3 s.wai.length o.c3 (tks s.wai) o.G3 := (H.part 3).1
  have hnb : o.G3 ≠ some b := fun e => H.nb (by decide) (((H.part 3).2 b).2 e)
  have hc := hb1.cellOf 5 _ rfl
  have l0 := hbW.cellOf 0 _ rfl
  have l1 := hbW.cellOf 1 _ rfl
  have l2 := hbW.cellOf 2 _ rfl
  have l3 := hbW.cellOf 3 _ rfl
  have hcA : ∀ ob, (w1.alloc ob).cell? ⟨b, 5, none⟩ = some (.slice o.A3 s.wai.length o.c3) := fun ob => ((Tch.refl NoBlk w1).alloc ob).cell' hc (fun h => h)
  have HR := Lib.hid hr
  have HB := Lib.hid hb1
  have HNB := Lib.hid hnb
  have HH := Lib.hid H
  have HF := Lib.hid hF
  have HT := Lib.hid hT1
  have HN := Lib.hid (show (s.wai.length + 1) * 32 ≤ 140737488355328 by omega)
  have sl : IntKind.i64.wrap (s.wai.length : Int) = (s.wai.length : Int) := by rw [IntKind.wrap_i64]; omega
  clear hr hb1 hnb H hF hT1 hbW
  go_region_law (refine step_rw_app _ rfl (.tmp 9) (.tmp 11) 45 rfl 35 (.agg #[.int .i64 0, .int .i64 0, .int .i64 0, .int .i64 0]) 4 32 Tryz.underlying45 infoTk rfl (by decide) (by decide) o.A3 s.wai.length o.c3 (tks s.wai) o.G3 (some ⟨w1.heap.size, 0, none⟩) 1 1 [.int .i64 k, .int .i64 f, .int .i64 a, .int .i64 t] (by simp [Act.eval]) (by simp [Act.eval]) (by decide) (by exact (HR.out.alloc _).drew1) (by exact (Src.made (sz := 4) w1 35 #[.int .i64 k, .int .i64 f, .int .i64 a, .int .i64 t] 1 rfl).keep (Tch.refl NoBlk _).drew (fun _ _ h => h)) (tkl_one ⟨k, f, a, t⟩) HN.out ?_; intro A6 c6 w6 G6 hs6 ht6 hg6; have HS6 := Lib.hid hs6; have HT6 : Hid (Tch (fun k => o.G3 = some k) w1 w6) := Lib.hid (Tch.then ((Tch.refl _ w1).alloc _).drew ht6 (fun _ _ h => h)); have HG6 := Lib.hid hg6; have hb6 := HB.out.keep HT6.out HNB.out; have hc6 := hb6.cellOf 5 _ rfl; have hf6 := hb6.free 5; clear hs6 ht6 hg6 hb6)
  all_goals
    have hp := HH.out.put_wai HF.out ⟨k, f, a, t⟩ HOK.out HT6.out HS6.out (HG6.out.elim .inl (fun ⟨g, h1, h2⟩ => .inr ⟨g, h1, by simp at h2; omega⟩))
    have HP := Lib.hid hp
    clear hp HS6 HT6 HG6 hc l0 l1 l2 l3 hcA hwl
    go_wp2
    go_ret
    exact ⟨rfl, HP.out.ahead HT.out⟩
set_option maxHeartbeats 4000000 in
set_option maxRecDepth 100000 in
theorem rl_resume (h : RLoopQ w b s F) (fn : Int) (hn : s.mac.length < 1000000) :
    Calls Tryz.prog 38 #[.pointer (some ⟨b, 0, none⟩), .int .i64 fn] w fun e w' => e = .returned (.tuple #[]) ∧ RLeft w w' b F (resumeL s fn) := by
  have HOK : Hid (LOk (resumeL s fn)) := Lib.hid (h.ok.putMac h.ok.tok)
  obtain ⟨o, P, H, hF⟩ := h
  have hb1 := (H.part 0).1
  have hr : Rw w 35 4 o.A1 s.mac.length o.c1 (tks s.mac) o.G1 := (H.part 1).1
  have hnb : o.G1 ≠ some b := fun e => H.nb (by decide) (((H.part 1).2 b).2 e)
  have hc := hb1.cellOf 3 _ rfl
  have hc2 := hb1.cellOf 2 _ rfl
  have hcA : ∀ ob, (w.alloc ob).cell? ⟨b, 3, none⟩ = some (.slice o.A1 s.mac.length o.c1) := fun ob => ((Tch.refl NoBlk w).alloc ob).cell' hc (fun h => h)
  have HR := Lib.hid hr
  have HB := Lib.hid hb1
  have HNB := Lib.hid hnb
  have HH := Lib.hid H
  have HF := Lib.hid hF
  have HN := Lib.hid (show (s.mac.length + 1) * 32 ≤ 140737488355328 by omega)
  clear hr hb1 hnb H hF hn
  go_enter Tryz.func38, Tryz.ntmps38
  go_wp2_with fail
  go_region_law (refine step_rw_app _ rfl (.tmp 8) (.tmp 15) 45 rfl 35 (.agg #[.int .i64 0, .int .i64 0, .int .i64 0, .int .i64 0]) 4 32 Tryz.underlying45 infoTk rfl (by decide) (by decide) o.A1 s.mac.length o.c1 (tks s.mac) o.G1 (some ⟨w.heap.size, 0, none⟩) 1 1 [.int .i64 5, .int .i64 fn, .int .i64 0, .int .i64 s.token] (by simp [Act.eval]) (by simp [Act.eval]) (by decide) (by exact (HR.out.alloc _).drew1) (by exact (Src.made (sz := 4) w 35 #[.int .i64 5, .int .i64 fn, .int .i64 0, .int .i64 s.token] 1 rfl).keep (Tch.refl NoBlk _).drew (fun _ _ h => h)) (tkl_one ⟨5, fn, 0, s.token⟩) HN.out ?_; intro A6 c6 w6 G6 hs6 ht6 hg6; have HS6 := Lib.hid hs6; have HT6 : Hid (Tch (fun k => o.G1 = some k) w w6) := Lib.hid (Tch.then ((Tch.refl _ w).alloc _).drew ht6 (fun _ _ h => h)); have HG6 := Lib.hid hg6; have hb6 := HB.out.keep HT6.out HNB.out; have hc6 := hb6.cellOf 3 _ rfl; have hf6 := hb6.free 3; clear hs6 ht6 hg6 hb6)
  all_goals
    have hp := HH.out.put_mac HF.out ⟨5, fn, 0, s.token⟩ HOK.out HT6.out HS6.out (HG6.out.elim .inl (fun ⟨g, h1, h2⟩ => .inr ⟨g, h1, by simp at h2; omega⟩))
    have HP : Hid (RLeft w (w6.setCell ⟨b, 3, none⟩ (.slice A6 (s.mac.length + 1) c6)) b F (resumeL s fn)) := Lib.hid hp
    clear hp HS6 HT6 HG6 hc hc2 hcA
    go_end0
    exact ⟨rfl, HP.out⟩
theorem rl_cancel (h : RLoopQ w b s F) (id : Int) :
    Calls Tryz.prog 39 #[.pointer (some ⟨b, 0, none⟩), .int .i64 id] w fun e w' => e = .returned (.int .i64 (cancelL s id).2) ∧ RLeft w w' b F (cancelL s id).1 := by
  obtain ⟨o, P, H, hF⟩ := h
  have HH := Lib.hid H
  have HF := Lib.hid hF
  clear H hF
  go_enter Tryz.func39, Tryz.ntmps39
  go_wp2_with fail
  refine (reftree_cancel b 9 58 (rcells s o) s.ab s.off _ id w HH.out.tree).mono ?_
  rintro e w2 ⟨⟨A, c, G, rfl, _, _⟩, hT, hq⟩
  have HL : Hid (RLeft w w2 b F (cancelL s id).1) := Lib.hid (HH.out.treeLeft HF.out (RefTreeQ.left hq hT) (HH.out.ok.cancel id))
  unfold cancelL at *
  clear hT hq
  go_wp2
  go_ret
  exact ⟨rfl, HL.out⟩
theorem rl_tnext (h : RLoopQ w b s F) :
    Calls Tryz.prog 14 #[.pointer (some ⟨b, 6, none⟩)] w fun e w' => e = .returned (.tuple #[.int .i64 (nextM s.L).1, .bool (nextM s.L).2]) ∧ ∃ k, w' = w.drewN k := by
  obtain ⟨o, P, H, hF⟩ := h
  exact reftim_next b 6 58 (rcells s o) s.L s.n _ w H.tim H.ok.row
theorem rl_tput (h : RLoopQ w b s F) (due : Int) (hl : s.L.length < 64) (hn : s.n < s.wai.length) :
    Calls Tryz.prog 69 #[.pointer (some ⟨b, 6, none⟩), .int .i64 due, .int .i64 ((s.wai.length : Int) - 1)] w fun e w' => e = .returned (.tuple #[.int .i64 s.n, .int .i64 0]) ∧ RLeft w w' b F (putL s due) := by
  obtain ⟨o, P, H, hF⟩ := h
  have h0 := H.ok.n
  have h1 := H.ok.waiLe
  have h2 := H.ok.tree.le
  refine (reftim_put b 6 58 (rcells s o) s.L s.n _ due _ w H.tim hl h0.1 (by omega)).mono ?_
  rintro e w' ⟨rfl, hL⟩
  exact ⟨rfl, H.timLeft hF hL (H.ok.put due hl hn)⟩
theorem RLoopQ.timCell (h : RLoopQ w b s F) : ∃ A c, w.cell? ⟨b, 6, none⟩ = some (.slice A s.L.length c) := by
  obtain ⟨o, P, H, hF⟩ := h
  obtain ⟨A, c, G, h1, _⟩ := H.part 4
  exact ⟨A, c, h1.blk.cellOf 6 _ h1.at_⟩
set_option maxHeartbeats 4000000 in
set_option maxRecDepth 100000 in
theorem rl_after (h : RLoopQ w b s F) (due fn : Int) :
    Calls Tryz.prog 37 #[.pointer (some ⟨b, 0, none⟩), .int .i64 due, .int .i64 fn] w fun e w' => e = .returned (.tuple #[.int .i64 (afterL s due fn).2.1, .int .i64 (afterL s due fn).2.2]) ∧ RLeft w w' b F (afterL s due fn).1 := by
  have c2 := h.token
  obtain ⟨A0, c0, c6⟩ := h.timCell
  have hok := h.ok
  have hd := h.keep (Tch.refl NoBlk w).drew (fun _ _ h => h)
  unfold afterL
  by_cases hl : 64 ≤ s.L.length
  · rw [if_pos hl]
    have hlI : (64 : Int) ≤ (s.L.length : Int) := by omega
    have HQ := Lib.hid h
    clear h hd hok
    go_enter Tryz.func37, Tryz.ntmps37
    go_wp2
    go_ret2
    exact ⟨rfl, RLeft.same HQ.out⟩
  · rw [if_neg hl]
    have hlI : ¬ ((64 : Int) ≤ (s.L.length : Int)) := by omega
    by_cases ha : 1024 ≤ s.ab.length
    · rw [if_pos ha]
      have HM := Lib.hid (rl_make hd (tmakeM_full hok ha) hok)
      clear hd h hok ha
      go_enter Tryz.func37, Tryz.ntmps37
      go_wp2_with fail
      go_region_law (go_simp; go_at_call 68; refine HM.out.mono ?_; rintro e w2 ⟨rfl, h2⟩; have H2 : Hid (RLeft w.drew w2 b F s) := Lib.hid h2; clear h2)
      all_goals
        go_wp2
        go_ret2
        exact ⟨rfl, H2.out.ahead (Tch.refl NoBlk w).drew⟩
    · rw [if_neg ha]
      have hl' : s.ab.length < 1024 := by omega
      have hok1 := hok.more hl'
      have hwl := hok.waiLe
      have hn := hok.n
      have hokw : LOk (waiL (moreL s) ⟨3, fn, 0, s.ab.length⟩) := hok1.putWai tokOk_more (by simp [moreL]; omega)
      have HM := Lib.hid (rl_make hd (tmakeM_tok hok hl') hok1)
      have HOKW := Lib.hid hokw
      have HTL := Lib.hid (show (waiL (moreL s) ⟨3, fn, 0, s.ab.length⟩).L.length < 64 by simp [waiL, moreL]; omega)
      have HN := Lib.hid (show (waiL (moreL s) ⟨3, fn, 0, s.ab.length⟩).n < ((waiL (moreL s) ⟨3, fn, 0, s.ab.length⟩).wai.length : Int) by simp [waiL, moreL]; omega)
      clear hd h hok ha hl' hok1 hwl hn hokw
      generalize hNN : (s.ab.length : Int) = N at *
      clear hNN
      go_enter Tryz.func37, Tryz.ntmps37
      go_wp2_with fail
      go_region_law (go_simp; go_at_call 68; refine HM.out.mono ?_; rintro e w2 ⟨rfl, h2⟩; have H2 : Hid (RLeft w.drew w2 b F (moreL s)) := Lib.hid h2; clear h2)
      all_goals
        obtain ⟨t2, F2, q2, l2⟩ := H2.out
        have HT2 := Lib.hid t2
        have HL2 := Lib.hid l2
        have hwt := rl_wait (q2.keep (Tch.refl NoBlk w2).drew (fun _ _ h => h)) ⟨3, fn, 0, N⟩ HOKW.out
        unfold tkv at hwt
        have HWT : Hid (Calls Tryz.prog 70 #[.pointer (some ⟨b, 0, none⟩), .agg #[.int .i64 3, .int .i64 fn, .int .i64 0, .int .i64 N]] w2.drew fun e w' => e = .returned (.int .i64 s.wai.length) ∧ RLeft w2.drew w' b F2 (waiL (moreL s) ⟨3, fn, 0, N⟩)) := Lib.hid hwt
        clear t2 q2 l2 hwt HM H2 c2 c6
        go_wp2_with fail
        go_region_law (first | (go_simp; go_at_call 70; refine HWT.out.mono ?_; rintro e w3 ⟨rfl, ⟨t3, F3, q3, l3⟩⟩; have hpt := rl_tput q3 due HTL.out HN.out; rw [show (((waiL (moreL s) ⟨3, fn, 0, N⟩).wai.length : Int) - 1) = (s.wai.length : Int) by simp [waiL, moreL]] at hpt; have HPT := Lib.hid hpt; have HT3 := Lib.hid t3; have HL3 := Lib.hid l3; clear t3 q3 l3 hpt) | (go_simp; go_at_call 69; refine HPT.out.mono ?_; rintro e w4 ⟨rfl, h4⟩; have H4 := Lib.hid h4; clear h4))
        all_goals
          go_wp2
          go_ret2
          exact ⟨rfl, (RLeft.comp HT2.out HL2.out ((RLeft.comp HT3.out HL3.out H4.out).ahead (Tch.refl NoBlk w2).drew)).ahead (Tch.refl NoBlk w).drew⟩
end
end Go.Proofs.YtipbimbnpikbcaaGreat
