import Derived.Test.YtipbimbnpikbcaaGreatMg15
/- A loop is made; a task is made; Spawn, Micro, Resume, Cancel, Promise. -/
namespace Go.Proofs.YtipbimbnpikbcaaGreat
open Go.RowKit

/-- The parts of a new loop. -/
def newP (bl : Nat) (F4 F5 F6 : Nat → Prop) (i k : Nat) : Prop := (i = 0 ∧ k = bl) ∨ (i = 4 ∧ F4 k) ∨ (i = 5 ∧ F5 k) ∨ (i = 6 ∧ F6 k)
theorem loop_new_yes (k : Nat) (w : World) (h1 : 1 ≤ k) (h2 : k ≤ 64) :
    Calls Tryz.prog 5 #[.int .i64 k] w fun e w' => ∃ b F, e = .returned (.tuple #[.pointer (some ⟨b, 0, none⟩), .int .i64 0]) ∧ LoopQ w' b (newL k) F ∧ (∀ i, F i → w.heap.size ≤ i) ∧ Tch NoBlk w w' := by
  have d1 : decide ((k : Int) < 1) = false := by simp; omega
  have d2 : decide ((64 : Int) < (k : Int)) = false := by simp; omega
  go_enter Tryz.func5, Tryz.ntmps5
  go_wp2_with fail
  refine (timer_new w).mono ?_
  rintro e w1 ⟨b4, F4, rfl, q4, l4, T4⟩
  go_wp2_with fail
  refine (promise_new w1).mono ?_
  rintro e w2 ⟨b5, F5, rfl, q5, l5, T5⟩
  go_wp2_with fail
  refine (can_new w2).mono ?_
  rintro e w3 ⟨b6, F6, rfl, q6, l6, T6⟩
  have H4 := Lib.hid q4
  have H5 := Lib.hid q5
  have H6 := Lib.hid q6
  have L4 := Lib.hid l4
  have L5 := Lib.hid l5
  have L6 := Lib.hid l6
  have K4 := Lib.hid T4
  have K5 := Lib.hid T5
  have K6 := Lib.hid T6
  clear q4 q5 q6 l4 l5 l6 T4 T5 T6
  go_wp2
  go_ret2
  have s4 := K4.out.size
  have s5 := K5.out.size
  have s6 := K6.out.size
  have T : Tch NoBlk w3 (w3.alloc (.cells #[.int .i64 k, .int .i64 0, .int .i64 (-1), .slice none 0 0, .slice none 0 0, .slice none 0 0, .pointer (some ⟨b4, 0, none⟩), .pointer (some ⟨b5, 0, none⟩), .pointer (some ⟨b6, 0, none⟩), .slice none 0 0] 71)) := (Tch.refl _ _).alloc _
  have e4 := H4.out.lt
  have e5 := H5.out.lt
  have e6 := H6.out.lt
  refine ⟨w3.heap.size, fun k => ∃ i, newP w3.heap.size F4 F5 F6 i k, rfl, ⟨⟨none, 0, none, none, 0, none, none, 0, none, none, 0, none, b4, b5, b6, []⟩, newP w3.heap.size F4 F5 F6, ⟨fun i => ?_, fun i j k hi hj => ?_, rfl, newL_ok h1 h2⟩, fun _ => Iff.rfl⟩, fun i hi => ?_, ((K4.out.trans K5.out).trans K6.out).trans T⟩
  · match i with
    | 0 => exact ⟨Blk.new w3 _ _, by simp [newP]⟩
    | 1 => exact ⟨Rw.nil _ _ _, by simp [newP]⟩
    | 2 => exact ⟨Rw.nil _ _ _, by simp [newP]⟩
    | 3 => exact ⟨Rw.nil _ _ _, by simp [newP]⟩
    | 4 =>
      have e : newP w3.heap.size F4 F5 F6 4 = F4 := by funext k; simp [newP]
      rw [e]
      exact ⟨[], ((H4.out.keep K5.out (fun _ _ h => h)).keep K6.out (fun _ _ h => h)).keep T (fun _ _ h => h), fun j h0 hj => by simp at hj, List.Perm.refl _⟩
    | 5 =>
      have e : newP w3.heap.size F4 F5 F6 5 = F5 := by funext k; simp [newP]
      rw [e]
      exact (H5.out.keep K6.out (fun _ _ h => h)).keep T (fun _ _ h => h)
    | 6 =>
      have e : newP w3.heap.size F4 F5 F6 6 = F6 := by funext k; simp [newP]
      rw [e]
      exact H6.out.keep T (fun _ _ h => h)
    | 7 => exact ⟨Sl.nil _ _ _, by simp [newP]⟩
    | i + 8 =>
      show ∀ k, ¬ _
      simp [newP]
  · rcases hi with ⟨rfl, hi⟩ | ⟨rfl, hi⟩ | ⟨rfl, hi⟩ | ⟨rfl, hi⟩ <;> rcases hj with ⟨rfl, hj⟩ | ⟨rfl, hj⟩ | ⟨rfl, hj⟩ | ⟨rfl, hj⟩ <;>
      first
      | rfl
      | (exfalso
         try have := e4 _ hi
         try have := e4 _ hj
         try have := e5 _ hi
         try have := e5 _ hj
         try have := e6 _ hi
         try have := e6 _ hj
         try have := L5.out _ hi
         try have := L5.out _ hj
         try have := L6.out _ hi
         try have := L6.out _ hj
         omega)
  · obtain ⟨j, hj⟩ := hi
    rcases hj with ⟨rfl, hj⟩ | ⟨rfl, hj⟩ | ⟨rfl, hj⟩ | ⟨rfl, hj⟩
    · omega
    · exact L4.out _ hj
    · have := L5.out _ hj
      omega
    · have := L6.out _ hj
      omega
section
variable {w : World} {b : Nat} {s : Lp} {F : Nat → Prop}
set_option maxHeartbeats 4000000 in
set_option maxRecDepth 100000 in
theorem loop_task (h : LoopQ w b s F) (kind fn : Int) {ab' : List Int} {off' : List Bool} {x : Int} {en : Nat} (hm : tmakeM s.ab s.off s.token = ((ab', off'), x, en)) (hok : LOk { s with ab := ab', off := off' }) :
    Calls Tryz.prog 60 #[.pointer (some ⟨b, 0, none⟩), .int .i64 kind, .int .i64 fn] w fun e w' => e = .returned (.tuple #[tkv ⟨kind, fn, 0, x⟩, .int .i64 en]) ∧ LoopLeft w w' b F { s with ab := ab', off := off' } := by
  have hA := h.keep ((Tch.refl NoBlk w).alloc (.cells #[.int .i64 0, .int .i64 0, .int .i64 0, .int .i64 0] 35)) (fun _ _ h => h)
  unfold tkv
  have HT := Lib.hid ((Tch.refl NoBlk w).alloc (.cells #[.int .i64 0, .int .i64 0, .int .i64 0, .int .i64 0] 35))
  have hbW : Blk (w.alloc (.cells #[.int .i64 0, .int .i64 0, .int .i64 0, .int .i64 0] 35)) w.heap.size 35 [.int .i64 0, .int .i64 0, .int .i64 0, .int .i64 0] := heap_alloc_new w _
  have hnz : ∀ k, F k → k ≠ w.heap.size := fun k hk => by have := h.lt k hk; omega
  clear h
  go_enter Tryz.func60, Tryz.ntmps60
  go_wp2_with fail
  generalize w.alloc (.cells #[.int .i64 0, .int .i64 0, .int .i64 0, .int .i64 0] 35) = w1 at *
  have hz1 := hbW.lt
  generalize hz : w.heap.size = z at *
  have HZ := Lib.hid hz
  obtain ⟨o, P, H, hF⟩ := hA
  have hb := (H.part 0).1
  have c8 := hb.cellOf 8 _ rfl
  have c2 := hb.cellOf 2 _ rfl
  have hq : CanQ w1.drew o.k s.ab s.off (P 6) := CanQ.keep (H.part 6) (Tch.refl NoBlk w1).drew (fun _ _ h => h)
  have HQ := Lib.hid hq
  have HH := Lib.hid H
  have HF := Lib.hid hF
  have HM := Lib.hid hm
  have HO := Lib.hid hok
  have HB := Lib.hid hbW
  have HN := Lib.hid hnz
  clear hz hq H hF hm hok hb hbW hnz
  go_region_law (go_simp; go_at_call 87; refine (can_make o.k s.ab s.off (P 6) s.token _ HQ.out).mono ?_; rw [HM.out]; rintro e w2 ⟨rfl, hc2⟩; have HC := Lib.hid hc2; clear hc2)
  all_goals
    obtain ⟨hT2, F2, hq2, hF2⟩ := HC.out
    have T12 : Tch (P 6) w1 w2 := ((Tch.refl _ w1).drew).trans hT2
    have hb2 := HB.out.keep T12 (fun e => HN.out z ((HF.out z).2 ⟨6, e⟩) rfl)
    have k0 := hb2.cellOf 0 _ rfl
    have k1 := hb2.cellOf 1 _ rfl
    have k2 := hb2.cellOf 2 _ rfl
    have k3 := hb2.cellOf 3 _ rfl
    have f0 := hb2.free 0
    have f1 := hb2.free 1
    have f2 := hb2.free 2
    have f3 := hb2.free 3
    have HL : Hid (LoopLeft w1 w2 b F { s with ab := ab', off := off' }) := Lib.hid (HH.out.one HF.out 6 (by decide) (o' := o) (F' := F2) T12 rfl hq2 (fun k hk => hF2 k hk) (fun i hi0 hi1 hp => by
      match i, hi0, hi1, hp with
      | 1, _, _, hp => exact hp
      | 2, _, _, hp => exact hp
      | 3, _, _, hp => exact hp
      | 4, _, _, hp => exact hp
      | 5, _, _, hp => exact hp
      | 7, _, _, hp => exact hp
      | i + 8, _, _, hp => exact hp) HH.out.sb HO.out)
    have HB2 := Lib.hid hb2
    have HZ1 := Lib.hid hz1
    clear hT2 hq2 hF2 T12 hb2 HC c8 c2 hz1
    go_wp2
    have T3 : Tch (· = z) w2 ((((w2.setCell ⟨z, 0, none⟩ (.int .i64 kind)).setCell ⟨z, 1, none⟩ (.int .i64 fn)).setCell ⟨z, 2, none⟩ (.int .i64 0)).setCell ⟨z, 3, none⟩ (.int .i64 x)) :=
      ((((Tch.refl (· = z) w2).setCell (p := ⟨z, 0, none⟩) (fun _ => rfl) _).setCell (p := ⟨z, 1, none⟩) (fun _ => rfl) _).setCell (p := ⟨z, 2, none⟩) (fun _ => rfl) _).setCell (p := ⟨z, 3, none⟩) (fun _ => rfl) _
    have hB3 : Blk ((((w2.setCell ⟨z, 0, none⟩ (.int .i64 kind)).setCell ⟨z, 1, none⟩ (.int .i64 fn)).setCell ⟨z, 2, none⟩ (.int .i64 0)).setCell ⟨z, 3, none⟩ (.int .i64 x)) z 35 (tkl ⟨kind, fn, 0, x⟩) := (((HB2.out.set 0 _).set 1 _).set 2 _).set 3 _
    (try simp only [Exit.inBlock, Exit.then])
    refine bodyPost_ret (ret_tk rfl _ _ z ⟨kind, fn, 0, x⟩ rfl hB3) rfl ?_
    refine ⟨rfl, ?_⟩
    obtain ⟨l1, F3, l2, l3⟩ := HL.out
    have hz := HZ.out
    have hT := HT.out
    have hn3 : ∀ k, F3 k → k ≠ z := fun k hk e => by
      rcases l3 k hk with e2 | e2
      · exact HN.out k e2 e
      · have := HZ1.out
        omega
    refine ⟨((hT.mono (fun _ _ e => e.elim)).trans l1).then T3 (fun k hk e => by omega), F3, l2.keep T3 hn3, fun k hk => (l3 k hk).imp_right (fun e => Nat.le_trans hT.size e)⟩
end
end Go.Proofs.YtipbimbnpikbcaaGreat

/- A new task is put into a row: adds, Spawn, Micro. -/
namespace Go.Proofs.YtipbimbnpikbcaaGreat
open Go.RowKit

section
/-- One behind the other. -/
theorem LoopLeft.comp {w w2 w4 : World} {b : Nat} {F F2 : Nat → Prop} {s : Lp} (h1 : Tch F w w2) (h2 : ∀ k, F2 k → F k ∨ w.heap.size ≤ k) (k : LoopLeft w2 w4 b F2 s) : LoopLeft w w4 b F s := by
  obtain ⟨k1, F4, k2, k3⟩ := k
  refine ⟨h1.then k1 (fun i hi hF => (h2 i hF).elim id (fun e => by omega)), F4, k2, fun i hi => ?_⟩
  rcases k3 i hi with e | e
  · exact h2 i e
  · exact .inr (Nat.le_trans h1.size e)
variable {w : World} {b : Nat} {s : Lp} {F : Nat → Prop}
theorem loop_adds_yes (h : LoopQ w b s F) (q : Nat) (kind fn : Int) (R : Lp) (hl : s.ab.length < 1024)
    (hput : ∀ w2 F2, LoopQ w2 b (moreL s) F2 → Calls Tryz.prog 55 #[.pointer (some ⟨b, q, none⟩), tkv ⟨kind, fn, 0, s.ab.length⟩] w2 fun e w' => e = .returned (.tuple #[]) ∧ LoopLeft w2 w' b F2 R) :
    Calls Tryz.prog 50 #[.pointer (some ⟨b, 0, none⟩), .pointer (some ⟨b, q, none⟩), .int .i64 kind, .int .i64 fn] w fun e w' => e = .returned (.tuple #[.int .i64 s.ab.length, .int .i64 0]) ∧ LoopLeft w w' b F R := by
  have hm := tmakeM_tok h.ok hl
  have hok := h.ok.more hl
  have HQ := Lib.hid h
  have HP := Lib.hid hput
  have HM := Lib.hid hm
  have HO := Lib.hid hok
  clear h hput hm hok hl
  generalize hn : s.ab.length = n at *
  go_enter Tryz.func50, Tryz.ntmps50
  go_wp2_with fail
  refine (loop_task HQ.out kind fn HM.out HO.out).mono ?_
  rintro e w2 ⟨rfl, h2⟩
  obtain ⟨t1, F2, q2, l2⟩ := h2
  have T1 := Lib.hid t1
  have L2 := Lib.hid l2
  have Q2 := Lib.hid q2
  unfold tkv at *
  clear t1 q2 l2 HM HO
  go_wp2_with fail
  have TA := (Tch.refl NoBlk w2).alloc (.cells #[.int .i64 kind, .int .i64 fn, .int .i64 0, .int .i64 n] 35)
  have hbW : Blk (w2.alloc (.cells #[.int .i64 kind, .int .i64 fn, .int .i64 0, .int .i64 n] 35)) w2.heap.size 35 [.int .i64 kind, .int .i64 fn, .int .i64 0, .int .i64 n] := heap_alloc_new w2 _
  have q3 := Q2.out.keep TA (fun _ _ h => h)
  have hnz : ∀ k, F2 k → k ≠ w2.heap.size := fun k hk => by have := Q2.out.lt k hk; omega
  generalize w2.alloc (.cells #[.int .i64 kind, .int .i64 fn, .int .i64 0, .int .i64 n] 35) = w3 at *
  generalize w2.heap.size = z at *
  refine (HP.out w3 F2 q3).mono ?_
  rintro e w4 ⟨rfl, h4⟩
  have hb4 := hbW.keep h4.1 (fun e => hnz z e rfl)
  have c3 := hb4.cellOf 3 _ rfl
  have HL : Hid (LoopLeft w w4 b F R) := Lib.hid (LoopLeft.comp T1.out L2.out (h4.ahead TA))
  clear h4 hb4 hbW q3 hnz TA
  go_wp2
  go_ret2
  exact ⟨rfl, HL.out⟩
theorem loop_adds_no (h : LoopQ w b s F) (q : Nat) (kind fn : Int) (hl : 1024 ≤ s.ab.length) :
    Calls Tryz.prog 50 #[.pointer (some ⟨b, 0, none⟩), .pointer (some ⟨b, q, none⟩), .int .i64 kind, .int .i64 fn] w fun e w' => e = .returned (.tuple #[.int .i64 0, .int .i64 3]) ∧ LoopLeft w w' b F s := by
  have hm := tmakeM_full h.ok hl
  have hok := h.ok
  have HQ := Lib.hid h
  have HM := Lib.hid hm
  have HO := Lib.hid hok
  clear h hm hok hl
  go_enter Tryz.func50, Tryz.ntmps50
  go_wp2_with fail
  refine (loop_task HQ.out kind fn HM.out HO.out).mono ?_
  rintro e w2 ⟨rfl, h2⟩
  have H2 : Hid (LoopLeft w w2 b F s) := Lib.hid h2
  unfold tkv at *
  clear h2 HM HO
  go_wp2
  go_ret2
  exact ⟨rfl, H2.out.then ((Tch.refl NoBlk w2).alloc _)⟩
end
end Go.Proofs.YtipbimbnpikbcaaGreat

/- Spawn, Micro, Resume, Cancel, Promise, Waits, Due. -/
namespace Go.Proofs.YtipbimbnpikbcaaGreat
open Go.RowKit

theorem tokOk_more {s : Lp} {k f a : Int} : TokOk (moreL s).ab (⟨k, f, a, s.ab.length⟩ : Tk).tok := by
  refine .inr ⟨by simp, ?_⟩
  simp [moreL]
  omega
/-- How many timers wait. -/
theorem tms_len {w : World} {t : Nat} {n : Int} {L : List Tm} {F : Nat → Prop} (h : ∃ h, TimersQ w t h n F ∧ IsHeap h ∧ h.Perm L) {w' : World} (ht : Tch NoBlk w w') :
    Calls Tryz.prog 47 #[.pointer (some ⟨t, 0, none⟩)] w' fun e w2 => e = .returned (.int .i64 L.length) ∧ w2 = w' := by
  obtain ⟨hh, h1, h2, h3⟩ := h
  rw [← h3.length_eq]
  exact timer_len t hh n F _ (h1.keep ht (fun _ _ h => h))
section
variable {w : World} {b : Nat} {s : Lp} {F : Nat → Prop}
theorem loop_spawn (h : LoopQ w b s F) (fn : Int) (hn : s.mac.length < 1000000) :
    Calls Tryz.prog 15 #[.pointer (some ⟨b, 0, none⟩), .int .i64 fn] w fun e w' => e = .returned (.tuple #[.int .i64 (spawnL s fn).2.1, .int .i64 (spawnL s fn).2.2]) ∧ LoopLeft w w' b F (spawnL s fn).1 := by
  have HQ := Lib.hid h
  have HN := Lib.hid hn
  clear h hn
  unfold spawnL
  by_cases hl : 1024 ≤ s.ab.length
  · rw [if_pos hl]
    have HL := Lib.hid hl
    clear hl
    go_enter Tryz.func15, Tryz.ntmps15
    go_wp2_with fail
    refine (loop_adds_no HQ.out 3 1 fn HL.out).mono ?_
    rintro e w2 ⟨rfl, h2⟩
    go_wp2
    go_ret2
    exact ⟨rfl, h2⟩
  · rw [if_neg hl]
    have HL := Lib.hid (show s.ab.length < 1024 by omega)
    clear hl
    go_enter Tryz.func15, Tryz.ntmps15
    go_wp2_with fail
    refine (loop_adds_yes HQ.out 3 1 fn (macL (moreL s) ⟨1, fn, 0, s.ab.length⟩) HL.out (fun w2 F2 q2 => loop_put_mac q2 _ tokOk_more HN.out)).mono ?_
    rintro e w2 ⟨rfl, h2⟩
    go_wp2
    go_ret2
    exact ⟨rfl, h2⟩
theorem loop_micro (h : LoopQ w b s F) (fn : Int) (hn : s.mic.length < 1000000) :
    Calls Tryz.prog 16 #[.pointer (some ⟨b, 0, none⟩), .int .i64 fn] w fun e w' => e = .returned (.tuple #[.int .i64 (microL s fn).2.1, .int .i64 (microL s fn).2.2]) ∧ LoopLeft w w' b F (microL s fn).1 := by
  have HQ := Lib.hid h
  have HN := Lib.hid hn
  clear h hn
  unfold microL
  by_cases hl : 1024 ≤ s.ab.length
  · rw [if_pos hl]
    have HL := Lib.hid hl
    clear hl
    go_enter Tryz.func16, Tryz.ntmps16
    go_wp2_with fail
    refine (loop_adds_no HQ.out 4 2 fn HL.out).mono ?_
    rintro e w2 ⟨rfl, h2⟩
    go_wp2
    go_ret2
    exact ⟨rfl, h2⟩
  · rw [if_neg hl]
    have HL := Lib.hid (show s.ab.length < 1024 by omega)
    clear hl
    go_enter Tryz.func16, Tryz.ntmps16
    go_wp2_with fail
    refine (loop_adds_yes HQ.out 4 2 fn (micL (moreL s) ⟨2, fn, 0, s.ab.length⟩) HL.out (fun w2 F2 q2 => loop_put_mic q2 _ tokOk_more HN.out)).mono ?_
    rintro e w2 ⟨rfl, h2⟩
    go_wp2
    go_ret2
    exact ⟨rfl, h2⟩
theorem loop_cancel (h : LoopQ w b s F) (id : Int) :
    Calls Tryz.prog 17 #[.pointer (some ⟨b, 0, none⟩), .int .i64 id] w fun e w' => e = .returned (.int .i64 (cancelL s id).2) ∧ LoopLeft w w' b F (cancelL s id).1 := by
  obtain ⟨o, P, H, hF⟩ := h
  have hb := (H.part 0).1
  have c8 := hb.cellOf 8 _ rfl
  have HH := Lib.hid H
  have HF := Lib.hid hF
  clear H hF hb
  go_enter Tryz.func17, Tryz.ntmps17
  go_wp2_with fail
  refine (can_cancel o.k s.ab s.off (P 6) id w (HH.out.part 6)).mono ?_
  rintro e w2 ⟨⟨A, c, G, rfl, _, _⟩, hT, hq⟩
  have HL : Hid (LoopLeft w w2 b F (cancelL s id).1) := Lib.hid (HH.out.one HF.out 6 (by decide) (o' := o) (F' := P 6) hT rfl hq (fun k hk => .inl hk) (fun i hi0 hi1 hp => by
    match i, hi0, hi1, hp with
    | 1, _, _, hp => exact hp
    | 2, _, _, hp => exact hp
    | 3, _, _, hp => exact hp
    | 4, _, _, hp => exact hp
    | 5, _, _, hp => exact hp
    | 7, _, _, hp => exact hp
    | i + 8, _, _, hp => exact hp) HH.out.sb (HH.out.ok.cancel id))
  unfold cancelL at *
  clear hT hq
  go_wp2
  go_ret
  exact ⟨rfl, HL.out⟩
theorem loop_promise (h : LoopQ w b s F) :
    Calls Tryz.prog 28 #[.pointer (some ⟨b, 0, none⟩)] w fun e w' => e = .returned (.tuple #[.int .i64 (promiseL s).2.1, .int .i64 (promiseL s).2.2]) ∧ LoopLeft w w' b F (promiseL s).1 := by
  obtain ⟨o, P, H, hF⟩ := h
  have hb := (H.part 0).1
  have c7 := hb.cellOf 7 _ rfl
  have HH := Lib.hid H
  have HF := Lib.hid hF
  clear H hF hb
  go_enter Tryz.func28, Tryz.ntmps28
  go_wp2_with fail
  refine (promise_make o.p s.prs (P 5) w (HH.out.part 5)).mono ?_
  rintro e w2 ⟨rfl, hT, F2, hq, hF2⟩
  have HL : Hid (LoopLeft w w2 b F (promiseL s).1) := Lib.hid (HH.out.one HF.out 5 (by decide) (o' := o) (F' := F2) hT rfl hq hF2 (fun i hi0 hi1 hp => by
    match i, hi0, hi1, hp with
    | 1, _, _, hp => exact hp
    | 2, _, _, hp => exact hp
    | 3, _, _, hp => exact hp
    | 4, _, _, hp => exact hp
    | 6, _, _, hp => exact hp
    | 7, _, _, hp => exact hp
    | i + 8, _, _, hp => exact hp) HH.out.sb HH.out.ok.promise)
  unfold promiseL at *
  clear hT hq
  go_wp2
  go_ret2
  exact ⟨rfl, HL.out⟩
theorem loop_due (h : LoopQ w b s F) :
    Calls Tryz.prog 13 #[.pointer (some ⟨b, 0, none⟩)] w fun e w' => e = .returned (.tuple #[.int .i64 (nextM s.L).1, .bool (nextM s.L).2]) ∧ w' = w := by
  obtain ⟨o, P, H, hF⟩ := h
  have hb := (H.part 0).1
  have c6 := hb.cellOf 6 _ rfl
  have h4 := H.part 4
  have HJ : Hid (TimJ { w with heap := #[] } w o.t s.L s.n (P 4)) := Lib.hid ⟨⟨h4, fun i hi => Nat.zero_le _, ⟨rfl, rfl, rfl, Nat.zero_le _, fun k hk => absurd hk (by simp)⟩⟩, H.ok.row, H.ok.tml⟩
  clear H hF hb h4
  obtain ⟨x, ok, hm⟩ : ∃ x ok, nextM s.L = (x, ok) := ⟨_, _, rfl⟩
  rw [hm]
  have HM := Lib.hid hm
  clear hm
  go_enter Tryz.func13, Tryz.ntmps13
  go_wp2_with fail
  refine (tmj_next HJ.out _ _ HM.out).mono ?_
  rintro e w2 ⟨rfl, hw⟩
  subst hw
  go_wp2
  go_ret2
  exact ⟨rfl, rfl⟩
theorem loop_waits (h : LoopQ w b s F) :
    Calls Tryz.prog 12 #[.pointer (some ⟨b, 0, none⟩)] w fun e w' => e = .returned (.tuple #[.int .i64 s.mac.length, .int .i64 s.mic.length, .int .i64 s.L.length]) ∧ ∃ n, w' = w.drewN n := by
  obtain ⟨o, P, H, hF⟩ := h
  have hb := (H.part 0).1
  have c6 := hb.cellOf 6 _ rfl
  have c3 := hb.cellOf 3 _ rfl
  have c4 := hb.cellOf 4 _ rfl
  have h4 := H.part 4
  have HJ : Hid (∃ h, TimersQ w o.t h s.n (P 4) ∧ IsHeap h ∧ h.Perm s.L) := Lib.hid h4
  clear H hF hb h4
  go_enter Tryz.func12, Tryz.ntmps12
  go_wp2_with fail
  go_quiet ((go_at_call 47; exact Calls.quiet_of_same (tms_len HJ.out ((Tch.refl NoBlk _).drewN _))))
  go_wp2
  go_ret3
  exact ⟨rfl, _, rfl⟩
end
end Go.Proofs.YtipbimbnpikbcaaGreat

/- off, turn, Resume. -/
namespace Go.Proofs.YtipbimbnpikbcaaGreat
open Go.RowKit

section
variable {w : World} {b : Nat} {s : Lp} {F : Nat → Prop}
theorem loop_off (h : LoopQ w b s F) (t : Tk) :
    Calls Tryz.prog 22 #[.pointer (some ⟨b, 0, none⟩), tkv t] w fun e w' => e = .returned (.bool (toffM s.off t.tok)) ∧ Tch NoBlk w w' := by
  obtain ⟨kd, f, a, tok⟩ := t
  unfold tkv
  have TA := (Tch.refl NoBlk w).alloc (.cells #[.int .i64 kd, .int .i64 f, .int .i64 a, .int .i64 tok] 35)
  have h1 := h.keep TA (fun _ _ h => h)
  have hbW : Blk (w.alloc (.cells #[.int .i64 kd, .int .i64 f, .int .i64 a, .int .i64 tok] 35)) w.heap.size 35 [.int .i64 kd, .int .i64 f, .int .i64 a, .int .i64 tok] := heap_alloc_new w _
  have HT := Lib.hid TA
  clear h TA
  go_enter Tryz.func22, Tryz.ntmps22
  go_wp2_with fail
  generalize w.alloc (.cells #[.int .i64 kd, .int .i64 f, .int .i64 a, .int .i64 tok] 35) = w1 at *
  generalize w.heap.size = z at *
  obtain ⟨o, P, H, hF⟩ := h1
  have hb := (H.part 0).1
  have c8 := hb.cellOf 8 _ rfl
  have l3 := hbW.cellOf 3 _ rfl
  have HQ : Hid (CanQ w1 o.k s.ab s.off (P 6)) := Lib.hid (H.part 6)
  clear H hF hb hbW
  go_quiet ((go_at_call 52; exact Calls.quiet_of_same (can_off o.k s.ab s.off (P 6) tok _ (HQ.out.keep ((Tch.refl NoBlk _).drewN _) (fun _ _ h => h)))))
  go_wp2
  go_ret
  exact ⟨rfl, HT.out.trans ((Tch.refl NoBlk _).drewN _)⟩
set_option maxHeartbeats 4000000 in
set_option maxRecDepth 100000 in
theorem loop_resume (h : LoopQ w b s F) (fn : Int) (hn : s.mac.length < 1000000) :
    Calls Tryz.prog 27 #[.pointer (some ⟨b, 0, none⟩), .int .i64 fn] w fun e w' => e = .returned (.int .i64 0) ∧ LoopLeft w w' b F (resumeL s fn) := by
  have HQ : Hid (LoopQ w.drew b s F) := Lib.hid (h.keep (Tch.refl NoBlk w).drew (fun _ _ h => h))
  have HN := Lib.hid hn
  have HO := Lib.hid h.ok.tok
  obtain ⟨o, P, H, hF⟩ := h
  have hb := (H.part 0).1
  have c2 := hb.cellOf 2 _ rfl
  clear H hF hb hn
  go_enter Tryz.func27, Tryz.ntmps27
  go_wp2_with fail
  go_region_law (go_simp; go_at_call 55; refine (loop_put_mac HQ.out ⟨5, fn, 0, s.token⟩ HO.out HN.out).mono ?_; rintro e w2 ⟨rfl, h2⟩; have H2 := Lib.hid h2; clear h2)
  all_goals
    go_wp2
    go_ret
    exact ⟨rfl, H2.out.ahead (Tch.refl NoBlk w).drew⟩
set_option maxHeartbeats 4000000 in
set_option maxRecDepth 100000 in
theorem loop_turn (h : LoopQ w b s F) (t : Tk) (k : Nat) (ht : TokOk s.ab t.tok) (hk : k ≤ 64) :
    Calls Tryz.prog 23 #[.pointer (some ⟨b, 0, none⟩), tkv t, .int .i64 k] w fun e w' => e = .returned (.tuple #[tkv t, .bool true]) ∧ LoopLeft w w' b F (turnL s t k) := by
  obtain ⟨kd, f, a, tok⟩ := t
  unfold tkv
  go_enter Tryz.func23, Tryz.ntmps23
  go_wp2_with fail
  have TA := ((Tch.refl NoBlk w).alloc (.cells #[.int .i64 kd, .int .i64 f, .int .i64 a, .int .i64 tok] 35)).alloc (.cells #[.int .i64 0, .int .i64 0, .int .i64 0, .int .i64 0] 35)
  have hb1 : Blk ((w.alloc (.cells #[.int .i64 kd, .int .i64 f, .int .i64 a, .int .i64 tok] 35)).alloc (.cells #[.int .i64 0, .int .i64 0, .int .i64 0, .int .i64 0] 35)) w.heap.size 35 [.int .i64 kd, .int .i64 f, .int .i64 a, .int .i64 tok] := Blk.alloc (heap_alloc_new w _) _
  have hb2 : Blk ((w.alloc (.cells #[.int .i64 kd, .int .i64 f, .int .i64 a, .int .i64 tok] 35)).alloc (.cells #[.int .i64 0, .int .i64 0, .int .i64 0, .int .i64 0] 35)) (w.heap.size + 1) 35 [.int .i64 0, .int .i64 0, .int .i64 0, .int .i64 0] := by
    have := heap_alloc_new (w.alloc (.cells #[.int .i64 kd, .int .i64 f, .int .i64 a, .int .i64 tok] 35)) (.cells #[.int .i64 0, .int .i64 0, .int .i64 0, .int .i64 0] 35)
    rw [World.size_alloc] at this
    exact this
  have hq := h.keep TA (fun _ _ h => h)
  have hlt := h.lt
  clear h
  generalize (w.alloc (.cells #[.int .i64 kd, .int .i64 f, .int .i64 a, .int .i64 tok] 35)).alloc (.cells #[.int .i64 0, .int .i64 0, .int .i64 0, .int .i64 0] 35) = w1 at *
  have hn1 : ¬ F w.heap.size := fun e => by have := hlt _ e; omega
  have hn2 : ¬ F (w.heap.size + 1) := fun e => by have := hlt _ e; omega
  have n12 : w.heap.size ≠ w.heap.size + 1 := by omega
  have hsz := TA.size
  generalize hz2 : w.heap.size + 1 = z2 at *
  generalize hz1 : w.heap.size = z1 at *
  have HZ2 := Lib.hid hz2
  have HZ1 := Lib.hid hz1
  have HS2 := Lib.hid hb2.lt
  clear hz1 hz2
  obtain ⟨o, P, H, hF⟩ := hq
  have hb := (H.part 0).1
  have n1 : z1 ≠ b := fun e => hn1 (e ▸ (hF b).2 ⟨0, ((H.part 0).2 b).2 rfl⟩)
  have n2 : z2 ≠ b := fun e => hn2 (e ▸ (hF b).2 ⟨0, ((H.part 0).2 b).2 rfl⟩)
  have c1 := hb.cellOf 1 _ rfl
  have c2 := hb.cellOf 2 _ rfl
  have f1 := hb.free 1
  have f2 := hb.free 2
  have l3 := hb1.cellOf 3 _ rfl
  have l3a : ∀ v, (w1.setCell ⟨b, 1, none⟩ v).cell? ⟨z1, 3, none⟩ = some (.int .i64 tok) := fun v => (hb1.keep ((Tch.refl (· = b) w1).setCell (p := ⟨b, 1, none⟩) (fun _ => rfl) v) n1).cellOf 3 _ rfl
  have HB := Lib.hid hb
  have H1 := Lib.hid hb1
  have H2 := Lib.hid hb2
  have HH := Lib.hid H
  have HF := Lib.hid hF
  have HT := Lib.hid TA
  have HO := Lib.hid ht
  have HN2 := Lib.hid hn2
  have HLT := Lib.hid hlt
  have HK := Lib.hid hk
  clear hb hb1 hb2 H hF TA ht hlt hn1 hn2 hk
  go_region
  all_goals
    have T1 : Tch (· = b) w1 ((w1.setCell ⟨b, 1, none⟩ (.int .i64 k)).setCell ⟨b, 2, none⟩ (.int .i64 tok)) := ((Tch.refl (· = b) w1).setCell (p := ⟨b, 1, none⟩) (fun _ => rfl) _).setCell (p := ⟨b, 2, none⟩) (fun _ => rfl) _
    have hb3 := (HB.out.set 1 (.int .i64 k)).set 2 (.int .i64 tok)
    have HL : Hid (LoopLeft w1 ((w1.setCell ⟨b, 1, none⟩ (.int .i64 k)).setCell ⟨b, 2, none⟩ (.int .i64 tok)) b F (turnL s ⟨kd, f, a, tok⟩ k)) := Lib.hid (HH.out.own HF.out T1 (s' := turnL s ⟨kd, f, a, tok⟩ k) hb3 (fun i hi0 hp => by
      match i, hi0, hp with
      | 1, _, hp => exact hp
      | 2, _, hp => exact hp
      | 3, _, hp => exact hp
      | 4, _, hp => exact hp
      | 5, _, hp => exact hp
      | 6, _, hp => exact hp
      | 7, _, hp => exact hp
      | i + 8, _, hp => exact hp) HH.out.sb (HH.out.ok.turn HO.out HK.out))
    have hq1 := H1.out.keep T1 n1
    have hq2 := H2.out.keep T1 n2
    clear T1 hb3 HB H1 H2 c1 c2 f1 f2 l3 l3a
    generalize (w1.setCell ⟨b, 1, none⟩ (.int .i64 k)).setCell ⟨b, 2, none⟩ (.int .i64 tok) = w2 at *
    have l0 := hq1.cellOf 0 _ rfl
    have l1 := hq1.cellOf 1 _ rfl
    have l2 := hq1.cellOf 2 _ rfl
    have l3 := hq1.cellOf 3 _ rfl
    have g0 := hq2.cellOf 0 _ rfl
    have g1 := hq2.cellOf 1 _ rfl
    have g2 := hq2.cellOf 2 _ rfl
    have g3 := hq2.cellOf 3 _ rfl
    have e0 := hq2.free 0
    have e1 := hq2.free 1
    have e2 := hq2.free 2
    have e3 := hq2.free 3
    have HQ2 := Lib.hid hq2
    clear hq1 hq2
    go_wp2
    (try simp only [Exit.inBlock, Exit.then])
    refine bodyPost_ret (ret_tk rfl _ _ z2 ⟨kd, f, a, tok⟩ rfl (blk_put4 HQ2.out kd f a tok)) rfl ?_
    have h1 := HZ1.out
    have h2 := HZ2.out
    exact ⟨rfl, (left_put4 HL.out HT.out (by omega) HS2.out (fun k hk => by have := HLT.out k hk; omega) kd f a tok).then (Tch.refl NoBlk _).drew⟩
end
end Go.Proofs.YtipbimbnpikbcaaGreat
