/- Spawn, Micro, Resume, Cancel, Promise, Waits, Due. -/
import Derived.Test.YtipbimbnpikbcaaLoopAdds
namespace Go.Proofs.Ytipbimbnpikbcaa
open Go.RowKit

theorem tokOk_more {s : Lp} {k f a : Int} : TokOk (moreL s).ab (⟨k, f, a, s.ab.length⟩ : Tk).tok := by
  refine .inr ⟨by simp, ?_⟩
  simp [moreL]
  omega
/-- How many timers wait. -/
theorem tms_len {w : World} {t : Nat} {n : Int} {L : List Tm} {F : Nat → Prop} (h : ∃ h, TimersQ w t h n F ∧ IsHeap h ∧ h.Perm L) {w' : World} (ht : Tch NoBlk w w') :
    Calls Try.prog 33 #[.pointer (some ⟨t, 0, none⟩)] w' fun e w2 => e = .returned (.int .i64 L.length) ∧ w2 = w' := by
  obtain ⟨hh, h1, h2, h3⟩ := h
  rw [← h3.length_eq]
  exact timer_len t hh n F _ (h1.keep ht (fun _ _ h => h))
section
variable {w : World} {b : Nat} {s : Lp} {F : Nat → Prop}
theorem loop_spawn (h : LoopQ w b s F) (fn : Int) (hn : s.mac.length < 1000000) :
    Calls Try.prog 13 #[.pointer (some ⟨b, 0, none⟩), .int .i64 fn] w fun e w' => e = .returned (.tuple #[.int .i64 (spawnL s fn).2.1, .int .i64 (spawnL s fn).2.2]) ∧ LoopLeft w w' b F (spawnL s fn).1 := by
  have HQ := Lib.hid h
  have HN := Lib.hid hn
  clear h hn
  unfold spawnL
  by_cases hl : 1024 ≤ s.ab.length
  · rw [if_pos hl]
    have HL := Lib.hid hl
    clear hl
    go_enter Try.func13, Try.ntmps13
    go_wp2_with fail
    refine (loop_adds_no HQ.out 3 1 fn HL.out).mono ?_
    rintro e w2 ⟨rfl, h2⟩
    go_wp2
    go_ret2
    exact ⟨rfl, h2⟩
  · rw [if_neg hl]
    have HL := Lib.hid (show s.ab.length < 1024 by omega)
    clear hl
    go_enter Try.func13, Try.ntmps13
    go_wp2_with fail
    refine (loop_adds_yes HQ.out 3 1 fn (macL (moreL s) ⟨1, fn, 0, s.ab.length⟩) HL.out (fun w2 F2 q2 => loop_put_mac q2 _ tokOk_more HN.out)).mono ?_
    rintro e w2 ⟨rfl, h2⟩
    go_wp2
    go_ret2
    exact ⟨rfl, h2⟩
theorem loop_micro (h : LoopQ w b s F) (fn : Int) (hn : s.mic.length < 1000000) :
    Calls Try.prog 14 #[.pointer (some ⟨b, 0, none⟩), .int .i64 fn] w fun e w' => e = .returned (.tuple #[.int .i64 (microL s fn).2.1, .int .i64 (microL s fn).2.2]) ∧ LoopLeft w w' b F (microL s fn).1 := by
  have HQ := Lib.hid h
  have HN := Lib.hid hn
  clear h hn
  unfold microL
  by_cases hl : 1024 ≤ s.ab.length
  · rw [if_pos hl]
    have HL := Lib.hid hl
    clear hl
    go_enter Try.func14, Try.ntmps14
    go_wp2_with fail
    refine (loop_adds_no HQ.out 4 2 fn HL.out).mono ?_
    rintro e w2 ⟨rfl, h2⟩
    go_wp2
    go_ret2
    exact ⟨rfl, h2⟩
  · rw [if_neg hl]
    have HL := Lib.hid (show s.ab.length < 1024 by omega)
    clear hl
    go_enter Try.func14, Try.ntmps14
    go_wp2_with fail
    refine (loop_adds_yes HQ.out 4 2 fn (micL (moreL s) ⟨2, fn, 0, s.ab.length⟩) HL.out (fun w2 F2 q2 => loop_put_mic q2 _ tokOk_more HN.out)).mono ?_
    rintro e w2 ⟨rfl, h2⟩
    go_wp2
    go_ret2
    exact ⟨rfl, h2⟩
theorem loop_cancel (h : LoopQ w b s F) (id : Int) :
    Calls Try.prog 25 #[.pointer (some ⟨b, 0, none⟩), .int .i64 id] w fun e w' => e = .returned (.int .i64 (cancelL s id).2) ∧ LoopLeft w w' b F (cancelL s id).1 := by
  obtain ⟨o, P, H, hF⟩ := h
  have hb := (H.part 0).1
  have c8 := hb.cellOf 8 _ rfl
  have HH := Lib.hid H
  have HF := Lib.hid hF
  clear H hF hb
  go_enter Try.func25, Try.ntmps25
  go_wp2_with fail
  refine (can_cancel o.k s.ab s.off (P 6) id w (HH.out.part 6)).mono ?_
  rintro e w2 ⟨⟨A, c, G, rfl, _, _⟩, hT, hq⟩
  have HL : Hid (LoopLeft w w2 b F (cancelL s id).1) := Lib.hid (HH.out.one HF.out 6 (by decide) (o' := o) (F' := P 6) hT rfl hq (fun k hk => .inl hk) (fun i hi0 hi1 hp => by
    match i, hi0, hi1, hp with
    | 1, _, _, hp => exact hp
    | 2, _, _, hp => exact hp
    | 3, _, _, hp => exact hp
    | 4, _, _, hp => exact hp
    | 5, _, _, hp => exact hp
    | 7, _, _, hp => exact hp
    | i + 8, _, _, hp => exact hp) HH.out.sb (HH.out.ok.cancel id))
  unfold cancelL at *
  clear hT hq
  go_wp2
  go_ret
  exact ⟨rfl, HL.out⟩
theorem loop_promise (h : LoopQ w b s F) :
    Calls Try.prog 16 #[.pointer (some ⟨b, 0, none⟩)] w fun e w' => e = .returned (.tuple #[.int .i64 (promiseL s).2.1, .int .i64 (promiseL s).2.2]) ∧ LoopLeft w w' b F (promiseL s).1 := by
  obtain ⟨o, P, H, hF⟩ := h
  have hb := (H.part 0).1
  have c7 := hb.cellOf 7 _ rfl
  have HH := Lib.hid H
  have HF := Lib.hid hF
  clear H hF hb
  go_enter Try.func16, Try.ntmps16
  go_wp2_with fail
  refine (promise_make o.p s.prs (P 5) w (HH.out.part 5)).mono ?_
  rintro e w2 ⟨rfl, hT, F2, hq, hF2⟩
  have HL : Hid (LoopLeft w w2 b F (promiseL s).1) := Lib.hid (HH.out.one HF.out 5 (by decide) (o' := o) (F' := F2) hT rfl hq hF2 (fun i hi0 hi1 hp => by
    match i, hi0, hi1, hp with
    | 1, _, _, hp => exact hp
    | 2, _, _, hp => exact hp
    | 3, _, _, hp => exact hp
    | 4, _, _, hp => exact hp
    | 6, _, _, hp => exact hp
    | 7, _, _, hp => exact hp
    | i + 8, _, _, hp => exact hp) HH.out.sb HH.out.ok.promise)
  unfold promiseL at *
  clear hT hq
  go_wp2
  go_ret2
  exact ⟨rfl, HL.out⟩
theorem loop_due (h : LoopQ w b s F) :
    Calls Try.prog 22 #[.pointer (some ⟨b, 0, none⟩)] w fun e w' => e = .returned (.tuple #[.int .i64 (nextM s.L).1, .bool (nextM s.L).2]) ∧ w' = w := by
  obtain ⟨o, P, H, hF⟩ := h
  have hb := (H.part 0).1
  have c6 := hb.cellOf 6 _ rfl
  have h4 := H.part 4
  have HJ : Hid (TimJ { w with heap := #[] } w o.t s.L s.n (P 4)) := Lib.hid ⟨⟨h4, fun i hi => Nat.zero_le _, ⟨rfl, rfl, rfl, Nat.zero_le _, fun k hk => absurd hk (by simp)⟩⟩, H.ok.row, H.ok.tml⟩
  clear H hF hb h4
  obtain ⟨x, ok, hm⟩ : ∃ x ok, nextM s.L = (x, ok) := ⟨_, _, rfl⟩
  rw [hm]
  have HM := Lib.hid hm
  clear hm
  go_enter Try.func22, Try.ntmps22
  go_wp2_with fail
  refine (tmj_next HJ.out _ _ HM.out).mono ?_
  rintro e w2 ⟨rfl, hw⟩
  subst hw
  go_wp2
  go_ret2
  exact ⟨rfl, rfl⟩
theorem loop_waits (h : LoopQ w b s F) :
    Calls Try.prog 23 #[.pointer (some ⟨b, 0, none⟩)] w fun e w' => e = .returned (.tuple #[.int .i64 s.mac.length, .int .i64 s.mic.length, .int .i64 s.L.length]) ∧ ∃ n, w' = w.drewN n := by
  obtain ⟨o, P, H, hF⟩ := h
  have hb := (H.part 0).1
  have c6 := hb.cellOf 6 _ rfl
  have c3 := hb.cellOf 3 _ rfl
  have c4 := hb.cellOf 4 _ rfl
  have h4 := H.part 4
  have HJ : Hid (∃ h, TimersQ w o.t h s.n (P 4) ∧ IsHeap h ∧ h.Perm s.L) := Lib.hid h4
  clear H hF hb h4
  go_enter Try.func23, Try.ntmps23
  go_wp2_with fail
  go_quiet ((go_at_call 33; exact Calls.quiet_of_same (tms_len HJ.out ((Tch.refl NoBlk _).drewN _))))
  go_wp2
  go_ret3
  exact ⟨rfl, _, rfl⟩
end
end Go.Proofs.Ytipbimbnpikbcaa
