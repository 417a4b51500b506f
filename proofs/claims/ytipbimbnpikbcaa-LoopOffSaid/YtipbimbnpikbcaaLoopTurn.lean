/- off, turn, Resume. -/
import Derived.Test.YtipbimbnpikbcaaLoopAsk
namespace Go.Proofs.Ytipbimbnpikbcaa
open Go.RowKit

section
variable {w : World} {b : Nat} {s : Lp} {F : Nat → Prop}
theorem loop_off (h : LoopQ w b s F) (t : Tk) :
    Calls Try.prog 46 #[.pointer (some ⟨b, 0, none⟩), tkv t] w fun e w' => e = .returned (.bool (toffM s.off t.tok)) ∧ Tch NoBlk w w' := by
  obtain ⟨kd, f, a, tok⟩ := t
  unfold tkv
  have TA := (Tch.refl NoBlk w).alloc (.cells #[.int .i64 kd, .int .i64 f, .int .i64 a, .int .i64 tok] 31)
  have h1 := h.keep TA (fun _ _ h => h)
  have hbW : Blk (w.alloc (.cells #[.int .i64 kd, .int .i64 f, .int .i64 a, .int .i64 tok] 31)) w.heap.size 31 [.int .i64 kd, .int .i64 f, .int .i64 a, .int .i64 tok] := heap_alloc_new w _
  have HT := Lib.hid TA
  clear h TA
  go_enter Try.func46, Try.ntmps46
  go_wp2_with fail
  generalize w.alloc (.cells #[.int .i64 kd, .int .i64 f, .int .i64 a, .int .i64 tok] 31) = w1 at *
  generalize w.heap.size = z at *
  obtain ⟨o, P, H, hF⟩ := h1
  have hb := (H.part 0).1
  have c8 := hb.cellOf 8 _ rfl
  have l3 := hbW.cellOf 3 _ rfl
  have HQ : Hid (CanQ w1 o.k s.ab s.off (P 6)) := Lib.hid (H.part 6)
  clear H hF hb hbW
  go_quiet ((go_at_call 63; exact Calls.quiet_of_same (can_off o.k s.ab s.off (P 6) tok _ (HQ.out.keep ((Tch.refl NoBlk _).drewN _) (fun _ _ h => h)))))
  go_wp2
  go_ret
  exact ⟨rfl, HT.out.trans ((Tch.refl NoBlk _).drewN _)⟩
set_option maxHeartbeats 4000000 in
set_option maxRecDepth 100000 in
theorem loop_resume (h : LoopQ w b s F) (fn : Int) (hn : s.mac.length < 1000000) :
    Calls Try.prog 24 #[.pointer (some ⟨b, 0, none⟩), .int .i64 fn] w fun e w' => e = .returned (.int .i64 0) ∧ LoopLeft w w' b F (resumeL s fn) := by
  have HQ : Hid (LoopQ w.drew b s F) := Lib.hid (h.keep (Tch.refl NoBlk w).drew (fun _ _ h => h))
  have HN := Lib.hid hn
  have HO := Lib.hid h.ok.tok
  obtain ⟨o, P, H, hF⟩ := h
  have hb := (H.part 0).1
  have c2 := hb.cellOf 2 _ rfl
  clear H hF hb hn
  go_enter Try.func24, Try.ntmps24
  go_wp2_with fail
  go_region_law (go_simp; go_at_call 31; refine (loop_put_mac HQ.out ⟨5, fn, 0, s.token⟩ HO.out HN.out).mono ?_; rintro e w2 ⟨rfl, h2⟩; have H2 := Lib.hid h2; clear h2)
  all_goals
    go_wp2
    go_ret
    exact ⟨rfl, H2.out.ahead (Tch.refl NoBlk w).drew⟩
set_option maxHeartbeats 4000000 in
set_option maxRecDepth 100000 in
theorem loop_turn (h : LoopQ w b s F) (t : Tk) (k : Nat) (ht : TokOk s.ab t.tok) (hk : k ≤ 64) :
    Calls Try.prog 47 #[.pointer (some ⟨b, 0, none⟩), tkv t, .int .i64 k] w fun e w' => e = .returned (.tuple #[tkv t, .bool true]) ∧ LoopLeft w w' b F (turnL s t k) := by
  obtain ⟨kd, f, a, tok⟩ := t
  unfold tkv
  go_enter Try.func47, Try.ntmps47
  go_wp2_with fail
  have TA := ((Tch.refl NoBlk w).alloc (.cells #[.int .i64 kd, .int .i64 f, .int .i64 a, .int .i64 tok] 31)).alloc (.cells #[.int .i64 0, .int .i64 0, .int .i64 0, .int .i64 0] 31)
  have hb1 : Blk ((w.alloc (.cells #[.int .i64 kd, .int .i64 f, .int .i64 a, .int .i64 tok] 31)).alloc (.cells #[.int .i64 0, .int .i64 0, .int .i64 0, .int .i64 0] 31)) w.heap.size 31 [.int .i64 kd, .int .i64 f, .int .i64 a, .int .i64 tok] := Blk.alloc (heap_alloc_new w _) _
  have hb2 : Blk ((w.alloc (.cells #[.int .i64 kd, .int .i64 f, .int .i64 a, .int .i64 tok] 31)).alloc (.cells #[.int .i64 0, .int .i64 0, .int .i64 0, .int .i64 0] 31)) (w.heap.size + 1) 31 [.int .i64 0, .int .i64 0, .int .i64 0, .int .i64 0] := by
    have := heap_alloc_new (w.alloc (.cells #[.int .i64 kd, .int .i64 f, .int .i64 a, .int .i64 tok] 31)) (.cells #[.int .i64 0, .int .i64 0, .int .i64 0, .int .i64 0] 31)
    rw [World.size_alloc] at this
    exact this
  have hq := h.keep TA (fun _ _ h => h)
  have hlt := h.lt
  clear h
  generalize (w.alloc (.cells #[.int .i64 kd, .int .i64 f, .int .i64 a, .int .i64 tok] 31)).alloc (.cells #[.int .i64 0, .int .i64 0, .int .i64 0, .int .i64 0] 31) = w1 at *
  have hn1 : ¬ F w.heap.size := fun e => by have := hlt _ e; omega
  have hn2 : ¬ F (w.heap.size + 1) := fun e => by have := hlt _ e; omega
  have n12 : w.heap.size ≠ w.heap.size + 1 := by omega
  have hsz := TA.size
  generalize hz2 : w.heap.size + 1 = z2 at *
  generalize hz1 : w.heap.size = z1 at *
  have HZ2 := Lib.hid hz2
  have HZ1 := Lib.hid hz1
  have HS2 := Lib.hid hb2.lt
  clear hz1 hz2
  obtain ⟨o, P, H, hF⟩ := hq
  have hb := (H.part 0).1
  have n1 : z1 ≠ b := fun e => hn1 (e ▸ (hF b).2 ⟨0, ((H.part 0).2 b).2 rfl⟩)
  have n2 : z2 ≠ b := fun e => hn2 (e ▸ (hF b).2 ⟨0, ((H.part 0).2 b).2 rfl⟩)
  have c1 := hb.cellOf 1 _ rfl
  have c2 := hb.cellOf 2 _ rfl
  have f1 := hb.free 1
  have f2 := hb.free 2
  have l3 := hb1.cellOf 3 _ rfl
  have l3a : ∀ v, (w1.setCell ⟨b, 1, none⟩ v).cell? ⟨z1, 3, none⟩ = some (.int .i64 tok) := fun v => (hb1.keep ((Tch.refl (· = b) w1).setCell (p := ⟨b, 1, none⟩) (fun _ => rfl) v) n1).cellOf 3 _ rfl
  have HB := Lib.hid hb
  have H1 := Lib.hid hb1
  have H2 := Lib.hid hb2
  have HH := Lib.hid H
  have HF := Lib.hid hF
  have HT := Lib.hid TA
  have HO := Lib.hid ht
  have HN2 := Lib.hid hn2
  have HLT := Lib.hid hlt
  have HK := Lib.hid hk
  clear hb hb1 hb2 H hF TA ht hlt hn1 hn2 hk
  go_region
  all_goals
    have T1 : Tch (· = b) w1 ((w1.setCell ⟨b, 1, none⟩ (.int .i64 k)).setCell ⟨b, 2, none⟩ (.int .i64 tok)) := ((Tch.refl (· = b) w1).setCell (p := ⟨b, 1, none⟩) (fun _ => rfl) _).setCell (p := ⟨b, 2, none⟩) (fun _ => rfl) _
    have hb3 := (HB.out.set 1 (.int .i64 k)).set 2 (.int .i64 tok)
    have HL : Hid (LoopLeft w1 ((w1.setCell ⟨b, 1, none⟩ (.int .i64 k)).setCell ⟨b, 2, none⟩ (.int .i64 tok)) b F (turnL s ⟨kd, f, a, tok⟩ k)) := Lib.hid (HH.out.own HF.out T1 (s' := turnL s ⟨kd, f, a, tok⟩ k) hb3 (fun i hi0 hp => by
      match i, hi0, hp with
      | 1, _, hp => exact hp
      | 2, _, hp => exact hp
      | 3, _, hp => exact hp
      | 4, _, hp => exact hp
      | 5, _, hp => exact hp
      | 6, _, hp => exact hp
      | 7, _, hp => exact hp
      | i + 8, _, hp => exact hp) HH.out.sb (HH.out.ok.turn HO.out HK.out))
    have hq1 := H1.out.keep T1 n1
    have hq2 := H2.out.keep T1 n2
    clear T1 hb3 HB H1 H2 c1 c2 f1 f2 l3 l3a
    generalize (w1.setCell ⟨b, 1, none⟩ (.int .i64 k)).setCell ⟨b, 2, none⟩ (.int .i64 tok) = w2 at *
    have l0 := hq1.cellOf 0 _ rfl
    have l1 := hq1.cellOf 1 _ rfl
    have l2 := hq1.cellOf 2 _ rfl
    have l3 := hq1.cellOf 3 _ rfl
    have g0 := hq2.cellOf 0 _ rfl
    have g1 := hq2.cellOf 1 _ rfl
    have g2 := hq2.cellOf 2 _ rfl
    have g3 := hq2.cellOf 3 _ rfl
    have e0 := hq2.free 0
    have e1 := hq2.free 1
    have e2 := hq2.free 2
    have e3 := hq2.free 3
    have HQ2 := Lib.hid hq2
    clear hq1 hq2
    go_wp2
    (try simp only [Exit.inBlock, Exit.then])
    refine bodyPost_ret (ret_tk rfl _ _ z2 ⟨kd, f, a, tok⟩ rfl (blk_put4 HQ2.out kd f a tok)) rfl ?_
    have h1 := HZ1.out
    have h2 := HZ2.out
    exact ⟨rfl, (left_put4 HL.out HT.out (by omega) HS2.out (fun k hk => by have := HLT.out k hk; omega) kd f a tok).then (Tch.refl NoBlk _).drew⟩
end
end Go.Proofs.Ytipbimbnpikbcaa
