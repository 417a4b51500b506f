/- A loop is made; a task is made; Spawn, Micro, Resume, Cancel, Promise. -/
import Derived.Test.YtipbimbnpikbcaaLoopRow
namespace Go.Proofs.Ytipbimbnpikbcaa
open Go.RowKit

/-- The parts of a new loop. -/
def newP (bl : Nat) (F4 F5 F6 : Nat → Prop) (i k : Nat) : Prop := (i = 0 ∧ k = bl) ∨ (i = 4 ∧ F4 k) ∨ (i = 5 ∧ F5 k) ∨ (i = 6 ∧ F6 k)
theorem loop_new_yes (k : Nat) (w : World) (h1 : 1 ≤ k) (h2 : k ≤ 64) :
    Calls Try.prog 27 #[.int .i64 k] w fun e w' => ∃ b F, e = .returned (.tuple #[.pointer (some ⟨b, 0, none⟩), .int .i64 0]) ∧ LoopQ w' b (newL k) F ∧ (∀ i, F i → w.heap.size ≤ i) ∧ Tch NoBlk w w' := by
  have d1 : decide ((k : Int) < 1) = false := by simp; omega
  have d2 : decide ((64 : Int) < (k : Int)) = false := by simp; omega
  go_enter Try.func27, Try.ntmps27
  go_wp2_with fail
  refine (timer_new w).mono ?_
  rintro e w1 ⟨b4, F4, rfl, q4, l4, T4⟩
  go_wp2_with fail
  refine (promise_new w1).mono ?_
  rintro e w2 ⟨b5, F5, rfl, q5, l5, T5⟩
  go_wp2_with fail
  refine (can_new w2).mono ?_
  rintro e w3 ⟨b6, F6, rfl, q6, l6, T6⟩
  have H4 := Lib.hid q4
  have H5 := Lib.hid q5
  have H6 := Lib.hid q6
  have L4 := Lib.hid l4
  have L5 := Lib.hid l5
  have L6 := Lib.hid l6
  have K4 := Lib.hid T4
  have K5 := Lib.hid T5
  have K6 := Lib.hid T6
  clear q4 q5 q6 l4 l5 l6 T4 T5 T6
  go_wp2
  go_ret2
  have s4 := K4.out.size
  have s5 := K5.out.size
  have s6 := K6.out.size
  have T : Tch NoBlk w3 (w3.alloc (.cells #[.int .i64 k, .int .i64 0, .int .i64 (-1), .slice none 0 0, .slice none 0 0, .slice none 0 0, .pointer (some ⟨b4, 0, none⟩), .pointer (some ⟨b5, 0, none⟩), .pointer (some ⟨b6, 0, none⟩), .slice none 0 0] 62)) := (Tch.refl _ _).alloc _
  have e4 := H4.out.lt
  have e5 := H5.out.lt
  have e6 := H6.out.lt
  refine ⟨w3.heap.size, fun k => ∃ i, newP w3.heap.size F4 F5 F6 i k, rfl, ⟨⟨none, 0, none, none, 0, none, none, 0, none, none, 0, none, b4, b5, b6, []⟩, newP w3.heap.size F4 F5 F6, ⟨fun i => ?_, fun i j k hi hj => ?_, rfl, newL_ok h1 h2⟩, fun _ => Iff.rfl⟩, fun i hi => ?_, ((K4.out.trans K5.out).trans K6.out).trans T⟩
  · match i with
    | 0 => exact ⟨Blk.new w3 _ _, by simp [newP]⟩
    | 1 => exact ⟨Rw.nil _ _ _, by simp [newP]⟩
    | 2 => exact ⟨Rw.nil _ _ _, by simp [newP]⟩
    | 3 => exact ⟨Rw.nil _ _ _, by simp [newP]⟩
    | 4 =>
      have e : newP w3.heap.size F4 F5 F6 4 = F4 := by funext k; simp [newP]
      rw [e]
      exact ⟨[], ((H4.out.keep K5.out (fun _ _ h => h)).keep K6.out (fun _ _ h => h)).keep T (fun _ _ h => h), fun j h0 hj => by simp at hj, List.Perm.refl _⟩
    | 5 =>
      have e : newP w3.heap.size F4 F5 F6 5 = F5 := by funext k; simp [newP]
      rw [e]
      exact (H5.out.keep K6.out (fun _ _ h => h)).keep T (fun _ _ h => h)
    | 6 =>
      have e : newP w3.heap.size F4 F5 F6 6 = F6 := by funext k; simp [newP]
      rw [e]
      exact H6.out.keep T (fun _ _ h => h)
    | 7 => exact ⟨Sl.nil _ _ _, by simp [newP]⟩
    | i + 8 =>
      show ∀ k, ¬ _
      simp [newP]
  · rcases hi with ⟨rfl, hi⟩ | ⟨rfl, hi⟩ | ⟨rfl, hi⟩ | ⟨rfl, hi⟩ <;> rcases hj with ⟨rfl, hj⟩ | ⟨rfl, hj⟩ | ⟨rfl, hj⟩ | ⟨rfl, hj⟩ <;>
      first
      | rfl
      | (exfalso
         try have := e4 _ hi
         try have := e4 _ hj
         try have := e5 _ hi
         try have := e5 _ hj
         try have := e6 _ hi
         try have := e6 _ hj
         try have := L5.out _ hi
         try have := L5.out _ hj
         try have := L6.out _ hi
         try have := L6.out _ hj
         omega)
  · obtain ⟨j, hj⟩ := hi
    rcases hj with ⟨rfl, hj⟩ | ⟨rfl, hj⟩ | ⟨rfl, hj⟩ | ⟨rfl, hj⟩
    · omega
    · exact L4.out _ hj
    · have := L5.out _ hj
      omega
    · have := L6.out _ hj
      omega
section
variable {w : World} {b : Nat} {s : Lp} {F : Nat → Prop}
set_option maxHeartbeats 4000000 in
set_option maxRecDepth 100000 in
theorem loop_task (h : LoopQ w b s F) (kind fn : Int) {ab' : List Int} {off' : List Bool} {x : Int} {en : Nat} (hm : tmakeM s.ab s.off s.token = ((ab', off'), x, en)) (hok : LOk { s with ab := ab', off := off' }) :
    Calls Try.prog 38 #[.pointer (some ⟨b, 0, none⟩), .int .i64 kind, .int .i64 fn] w fun e w' => e = .returned (.tuple #[tkv ⟨kind, fn, 0, x⟩, .int .i64 en]) ∧ LoopLeft w w' b F { s with ab := ab', off := off' } := by
  have hA := h.keep ((Tch.refl NoBlk w).alloc (.cells #[.int .i64 0, .int .i64 0, .int .i64 0, .int .i64 0] 31)) (fun _ _ h => h)
  unfold tkv
  have HT := Lib.hid ((Tch.refl NoBlk w).alloc (.cells #[.int .i64 0, .int .i64 0, .int .i64 0, .int .i64 0] 31))
  have hbW : Blk (w.alloc (.cells #[.int .i64 0, .int .i64 0, .int .i64 0, .int .i64 0] 31)) w.heap.size 31 [.int .i64 0, .int .i64 0, .int .i64 0, .int .i64 0] := heap_alloc_new w _
  have hnz : ∀ k, F k → k ≠ w.heap.size := fun k hk => by have := h.lt k hk; omega
  clear h
  go_enter Try.func38, Try.ntmps38
  go_wp2_with fail
  generalize w.alloc (.cells #[.int .i64 0, .int .i64 0, .int .i64 0, .int .i64 0] 31) = w1 at *
  have hz1 := hbW.lt
  generalize hz : w.heap.size = z at *
  have HZ := Lib.hid hz
  obtain ⟨o, P, H, hF⟩ := hA
  have hb := (H.part 0).1
  have c8 := hb.cellOf 8 _ rfl
  have c2 := hb.cellOf 2 _ rfl
  have hq : CanQ w1.drew o.k s.ab s.off (P 6) := CanQ.keep (H.part 6) (Tch.refl NoBlk w1).drew (fun _ _ h => h)
  have HQ := Lib.hid hq
  have HH := Lib.hid H
  have HF := Lib.hid hF
  have HM := Lib.hid hm
  have HO := Lib.hid hok
  have HB := Lib.hid hbW
  have HN := Lib.hid hnz
  clear hz hq H hF hm hok hb hbW hnz
  go_region_law (go_simp; go_at_call 59; refine (can_make o.k s.ab s.off (P 6) s.token _ HQ.out).mono ?_; rw [HM.out]; rintro e w2 ⟨rfl, hc2⟩; have HC := Lib.hid hc2; clear hc2)
  all_goals
    obtain ⟨hT2, F2, hq2, hF2⟩ := HC.out
    have T12 : Tch (P 6) w1 w2 := ((Tch.refl _ w1).drew).trans hT2
    have hb2 := HB.out.keep T12 (fun e => HN.out z ((HF.out z).2 ⟨6, e⟩) rfl)
    have k0 := hb2.cellOf 0 _ rfl
    have k1 := hb2.cellOf 1 _ rfl
    have k2 := hb2.cellOf 2 _ rfl
    have k3 := hb2.cellOf 3 _ rfl
    have f0 := hb2.free 0
    have f1 := hb2.free 1
    have f2 := hb2.free 2
    have f3 := hb2.free 3
    have HL : Hid (LoopLeft w1 w2 b F { s with ab := ab', off := off' }) := Lib.hid (HH.out.one HF.out 6 (by decide) (o' := o) (F' := F2) T12 rfl hq2 (fun k hk => hF2 k hk) (fun i hi0 hi1 hp => by
      match i, hi0, hi1, hp with
      | 1, _, _, hp => exact hp
      | 2, _, _, hp => exact hp
      | 3, _, _, hp => exact hp
      | 4, _, _, hp => exact hp
      | 5, _, _, hp => exact hp
      | 7, _, _, hp => exact hp
      | i + 8, _, _, hp => exact hp) HH.out.sb HO.out)
    have HB2 := Lib.hid hb2
    have HZ1 := Lib.hid hz1
    clear hT2 hq2 hF2 T12 hb2 HC c8 c2 hz1
    go_wp2
    have T3 : Tch (· = z) w2 ((((w2.setCell ⟨z, 0, none⟩ (.int .i64 kind)).setCell ⟨z, 1, none⟩ (.int .i64 fn)).setCell ⟨z, 2, none⟩ (.int .i64 0)).setCell ⟨z, 3, none⟩ (.int .i64 x)) :=
      ((((Tch.refl (· = z) w2).setCell (p := ⟨z, 0, none⟩) (fun _ => rfl) _).setCell (p := ⟨z, 1, none⟩) (fun _ => rfl) _).setCell (p := ⟨z, 2, none⟩) (fun _ => rfl) _).setCell (p := ⟨z, 3, none⟩) (fun _ => rfl) _
    have hB3 : Blk ((((w2.setCell ⟨z, 0, none⟩ (.int .i64 kind)).setCell ⟨z, 1, none⟩ (.int .i64 fn)).setCell ⟨z, 2, none⟩ (.int .i64 0)).setCell ⟨z, 3, none⟩ (.int .i64 x)) z 31 (tkl ⟨kind, fn, 0, x⟩) := (((HB2.out.set 0 _).set 1 _).set 2 _).set 3 _
    (try simp only [Exit.inBlock, Exit.then])
    refine bodyPost_ret (ret_tk rfl _ _ z ⟨kind, fn, 0, x⟩ rfl hB3) rfl ?_
    refine ⟨rfl, ?_⟩
    obtain ⟨l1, F3, l2, l3⟩ := HL.out
    have hz := HZ.out
    have hT := HT.out
    have hn3 : ∀ k, F3 k → k ≠ z := fun k hk e => by
      rcases l3 k hk with e2 | e2
      · exact HN.out k e2 e
      · have := HZ1.out
        omega
    refine ⟨((hT.mono (fun _ _ e => e.elim)).trans l1).then T3 (fun k hk e => by omega), F3, l2.keep T3 hn3, fun k hk => (l3 k hk).imp_right (fun e => Nat.le_trans hT.size e)⟩
end
end Go.Proofs.Ytipbimbnpikbcaa
