/- After: a timer. -/
import Derived.Test.YtipbimbnpikbcaaLoopNext
namespace Go.Proofs.Ytipbimbnpikbcaa
open Go.RowKit

section
variable {w : World} {b : Nat} {s : Lp} {F : Nat → Prop}
/-- The timers, by themselves. -/
theorem LoopAt.tim {o : Pl} {P : Nat → Nat → Prop} (H : LoopAt w b s o P) : TimJ { w with heap := #[] } w o.t s.L s.n (P 4) :=
  ⟨⟨H.part 4, fun i hi => Nat.zero_le _, ⟨rfl, rfl, rfl, Nat.zero_le _, fun k hk => absurd hk (by simp)⟩⟩, H.ok.row, H.ok.tml⟩
/-- How many timers wait. -/
theorem loop_tlen (h : LoopQ w b s F) : ∃ t : Nat, w.cell? ⟨b, 6, none⟩ = some (.pointer (some ⟨t, 0, none⟩)) ∧ Calls Try.prog 33 #[.pointer (some ⟨t, 0, none⟩)] w fun e w' => e = .returned (.int .i64 s.L.length) ∧ w' = w := by
  obtain ⟨o, P, H, hF⟩ := h
  exact ⟨o.t, (H.part 0).1.cellOf 6 _ rfl, tmj_len H.tim⟩
theorem loop_tput (h : LoopQ w b s F) (due : Int) (hl : s.L.length < 64) (hn : s.n < s.wai.length) : ∃ (t c : Nat) (A : Option Addr), w.cell? ⟨b, 6, none⟩ = some (.pointer (some ⟨t, 0, none⟩)) ∧ w.cell? ⟨b, 5, none⟩ = some (.slice A s.wai.length c) ∧
    Calls Try.prog 34 #[.pointer (some ⟨t, 0, none⟩), .int .i64 due, .int .i64 ((s.wai.length : Int) - 1)] w fun e w' => e = .returned (.tuple #[.int .i64 s.n, .int .i64 0]) ∧ LoopLeft w w' b F (putL s due) := by
  obtain ⟨o, P, H, hF⟩ := h
  have h0 := H.ok.n
  have h1 := H.ok.waiLe
  have h2 := H.ok.tree.le
  refine ⟨o.t, o.c3, o.A3, (H.part 0).1.cellOf 6 _ rfl, (H.part 0).1.cellOf 5 _ rfl, (tmj_put H.tim due ((s.wai.length : Int) - 1) hl h0.1 (by omega)).mono ?_⟩
  rintro e w' ⟨rfl, T, F', hJ, hF'⟩
  refine ⟨rfl, H.one hF 4 (by decide) (o' := o) (F' := F') T rfl hJ.i.q hF' (fun i hi0 hi1 hp => ?_) H.sb (H.ok.put due hl hn)⟩
  match i, hi0, hi1, hp with
  | 1, _, _, hp => exact hp
  | 2, _, _, hp => exact hp
  | 3, _, _, hp => exact hp
  | 5, _, _, hp => exact hp
  | 6, _, _, hp => exact hp
  | 7, _, _, hp => exact hp
  | i + 8, _, _, hp => exact hp

set_option maxHeartbeats 4000000 in
set_option maxRecDepth 100000 in
theorem loop_after (h : LoopQ w b s F) (due fn : Int) :
    Calls Try.prog 15 #[.pointer (some ⟨b, 0, none⟩), .int .i64 due, .int .i64 fn] w fun e w' => e = .returned (.tuple #[.int .i64 (afterL s due fn).2.1, .int .i64 (afterL s due fn).2.2]) ∧ LoopLeft w w' b F (afterL s due fn).1 := by
  have HQ := Lib.hid h
  have hok := h.ok
  have hwl := hok.waiLe
  have hn := hok.n
  have htl := hok.tml
  obtain ⟨t, c6, hlen⟩ := loop_tlen h
  have HLEN := Lib.hid hlen
  clear h hlen hok
  unfold afterL
  by_cases hl : 64 ≤ s.L.length
  · rw [if_pos hl]
    have hlI : (64 : Int) ≤ (s.L.length : Int) := by omega
    go_enter Try.func15, Try.ntmps15
    go_wp2_with fail
    refine HLEN.out.mono ?_
    rintro e w2 ⟨rfl, hw⟩; subst hw
    go_wp2
    go_ret2
    exact ⟨rfl, LoopLeft.same HQ.out⟩
  · rw [if_neg hl]
    have hlI : ¬ ((64 : Int) ≤ (s.L.length : Int)) := by omega
    by_cases ha : 1024 ≤ s.ab.length
    · rw [if_pos ha]
      have HA := Lib.hid ha
      clear ha
      go_enter Try.func15, Try.ntmps15
      go_wp2_with fail
      refine HLEN.out.mono ?_
      rintro e w2 ⟨rfl, hw⟩; subst hw
      go_wp2_with fail
      refine (loop_adds_no HQ.out 5 3 fn HA.out).mono ?_
      rintro e w2 ⟨rfl, h2⟩
      go_wp2
      go_ret2
      exact ⟨rfl, h2⟩
    · rw [if_neg ha]
      have HA := Lib.hid (show s.ab.length < 1024 by omega)
      have HWL := Lib.hid (show (moreL s).wai.length < (moreL s).ab.length by simp [moreL]; omega)
      have HTL := Lib.hid (show (waiL (moreL s) ⟨3, fn, 0, s.ab.length⟩).L.length < 64 by simp [waiL, moreL]; omega)
      have HN := Lib.hid (show (waiL (moreL s) ⟨3, fn, 0, s.ab.length⟩).n < ((waiL (moreL s) ⟨3, fn, 0, s.ab.length⟩).wai.length : Int) by simp [waiL, moreL]; omega)
      have HWW := Lib.hid (show (waiL (moreL s) ⟨3, fn, 0, s.ab.length⟩).wai.length ≤ 2000 by simp [waiL, moreL]; omega)
      clear ha hwl hn htl
      go_enter Try.func15, Try.ntmps15
      go_wp2_with fail
      refine HLEN.out.mono ?_
      rintro e w2 ⟨rfl, hw⟩; subst hw
      go_wp2_with fail
      refine (loop_adds_yes HQ.out 5 3 fn (waiL (moreL s) ⟨3, fn, 0, s.ab.length⟩) HA.out (fun w2 F2 q2 => loop_put_wai q2 _ tokOk_more HWL.out)).mono ?_
      rintro e w3 ⟨rfl, h3⟩
      obtain ⟨t3, F3, q3, l3⟩ := h3
      generalize hS : waiL (moreL s) ⟨3, fn, 0, s.ab.length⟩ = S at *
      have HSS := Lib.hid hS
      clear hS
      have T3 := Lib.hid t3
      have L3 := Lib.hid l3
      obtain ⟨tt, cc, AA, k6, k5, hput⟩ := loop_tput (q3.keep (Tch.refl NoBlk w3).drew (fun _ _ h => h)) due HTL.out HN.out
      have HPUT := Lib.hid hput
      have hw1 : IntKind.i64.wrap ((S.wai.length : Int) - 1) = (S.wai.length : Int) - 1 := by have := HWW.out; rw [IntKind.wrap_i64]; omega
      have k6' : w3.cell? ⟨b, 6, none⟩ = some (.pointer (some ⟨tt, 0, none⟩)) := k6
      have k5' : w3.cell? ⟨b, 5, none⟩ = some (.slice AA S.wai.length cc) := k5
      clear t3 l3 q3 hput k6 k5 c6 HLEN
      go_wp2_with fail
      go_region_law (go_simp; go_at_call 34; refine HPUT.out.mono ?_; rintro e w5 ⟨rfl, h5⟩; have H5 := Lib.hid h5; clear h5)
      all_goals
        go_wp2
        go_ret2
        rw [HSS.out]
        exact ⟨rfl, LoopLeft.comp T3.out L3.out (H5.out.ahead (Tch.refl NoBlk w3).drew)⟩
end
end Go.Proofs.Ytipbimbnpikbcaa
