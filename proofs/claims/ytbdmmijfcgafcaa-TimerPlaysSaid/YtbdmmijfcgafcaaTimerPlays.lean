/- TimerPlays' walk. -/
import Derived.Test.YtbdmmijfcgafcaaRefTimDo
import Derived.Test.YtbdmmijfcgafcaaTimShown
import Derived.Test.YtbdmmijfcgafcaaActsK
import Derived.Deep.CutRange
import Derived.Deep.QuietTactic
namespace Go.Proofs.Ytbdmmijfcgafcaa
open Go.RowKit

/-- The document's timers by themselves. -/
def RefTim (w : World) (b : Nat) (L : List Tm) (n : Int) (F : Nat → Prop) : Prop := ∃ v u, RefTimQ w b 39 [v, u] 0 L n F
theorem RefTim.keep {w w' : World} {b : Nat} {L : List Tm} {n : Int} {F S : Nat → Prop} (h : RefTim w b L n F) (ht : Tch S w w') (hS : ∀ k, F k → ¬ S k) : RefTim w' b L n F := by
  obtain ⟨v, u, h⟩ := h
  exact ⟨v, u, h.keep ht hS⟩
theorem RefTim.lt {w : World} {b : Nat} {L : List Tm} {n : Int} {F : Nat → Prop} (h : RefTim w b L n F) : ∀ k, F k → k < w.heap.size := by
  obtain ⟨v, u, h⟩ := h
  exact h.lt
theorem RefTim.cellOf {w : World} {b : Nat} {L : List Tm} {n : Int} {F : Nat → Prop} (h : RefTim w b L n F) : ∃ A c, w.cell? ⟨b, 0, none⟩ = some (.slice A L.length c) ∧ L.length ≤ c ∧ c ≤ 9223372036854775807 := by
  obtain ⟨v, u, h⟩ := h
  obtain ⟨A, c, h1, h2⟩ := h.lenOf
  obtain ⟨A', c', G, h, _⟩ := h
  exact ⟨A, c, h.blk.cellOf 0 _ h1, h2⟩

structure PlayT (w0 w : World) (b : Nat) (L : List Tm) (n : Int) (F : Nat → Prop) (b' : Nat) (L2 : List Tm) (n2 : Int) (F' : Nat → Prop) : Prop where
  one : TimJ w0 w b L n F
  two : RefTim w b' L2 n2 F'
  ok2 : RowOk L2 n2
  le2 : L2.length ≤ 64
  ne : ∀ i, F i → F' i → False
  base : ∀ i, F' i → w0.heap.size ≤ i

section
variable {w0 w w' : World} {b : Nat} {L : List Tm} {n : Int} {F : Nat → Prop} {b' : Nat} {L2 : List Tm} {n2 : Int} {F' : Nat → Prop}
theorem PlayT.none (h : PlayT w0 w b L n F b' L2 n2 F') (ht : Tch NoBlk w w') : PlayT w0 w' b L n F b' L2 n2 F' :=
  ⟨h.one.nothing ht, h.two.keep ht (fun _ _ h => h), h.ok2, h.le2, h.ne, h.base⟩
theorem plt_put (h : PlayT w0 w b L n F b' L2 n2 F') (due item : Int) (hn0 : 0 ≤ n) (hn : n < 4611686018427387904) (L' : List Tm) (n' x : Int) (y : Nat) (hm : putM L n due item = (L', n', x, y)) :
    Calls Try.prog 10 #[.pointer (some ⟨b, 0, none⟩), .int .i64 due, .int .i64 item] w fun e w' => e = .returned (.tuple #[.int .i64 x, .int .i64 y]) ∧ Tch F w w' ∧ ∃ F2, PlayT w0 w' b L' n' F2 b' L2 n2 F' := by
  refine (tmj_puts h.one due item hn0 hn L' n' x y hm).mono ?_
  rintro e w' ⟨rfl, hT, F2, h1, h2⟩
  refine ⟨rfl, hT, F2, ⟨h1, h.two.keep hT (fun i x y => h.ne i y x), h.ok2, h.le2, fun i x y => ?_, h.base⟩⟩
  rcases h2 i x with z | z
  · exact h.ne i z y
  · have := h.two.lt i y
    omega
theorem plt_due (h : PlayT w0 w b L n F b' L2 n2 F') (now : Int) (L' : List Tm) (x : Int) (ok : Bool) (hm : dueM L now = (L', x, ok)) :
    Calls Try.prog 11 #[.pointer (some ⟨b, 0, none⟩), .int .i64 now] w fun e w' => e = .returned (.tuple #[.int .i64 x, .bool ok]) ∧ Tch F w w' ∧ PlayT w0 w' b L' n F b' L2 n2 F' := by
  refine (tmj_due h.one now L' x ok hm).mono ?_
  rintro e w' ⟨rfl, h1, hT⟩
  exact ⟨rfl, hT, h1, h.two.keep hT (fun i x y => h.ne i y x), h.ok2, h.le2, h.ne, h.base⟩
theorem plt_remove (h : PlayT w0 w b L n F b' L2 n2 F') (z : Int) (L' : List Tm) (x : Int) (ok : Bool) (hm : remM L z = (L', x, ok)) :
    Calls Try.prog 15 #[.pointer (some ⟨b, 0, none⟩), .int .i64 z] w fun e w' => e = .returned (.tuple #[.int .i64 x, .bool ok]) ∧ Tch F w w' ∧ PlayT w0 w' b L' n F b' L2 n2 F' := by
  refine (tmj_remove h.one z L' x ok hm).mono ?_
  rintro e w' ⟨rfl, h1, hT⟩
  exact ⟨rfl, hT, h1, h.two.keep hT (fun i x y => h.ne i y x), h.ok2, h.le2, h.ne, h.base⟩
theorem PlayT.left {L2' : List Tm} {n2' : Int} {v u : Value} (h : PlayT w0 w b L n F b' L2 n2 F') (hr : RefTimLeft w w' b' 39 [v, u] 0 F' L2' n2') (ho : RowOk L2' n2') (hl : L2'.length ≤ 64) : Tch F' w w' ∧ ∃ F2, PlayT w0 w' b L n F b' L2' n2' F2 := by
  obtain ⟨hT, v2, u2, F2, h1, h2⟩ := hr
  refine ⟨hT, F2, h.one.keep hT (fun i x y => h.ne i x y) h.base, ⟨v2, u2, h1⟩, ho, hl, fun i x y => ?_, fun i y => ?_⟩
  · rcases h2 i y with z | z
    · exact h.ne i x z
    · have := h.one.i.lt i x
      omega
  · rcases h2 i y with z | z
    · exact h.base i z
    · exact Nat.le_trans h.one.i.below.size z
theorem plt_rput (h : PlayT w0 w b L n F b' L2 n2 F') (due item : Int) (hn0 : 0 ≤ n2) (hn : n2 < 4611686018427387904) (L' : List Tm) (n' x : Int) (y : Nat) (hm : putM L2 n2 due item = (L', n', x, y)) :
    Calls Try.prog 13 #[.pointer (some ⟨b', 0, none⟩), .int .i64 due, .int .i64 item] w fun e w' => e = .returned (.tuple #[.int .i64 x, .int .i64 y]) ∧ Tch F' w w' ∧ ∃ F2, PlayT w0 w' b L n F b' L' n' F2 := by
  obtain ⟨v, u, h2⟩ := h.two
  have ho := (putM_ok h.ok2 hn0 due item).1
  rw [hm] at ho
  unfold putM at hm
  by_cases hl : L2.length < 64
  · rw [if_pos hl] at hm
    injection hm with h1 h2'
    injection h2' with h2' h3
    injection h3 with h3 h4
    subst h1 h2' h3 h4
    refine (reftim_put b' 0 _ [v, u] L2 n2 F' due item w h2 hl hn0 hn).mono ?_
    rintro e w' ⟨rfl, hr⟩
    exact ⟨rfl, h.left hr ho (by simp; omega)⟩
  · rw [if_neg hl] at hm
    injection hm with h1 h2'
    injection h2' with h2' h3
    injection h3 with h3 h4
    subst h1 h2' h3 h4
    refine (reftim_put_full b' 0 _ [v, u] L2 n2 F' due item w h2 (by have := h.le2; omega)).mono ?_
    rintro e w' ⟨rfl, rfl⟩
    exact ⟨rfl, Tch.refl _ _, F', h⟩
theorem plt_rdue (h : PlayT w0 w b L n F b' L2 n2 F') (now : Int) (L' : List Tm) (x : Int) (ok : Bool) (hm : dueM L2 now = (L', x, ok)) :
    Calls Try.prog 14 #[.pointer (some ⟨b', 0, none⟩), .int .i64 now] w fun e w' => e = .returned (.tuple #[.int .i64 x, .bool ok]) ∧ Tch F' w w' ∧ ∃ F2, PlayT w0 w' b L n F b' L' n2 F2 := by
  obtain ⟨v, u, h2⟩ := h.two
  have ho := dueM_ok h.ok2 now
  have hl := dueM_le L2 now
  refine (reftim_due b' 0 _ [v, u] L2 n2 F' now w h2 h.ok2).mono ?_
  rw [hm] at ho hl ⊢
  rintro e w' ⟨rfl, hr⟩
  exact ⟨rfl, h.left hr ho (Nat.le_trans hl h.le2)⟩
theorem plt_rremove (h : PlayT w0 w b L n F b' L2 n2 F') (z : Int) (L' : List Tm) (x : Int) (ok : Bool) (hm : remM L2 z = (L', x, ok)) :
    Calls Try.prog 16 #[.pointer (some ⟨b', 0, none⟩), .int .i64 z] w fun e w' => e = .returned (.tuple #[.int .i64 x, .bool ok]) ∧ Tch F' w w' ∧ ∃ F2, PlayT w0 w' b L n F b' L' n2 F2 := by
  obtain ⟨v, u, h2⟩ := h.two
  have ho := remM_ok h.ok2 z
  have hl := remM_le L2 z
  refine (reftim_remove b' 0 _ [v, u] L2 n2 F' z w h2 h.ok2).mono ?_
  rw [hm] at ho hl ⊢
  rintro e w' ⟨rfl, hr⟩
  exact ⟨rfl, h.left hr ho (Nat.le_trans hl h.le2)⟩
theorem plt_rnext (h : PlayT w0 w b L n F b' L2 n2 F') (x : Int) (ok : Bool) (hm : nextM L2 = (x, ok)) :
    Calls Try.prog 18 #[.pointer (some ⟨b', 0, none⟩)] w fun e w' => e = .returned (.tuple #[.int .i64 x, .bool ok]) ∧ ∃ q, w' = w.drewN q := by
  obtain ⟨v, u, h2⟩ := h.two
  refine (reftim_next b' 0 _ [v, u] L2 n2 F' w h2 h.ok2).mono ?_
  rw [hm]
  exact fun _ _ h => h
end
theorem reftim_new (w : World) : RefTim (w.alloc (.cells #[.slice none 0 0, .int .i64 0] 39)) w.heap.size [] 0 (fun k => k = w.heap.size ∨ (none : Option Nat) = some k) :=
  ⟨.slice none 0 0, .int .i64 0, none, 0, none, ⟨Blk.new w _ _, rfl, rfl, Sl.nil _ _ _, by simp, by simp⟩, fun _ => Iff.rfl⟩


set_option maxHeartbeats 4000000 in
set_option maxRecDepth 100000 in
theorem timerPlays_walk (a : Option Addr) (cap : Nat) (l : List Ak) (V : Nat → Nat → Value) (w : World) (h : TripsIn w a cap l.length V)
    (hl : ∀ i, i < l.length → (V i 0 = .int .u8 ((l.getD i ak0).1 : Int) ∧ (l.getD i ak0).1 ≤ 255) ∧ V i 1 = .int .i64 (l.getD i ak0).2.1 ∧ V i 2 = .int .i64 (l.getD i ak0).2.2) :
    Calls Try.prog 5 #[.slice a l.length cap] w fun e w' => e = .returned (.bool true) ∧ Below w.heap.size w w' := by
  obtain ⟨hle, hc, he⟩ := h
  have HE := Lib.hid he
  have HL := Lib.hid hl
  clear he hl
  obtain ⟨n, hn⟩ : ∃ n, n = min l.length 150 := ⟨_, rfl⟩
  have hnl : n ≤ l.length := by omega
  have hn150 : n ≤ 150 := by omega
  go_enter Try.func5, Try.ntmps5
  go_wp2_with fail
  refine (timer_shown w).mono ?_
  rintro e w1 ⟨rfl, hT1⟩
  have B1 := below_no (Below.refl _ w) hT1
  clear hT1
  go_wp2_with fail
  refine (tmj_new B1).mono ?_
  rintro e w2 ⟨b, F, rfl, h2, _, _⟩
  clear B1
  have hP3 : PlayT w (w2.alloc (.cells #[.slice none 0 0, .int .i64 0] 39)) b [] 0 F w2.heap.size [] 0 (fun k => k = w2.heap.size ∨ (none : Option Nat) = some k) := by
    refine ⟨h2.nothing ((Tch.refl NoBlk w2).alloc _), reftim_new w2, h2.ok, by simp, fun i x y => ?_, fun i y => ?_⟩
    · have := h2.i.lt i x
      rcases y with rfl | y
      · omega
      · cases y
    · have := h2.i.below.size
      rcases y with rfl | y
      · omega
      · cases y
  clear h2
  go_upto_region 6 with fail
  generalize w2.alloc (.cells #[.slice none 0 0, .int .i64 0] 39) = w3 at *
  generalize w2.heap.size = b' at *
  go_cut [30, 31, 32] from 26 to 26 (fun x y z wx => x = .slice a n cap ∧ y = .int .i64 n ∧ z = .int .i64 0 ∧ w3 = wx)
  case first =>
    clear hP3
    go_wp2_with fail
    · have hk : n = 150 := by omega
      go_meet
      exact ⟨by rw [hk], by rw [hk]; rfl, rfl, rfl⟩
    · have hk : n = l.length := by omega
      go_meet
      exact ⟨by rw [hk], by rw [hk], rfl, rfl⟩
  case rest =>
  obtain ⟨rfl, rfl, rfl, rfl⟩ := hcut
  clear hn
  go_wp2_with fail
  go_loopw [32] (fun i wr => ∃ (k : Nat) (t : List Tm) (q : Int) (F F' : Nat → Prop), i = .int .i64 k ∧ k ≤ n ∧ (0 ≤ q ∧ q ≤ k) ∧ PlayT w wr b t q F b' t q F') (fun i _ => n - (intOf i).toNat)
  case atStart => exact ⟨0, [], 0, _, _, rfl, Nat.zero_le _, ⟨by omega, by omega⟩, hP3⟩
  case round =>
    clear hP3
    obtain ⟨k, t, q, F, F', rfl, hk, ⟨hq0, hqk⟩, hP⟩ := hrel
    by_cases hlt : k < n
    · obtain ⟨ba, off, rfl, hcell⟩ := HE.out (by omega)
      have hkn : k < l.length := by omega
      obtain ⟨⟨v0, hm⟩, v1, v2⟩ := HL.out k (by omega)
      have hc0 := hcell k hkn 0 (by omega)
      have hc1 := hcell k hkn 1 (by omega)
      have hc2 := hcell k hkn 2 (by omega)
      rw [v0] at hc0
      rw [v1] at hc1
      rw [v2] at hc2
      have hw0 : wr.cell? ⟨ba, off + (k * 3 + 0), none⟩ = _ := (hP.one.i.below.cell (p := ⟨ba, off + (k * 3 + 0), none⟩) (World.block_lt_of_cell? w _ hc0)).trans hc0
      have hw1 : wr.cell? ⟨ba, off + (k * 3 + 1), none⟩ = _ := (hP.one.i.below.cell (p := ⟨ba, off + (k * 3 + 1), none⟩) (World.block_lt_of_cell? w _ hc1)).trans hc1
      have hw2 : wr.cell? ⟨ba, off + (k * 3 + 2), none⟩ = _ := (hP.one.i.below.cell (p := ⟨ba, off + (k * 3 + 2), none⟩) (World.block_lt_of_cell? w _ hc2)).trans hc2
      have hx0 : wr.cell? ⟨ba, off + k * 3, none⟩ = _ := hw0
      have hx1 : wr.cell? ⟨ba, off + k * 3 + 1, none⟩ = _ := hw1
      have hx2 : wr.cell? ⟨ba, off + k * 3 + 2, none⟩ = _ := hw2
      have HK : Hid (k + 1 ≤ n) := Lib.hid (by omega)
      clear hcell hc0 hc1 hc2 v0 v1 v2 hw0 hw1 hw2
      generalize (l.getD k ak0) = act at *
      obtain ⟨m, av, bv⟩ := act
      dsimp only at hx0 hx1 hx2 hm
      have hP1 := hP.none ((Tch.refl NoBlk wr).alloc (.cells #[.int .u8 (m : Int), .int .i64 av, .int .i64 bv] 41))
      have hA := Blk.new wr 41 [.int .u8 (m : Int), .int .i64 av, .int .i64 bv]
      have HF1 := Lib.hid (fun i (hi : F i) => hP.one.i.lt i hi)
      have HF2 := Lib.hid (fun i (hi : F' i) => hP.two.lt i hi)
      have HO := Lib.hid hP.one.ok
      clear hP
      have hq4 : m % 4 = 0 ∨ m % 4 = 1 ∨ m % 4 = 2 ∨ m % 4 = 3 := by omega
      rcases hq4 with hq | hq | hq | hq
      · have hmq : (m : Int) % 4 = 0 := by omega
        clear hq
        obtain ⟨r, hr⟩ : ∃ r, putM t q av bv = r := ⟨_, rfl⟩
        obtain ⟨t', q', x, en⟩ := r
        have HR := Lib.hid hr
        have hq' := (putM_ok HO.out hq0 av bv).2
        rw [hr] at hq'
        have HQ : Hid (0 ≤ q' ∧ q' ≤ ((k + 1 : Nat) : Int)) := Lib.hid (by dsimp only at hq'; omega)
        have g1 : (x == x) = true := by simp
        have g2 : ((en : Int) == (en : Int)) = true := by simp
        clear hr hq' HO
        go_wp2_with fail
        generalize wr.alloc (.cells #[.int .u8 (m : Int), .int .i64 av, .int .i64 bv] 41) = wA at *
        generalize wr.heap.size = ga at *
        have hgF : ¬ F ga := fun hi => absurd (HF1.out ga hi) (by omega)
        have hgF' : ¬ F' ga := fun hi => absurd (HF2.out ga hi) (by omega)
        have hlA := hA.lt
        clear hx0 hx1 hx2 HF1 HF2 HE
        refine (plt_put hP1 av bv hq0 (by omega) _ _ _ _ HR.out).mono ?_
        rintro e w5 ⟨rfl, hT5, F5, hP5⟩
        have hA := hA.keep hT5 hgF
        have hd1 := hA.cellOf 1 _ rfl
        have hd2 := hA.cellOf 2 _ rfl
        clear hP1 hT5
        go_wp2_with fail
        refine (plt_rput hP5 av bv hq0 (by omega) _ _ _ _ HR.out).mono ?_
        rintro e w6 ⟨rfl, hT6, F6, hP6⟩
        have hA := hA.keep hT6 hgF'
        clear hP5 hT6 HR hd1 hd2
        -- when the next one is due, the round's test; row t'
        obtain ⟨r, hr⟩ : ∃ r, nextM t' = r := ⟨_, rfl⟩
        obtain ⟨nv, nt⟩ := r
        have EV := Lib.hid hr
        clear hr
        go_wp2_with fail
        refine (tmj_next hP6.one _ _ EV.out).mono ?_
        rintro e w0 ⟨rfl, h0⟩; subst w0
        go_wp2_with fail
        refine (plt_rnext hP6 _ _ EV.out).mono ?_
        rintro e w0 ⟨rfl, n8, rfl⟩
        have hP8 := hP6.none ((Tch.refl NoBlk _).drewN n8)
        clear hP6 EV hA
        generalize w6.drewN n8 = w8 at *
        obtain ⟨tA, tc, htab, htc⟩ := hP8.two.cellOf
        have f1 : (nv != nv) = false := by simp
        have f2 : (nt != nt) = false := by simp
        have f4 : (((t' : List Tm).length : Int) != ((t' : List Tm).length : Int)) = false := by simp
        have HP := Lib.hid hP8
        clear hP8
        go_wp2_with fail
        go_quiet ((go_at_call 12; exact Calls.quiet_of_same (tmj_len (HP.out.none ((Tch.refl NoBlk _).drewN _)).one)))
        go_wp2
        go_roundw
        case rel => exact ⟨k + 1, t', q', _, _, num (by omega), HK.out, HQ.out, HP.out.none ((Tch.refl NoBlk _).drewN _)⟩
        case measure => simp [intOf]; omega
      · have hmq : (m : Int) % 4 = 1 := by omega
        clear hq
        obtain ⟨r, hr⟩ : ∃ r, dueM t av = r := ⟨_, rfl⟩
        obtain ⟨t', x, is⟩ := r
        have HR := Lib.hid hr
        have g1 : (x == x) = true := by simp
        have g3 : (is == is) = true := by simp
        clear hr HO
        go_wp2_with fail
        generalize wr.alloc (.cells #[.int .u8 (m : Int), .int .i64 av, .int .i64 bv] 41) = wA at *
        generalize wr.heap.size = ga at *
        have hgF : ¬ F ga := fun hi => absurd (HF1.out ga hi) (by omega)
        have hgF' : ¬ F' ga := fun hi => absurd (HF2.out ga hi) (by omega)
        have hlA := hA.lt
        clear hx0 hx1 hx2 HF1 HF2 HE
        refine (plt_due hP1 av _ _ _ HR.out).mono ?_
        rintro e w5 ⟨rfl, hT5, hP5⟩
        have hA := hA.keep hT5 hgF
        have hd1 := hA.cellOf 1 _ rfl
        have hd2 := hA.cellOf 2 _ rfl
        clear hP1 hT5
        go_wp2_with fail
        refine (plt_rdue hP5 av _ _ _ HR.out).mono ?_
        rintro e w6 ⟨rfl, hT6, F6, hP6⟩
        have hA := hA.keep hT6 hgF'
        clear hP5 hT6 HR hd1 hd2
        -- when the next one is due, the round's test; row t'
        obtain ⟨r, hr⟩ : ∃ r, nextM t' = r := ⟨_, rfl⟩
        obtain ⟨nv, nt⟩ := r
        have EV := Lib.hid hr
        clear hr
        go_wp2_with fail
        refine (tmj_next hP6.one _ _ EV.out).mono ?_
        rintro e w0 ⟨rfl, h0⟩; subst w0
        go_wp2_with fail
        refine (plt_rnext hP6 _ _ EV.out).mono ?_
        rintro e w0 ⟨rfl, n8, rfl⟩
        have hP8 := hP6.none ((Tch.refl NoBlk _).drewN n8)
        clear hP6 EV hA
        generalize w6.drewN n8 = w8 at *
        obtain ⟨tA, tc, htab, htc⟩ := hP8.two.cellOf
        have f1 : (nv != nv) = false := by simp
        have f2 : (nt != nt) = false := by simp
        have f4 : (((t' : List Tm).length : Int) != ((t' : List Tm).length : Int)) = false := by simp
        have HP := Lib.hid hP8
        clear hP8
        go_wp2_with fail
        go_quiet ((go_at_call 12; exact Calls.quiet_of_same (tmj_len (HP.out.none ((Tch.refl NoBlk _).drewN _)).one)))
        go_wp2
        go_roundw
        case rel => exact ⟨k + 1, t', q, _, _, num (by omega), HK.out, ⟨by omega, by omega⟩, HP.out.none ((Tch.refl NoBlk _).drewN _)⟩
        case measure => simp [intOf]; omega
      · have hmq : (m : Int) % 4 = 2 := by omega
        clear hq
        obtain ⟨r, hr⟩ : ∃ r, remM t av = r := ⟨_, rfl⟩
        obtain ⟨t', x, is⟩ := r
        have HR := Lib.hid hr
        have g1 : (x == x) = true := by simp
        have g3 : (is == is) = true := by simp
        clear hr HO
        go_wp2_with fail
        generalize wr.alloc (.cells #[.int .u8 (m : Int), .int .i64 av, .int .i64 bv] 41) = wA at *
        generalize wr.heap.size = ga at *
        have hgF : ¬ F ga := fun hi => absurd (HF1.out ga hi) (by omega)
        have hgF' : ¬ F' ga := fun hi => absurd (HF2.out ga hi) (by omega)
        have hlA := hA.lt
        clear hx0 hx1 hx2 HF1 HF2 HE
        refine (plt_remove hP1 av _ _ _ HR.out).mono ?_
        rintro e w5 ⟨rfl, hT5, hP5⟩
        have hA := hA.keep hT5 hgF
        have hd1 := hA.cellOf 1 _ rfl
        have hd2 := hA.cellOf 2 _ rfl
        clear hP1 hT5
        go_wp2_with fail
        refine (plt_rremove hP5 av _ _ _ HR.out).mono ?_
        rintro e w6 ⟨rfl, hT6, F6, hP6⟩
        have hA := hA.keep hT6 hgF'
        clear hP5 hT6 HR hd1 hd2
        -- when the next one is due, the round's test; row t'
        obtain ⟨r, hr⟩ : ∃ r, nextM t' = r := ⟨_, rfl⟩
        obtain ⟨nv, nt⟩ := r
        have EV := Lib.hid hr
        clear hr
        go_wp2_with fail
        refine (tmj_next hP6.one _ _ EV.out).mono ?_
        rintro e w0 ⟨rfl, h0⟩; subst w0
        go_wp2_with fail
        refine (plt_rnext hP6 _ _ EV.out).mono ?_
        rintro e w0 ⟨rfl, n8, rfl⟩
        have hP8 := hP6.none ((Tch.refl NoBlk _).drewN n8)
        clear hP6 EV hA
        generalize w6.drewN n8 = w8 at *
        obtain ⟨tA, tc, htab, htc⟩ := hP8.two.cellOf
        have f1 : (nv != nv) = false := by simp
        have f2 : (nt != nt) = false := by simp
        have f4 : (((t' : List Tm).length : Int) != ((t' : List Tm).length : Int)) = false := by simp
        have HP := Lib.hid hP8
        clear hP8
        go_wp2_with fail
        go_quiet ((go_at_call 12; exact Calls.quiet_of_same (tmj_len (HP.out.none ((Tch.refl NoBlk _).drewN _)).one)))
        go_wp2
        go_roundw
        case rel => exact ⟨k + 1, t', q, _, _, num (by omega), HK.out, ⟨by omega, by omega⟩, HP.out.none ((Tch.refl NoBlk _).drewN _)⟩
        case measure => simp [intOf]; omega
      · have hmq : (m : Int) % 4 = 3 := by omega
        clear hq HO
        go_wp2_with fail
        generalize wr.alloc (.cells #[.int .u8 (m : Int), .int .i64 av, .int .i64 bv] 41) = wA at *
        generalize wr.heap.size = ga at *
        have hgF : ¬ F ga := fun hi => absurd (HF1.out ga hi) (by omega)
        have hgF' : ¬ F' ga := fun hi => absurd (HF2.out ga hi) (by omega)
        have hlA := hA.lt
        clear hx0 hx1 hx2 HF1 HF2 HE
        -- when the next one is due, the round's test; row t
        obtain ⟨r, hr⟩ : ∃ r, nextM t = r := ⟨_, rfl⟩
        obtain ⟨nv, nt⟩ := r
        have EV := Lib.hid hr
        clear hr
        go_wp2_with fail
        refine (tmj_next hP1.one _ _ EV.out).mono ?_
        rintro e w0 ⟨rfl, h0⟩; subst w0
        go_wp2_with fail
        refine (plt_rnext hP1 _ _ EV.out).mono ?_
        rintro e w0 ⟨rfl, n8, rfl⟩
        have hP8 := hP1.none ((Tch.refl NoBlk _).drewN n8)
        clear hP1 EV hA
        generalize wA.drewN n8 = w8 at *
        obtain ⟨tA, tc, htab, htc⟩ := hP8.two.cellOf
        have f1 : (nv != nv) = false := by simp
        have f2 : (nt != nt) = false := by simp
        have f4 : (((t : List Tm).length : Int) != ((t : List Tm).length : Int)) = false := by simp
        have HP := Lib.hid hP8
        clear hP8
        go_wp2_with fail
        go_quiet ((go_at_call 12; exact Calls.quiet_of_same (tmj_len (HP.out.none ((Tch.refl NoBlk _).drewN _)).one)))
        go_wp2
        go_roundw
        case rel => exact ⟨k + 1, t, q, _, _, num (by omega), HK.out, ⟨by omega, by omega⟩, HP.out.none ((Tch.refl NoBlk _).drewN _)⟩
        case measure => simp [intOf]; omega
    · have hge : n ≤ k := by omega
      have HB := Lib.hid hP.one.i.below
      clear hlt hP
      go_wp2
      go_ret
      exact ⟨rfl, HB.out⟩
end Go.Proofs.Ytbdmmijfcgafcaa
