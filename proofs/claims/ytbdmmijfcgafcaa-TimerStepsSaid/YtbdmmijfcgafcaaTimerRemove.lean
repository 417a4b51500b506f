/- Timers: one of a number is removed . -/
import Derived.Test.YtbdmmijfcgafcaaTimerDue
namespace Go.Proofs.Ytbdmmijfcgafcaa
open Go.RowKit

theorem timer_remove_nil (x : Int) (w : World) : Calls Try.prog 15 #[.pointer none, .int .i64 x] w fun e w' => e = .returned (.tuple #[.int .i64 0, .bool false]) ∧ Tch NoBlk w w' := by
  go_enter Try.func15, Try.ntmps15
  go_wp2
  go_ret2
  exact ⟨rfl, (Tch.refl NoBlk w).alloc _⟩
theorem timer_is (d m it x : Int) (p : Nat) (w : World) (hp : w.cell? ⟨p, 0, none⟩ = some (.int .i64 x)) :
    Calls Try.prog 24 #[.agg #[.int .i64 d, .int .i64 m, .int .i64 it], .pointer (some ⟨p, 0, none⟩)] w fun e w' => e = .returned (.bool (m == x)) ∧ Tch NoBlk w w' := by
  have hpA : ∀ ob, (w.alloc ob).cell? ⟨p, 0, none⟩ = some (.int .i64 x) := fun ob => ((Tch.refl NoBlk w).alloc ob).cell' hp (fun h => h)
  go_enter Try.func24, Try.ntmps24
  go_wp2
  go_ret
  exact ⟨rfl, (Tch.refl NoBlk w).alloc _⟩
/-- None of the first j has the number. -/
def idxM (h : List Tm) (x : Int) (j : Nat) : Prop := ∀ i, i < j → (tat h i).2.1 ≠ x
theorem timer_index (h : List Tm) (x : Int) (p : Nat) (A : Option Addr) (c : Nat) (G : Option Nat) (w : World) (H : Sl w 51 3 A h.length c (tcells h) G) (hp : w.cell? ⟨p, 0, none⟩ = some (.int .i64 x)) (hl : h.length ≤ 64) :
    Calls Try.prog 23 #[.slice A h.length c, .func (.func 24) #[] #[.pointer (some ⟨p, 0, none⟩)]] w fun e w' =>
      Tch NoBlk w w' ∧ ((e = .returned (.int .i64 (-1)) ∧ idxM h x h.length) ∨ ∃ i : Nat, e = .returned (.int .i64 i) ∧ i < h.length ∧ (tat h i).2.1 = x ∧ idxM h x i) := by
  have HH := Lib.hid H
  have hcap := H.cap_le
  clear H
  go_enter Try.func23, Try.ntmps23
  go_wp2_with fail
  go_loopw [8] (fun y wr => ∃ j : Nat, y = .int .i64 j ∧ j ≤ h.length ∧ Tch NoBlk w wr ∧ idxM h x j) (fun y _ => h.length - (intOf y).toNat)
  case atStart => exact ⟨0, rfl, Nat.zero_le _, Tch.refl _ w, fun i hi => by omega⟩
  case round =>
    obtain ⟨j, rfl, hj, hT, hI⟩ := hrel
    by_cases hjl : j < h.length
    · obtain ⟨g, rfl, rfl, hcl⟩ := (HH.out.keep hT (fun _ _ h => h)).cells (by omega)
      obtain ⟨i0, i1, i2⟩ := tcells_get h j hjl
      have c0 := hcl _ _ i0
      have c1 := hcl _ _ i1
      have c2 := hcl _ _ i2
      have cp := hT.cell' hp (fun h => h)
      clear hcl i0 i1 i2
      by_cases he : (tat h j).2.1 = x
      · have HT := Lib.hid hT
        have HI := Lib.hid hI
        clear hT hI
        go_wp2_with fail
        refine (timer_is _ _ _ x p _ cp).mono ?_
        rw [show (x == x) = true by simp]
        rintro e w5 ⟨rfl, hT5⟩
        have HE := Lib.hid he
        have HV := Lib.hid (HT.out.trans hT5)
        clear he hT5 c0 c1 c2 cp
        go_wp2
        go_ret
        exact ⟨HV.out, .inr ⟨j, rfl, hjl, HE.out, HI.out⟩⟩
      · go_wp2_with fail
        refine (timer_is _ _ _ x p _ cp).mono ?_
        rw [show ((tat h j).2.1 == x) = false by simpa using he]
        rintro e w5 ⟨rfl, hT5⟩
        have HV := Lib.hid (hT.trans hT5)
        have HI : Hid (idxM h x (j + 1)) := Lib.hid (fun i hi => by
          by_cases hij : i = j
          · rw [hij]; exact he
          · exact hI i (by omega))
        clear he hT5 hT hI c0 c1 c2 cp
        go_wp2
        go_roundw
        case rel => exact ⟨j + 1, num (by omega), by omega, HV.out, HI.out⟩
        case measure => simp [intOf]; omega
    · obtain rfl : j = h.length := by omega
      have HT := Lib.hid hT
      have HI := Lib.hid hI
      clear hT hI hjl
      go_wp2
      go_ret
      exact ⟨HT.out, .inl ⟨rfl, HI.out⟩⟩

set_option maxHeartbeats 2000000 in
/-- The number x is taken away, if it is there. -/
theorem timer_remove (b : Nat) (h : List Tm) (n : Int) (F : Nat → Prop) (x : Int) (w : World) (H : TimersQ w b h n F) (hH : IsHeap h) :
    Calls Try.prog 15 #[.pointer (some ⟨b, 0, none⟩), .int .i64 x] w fun e w' =>
      (e = .returned (.tuple #[.int .i64 0, .bool false]) ∧ idxM h x h.length ∧ Tch NoBlk w w') ∨ ∃ i : Nat, e = .returned (.tuple #[.int .i64 (tat h i).2.2, .bool true]) ∧ i < h.length ∧ (tat h i).2.1 = x ∧ TimerLess w w' b h n F i := by
  have HQ := Lib.hid H
  obtain ⟨A, c, G, H, hF⟩ := H
  have hc0 := H.blk.cellOf 0 _ rfl
  have hle := H.le
  have hcA : ∀ ob, (w.alloc ob).cell? ⟨b, 0, none⟩ = some (.slice A h.length c) := fun ob => ((Tch.refl NoBlk w).alloc ob).cell' hc0 (fun h => h)
  have HS := Lib.hid (H.sl.alloc (.cells #[.int .i64 x] 3))
  have hx := (Blk.new w 3 [.int .i64 x]).cellOf 0 _ rfl
  have HX : Hid _ := Lib.hid hx
  have HH := Lib.hid hH
  clear H hF hx hH
  go_enter Try.func15, Try.ntmps15
  go_wp2_with fail
  refine (timer_index h x w.heap.size A c G _ HS.out HX.out hle).mono ?_
  rintro e w1 ⟨hT, ⟨rfl, hI⟩ | ⟨i, rfl, hil, hix, hI⟩⟩
  · have HT := Lib.hid (((Tch.refl NoBlk w).alloc _).trans hT)
    have HI := Lib.hid hI
    clear hT hI
    go_wp2
    go_ret2
    exact .inl ⟨rfl, HI.out, HT.out⟩
  · have HT := Lib.hid (((Tch.refl NoBlk w).alloc (.cells #[.int .i64 x] 3)).trans hT)
    have hQ1 := HQ.out.keep HT.out (fun _ _ h => h)
    have HIX := Lib.hid hix
    clear hT hI hix
    go_wp2_with fail
    refine (timer_gone_at b h n F i _ hQ1 HH.out hil).mono ?_
    rintro e w2 ⟨rfl, hL, h', h1, h2, h3⟩
    have HL : Hid (TimerLess w w2 b h n F i) := Lib.hid ⟨(HT.out.mono (fun _ _ e => e.elim)).trans hL, h', h1, h2, h3⟩
    clear hL h1 h2 h3 hQ1
    go_wp2
    go_ret2
    exact .inr ⟨i, rfl, hil, HIX.out, HL.out⟩
end Go.Proofs.Ytbdmmijfcgafcaa
