/- Timers: the next one that is due; what is refused; nil timers. -/
import Derived.Test.YtipbimbnpikbcaaTimerPut
namespace Go.Proofs.Ytipbimbnpikbcaa
open Go.RowKit

theorem timer_due_none (b : Nat) (n : Int) (F : Nat → Prop) (now : Int) (w : World) (H : TimersQ w b [] n F) :
    Calls Try.prog 30 #[.pointer (some ⟨b, 0, none⟩), .int .i64 now] w fun e w' => e = .returned (.tuple #[.int .i64 0, .bool false]) ∧ w' = w := by
  go_enter Try.func30, Try.ntmps30
  go_wp2_with fail
  refine (timer_next_none b n F w H).mono ?_
  rintro e w0 ⟨rfl, h0⟩; subst w0
  go_wp2
  go_ret2
  exact ⟨rfl, rfl⟩
theorem timer_due_no (b : Nat) (h : List Tm) (n : Int) (F : Nat → Prop) (now : Int) (w : World) (H : TimersQ w b h n F) (hl : 0 < h.length) (hd : now < (tat h 0).1) :
    Calls Try.prog 30 #[.pointer (some ⟨b, 0, none⟩), .int .i64 now] w fun e w' => e = .returned (.tuple #[.int .i64 0, .bool false]) ∧ w' = w := by
  have d : decide (now < (tat h 0).1) = true := by simpa using hd
  go_enter Try.func30, Try.ntmps30
  go_wp2_with fail
  refine (timer_next_some b h n F w H hl).mono ?_
  rintro e w0 ⟨rfl, h0⟩; subst w0
  go_wp2
  go_ret2
  exact ⟨rfl, rfl⟩
theorem timer_due_nil (now : Int) (w : World) : Calls Try.prog 30 #[.pointer none, .int .i64 now] w fun e w' => e = .returned (.tuple #[.int .i64 0, .bool false]) ∧ w' = w := by
  go_enter Try.func30, Try.ntmps30
  go_wp2_with fail
  refine (timer_next_nil w).mono ?_
  rintro e w0 ⟨rfl, h0⟩; subst w0
  go_wp2
  go_ret2
  exact ⟨rfl, rfl⟩

/-- One of place i was taken away. -/
def TimerLess (w w' : World) (b : Nat) (h : List Tm) (n : Int) (F : Nat → Prop) (i : Nat) : Prop :=
  Tch F w w' ∧ ∃ h', TimersQ w' b h' n F ∧ IsHeap h' ∧ h'.Perm (cutL h i)
theorem timer_gone_at (b : Nat) (h : List Tm) (n : Int) (F : Nat → Prop) (i : Nat) (w : World) (H : TimersQ w b h n F) (hH : IsHeap h) (hi : i < h.length) :
    Calls Try.prog 54 #[.pointer (some ⟨b, 0, none⟩), .int .i64 i] w fun e w' => e = .returned (.int .i64 (tat h i).2.2) ∧ TimerLess w w' b h n F i := by
  obtain ⟨A, c, G, H, hF⟩ := H
  obtain ⟨g, rfl, rfl, _⟩ := H.sl.form (by omega)
  refine (timer_gone b h n g c i w H hH hi).mono ?_
  rintro e w' ⟨rfl, h', h1, h2, h3, h4⟩
  refine ⟨rfl, h4.mono (fun k _ e => (hF k).2 (e.elim .inl (fun e => .inr (by rw [e])))), h', ⟨_, c, _, h1, hF⟩, h2, h3⟩
theorem timer_due_yes (b : Nat) (h : List Tm) (n : Int) (F : Nat → Prop) (now : Int) (w : World) (H : TimersQ w b h n F) (hH : IsHeap h) (hl : 0 < h.length) (hd : (tat h 0).1 ≤ now) :
    Calls Try.prog 30 #[.pointer (some ⟨b, 0, none⟩), .int .i64 now] w fun e w' => e = .returned (.tuple #[.int .i64 (tat h 0).2.2, .bool true]) ∧ TimerLess w w' b h n F 0 := by
  have d : decide (now < (tat h 0).1) = false := by simpa using hd
  have HH := Lib.hid hH
  have HQ := Lib.hid H
  clear hH hd
  go_enter Try.func30, Try.ntmps30
  go_wp2_with fail
  refine (timer_next_some b h n F w H hl).mono ?_
  rintro e w0 ⟨rfl, h0⟩; subst w0
  go_wp2_with fail
  refine (timer_gone_at b h n F 0 w HQ.out HH.out hl).mono ?_
  rintro e w1 ⟨rfl, hL⟩
  have HL := Lib.hid hL
  clear hL
  go_wp2
  go_ret2
  exact ⟨rfl, HL.out⟩
theorem timer_put_full (b : Nat) (h : List Tm) (n : Int) (F : Nat → Prop) (due item : Int) (w : World) (H : TimersQ w b h n F) (hl : h.length = 64) :
    Calls Try.prog 34 #[.pointer (some ⟨b, 0, none⟩), .int .i64 due, .int .i64 item] w fun e w' => e = .returned (.tuple #[.int .i64 0, .int .i64 140]) ∧ w' = w := by
  obtain ⟨A, c, G, H, _⟩ := H
  have hc0 := H.blk.cellOf 0 _ rfl
  rw [hl] at hc0
  clear H
  go_enter Try.func34, Try.ntmps34
  go_wp2
  go_ret2
  exact ⟨rfl, rfl⟩
theorem timer_put_nil (due item : Int) (w : World) : Calls Try.prog 34 #[.pointer none, .int .i64 due, .int .i64 item] w fun e w' => e = .returned (.tuple #[.int .i64 0, .int .i64 2]) ∧ w' = w := by
  go_enter Try.func34, Try.ntmps34
  go_wp2
  go_ret2
  exact ⟨rfl, rfl⟩
end Go.Proofs.Ytipbimbnpikbcaa
