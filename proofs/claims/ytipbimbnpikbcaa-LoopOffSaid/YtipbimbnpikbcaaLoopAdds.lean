/- A new task is put into a row: adds, Spawn, Micro. -/
import Derived.Test.YtipbimbnpikbcaaLoopDo
namespace Go.Proofs.Ytipbimbnpikbcaa
open Go.RowKit

section
/-- One behind the other. -/
theorem LoopLeft.comp {w w2 w4 : World} {b : Nat} {F F2 : Nat → Prop} {s : Lp} (h1 : Tch F w w2) (h2 : ∀ k, F2 k → F k ∨ w.heap.size ≤ k) (k : LoopLeft w2 w4 b F2 s) : LoopLeft w w4 b F s := by
  obtain ⟨k1, F4, k2, k3⟩ := k
  refine ⟨h1.then k1 (fun i hi hF => (h2 i hF).elim id (fun e => by omega)), F4, k2, fun i hi => ?_⟩
  rcases k3 i hi with e | e
  · exact h2 i e
  · exact .inr (Nat.le_trans h1.size e)
variable {w : World} {b : Nat} {s : Lp} {F : Nat → Prop}
theorem loop_adds_yes (h : LoopQ w b s F) (q : Nat) (kind fn : Int) (R : Lp) (hl : s.ab.length < 1024)
    (hput : ∀ w2 F2, LoopQ w2 b (moreL s) F2 → Calls Try.prog 31 #[.pointer (some ⟨b, q, none⟩), tkv ⟨kind, fn, 0, s.ab.length⟩] w2 fun e w' => e = .returned (.tuple #[]) ∧ LoopLeft w2 w' b F2 R) :
    Calls Try.prog 32 #[.pointer (some ⟨b, 0, none⟩), .pointer (some ⟨b, q, none⟩), .int .i64 kind, .int .i64 fn] w fun e w' => e = .returned (.tuple #[.int .i64 s.ab.length, .int .i64 0]) ∧ LoopLeft w w' b F R := by
  have hm := tmakeM_tok h.ok hl
  have hok := h.ok.more hl
  have HQ := Lib.hid h
  have HP := Lib.hid hput
  have HM := Lib.hid hm
  have HO := Lib.hid hok
  clear h hput hm hok hl
  generalize hn : s.ab.length = n at *
  go_enter Try.func32, Try.ntmps32
  go_wp2_with fail
  refine (loop_task HQ.out kind fn HM.out HO.out).mono ?_
  rintro e w2 ⟨rfl, h2⟩
  obtain ⟨t1, F2, q2, l2⟩ := h2
  have T1 := Lib.hid t1
  have L2 := Lib.hid l2
  have Q2 := Lib.hid q2
  unfold tkv at *
  clear t1 q2 l2 HM HO
  go_wp2_with fail
  have TA := (Tch.refl NoBlk w2).alloc (.cells #[.int .i64 kind, .int .i64 fn, .int .i64 0, .int .i64 n] 31)
  have hbW : Blk (w2.alloc (.cells #[.int .i64 kind, .int .i64 fn, .int .i64 0, .int .i64 n] 31)) w2.heap.size 31 [.int .i64 kind, .int .i64 fn, .int .i64 0, .int .i64 n] := heap_alloc_new w2 _
  have q3 := Q2.out.keep TA (fun _ _ h => h)
  have hnz : ∀ k, F2 k → k ≠ w2.heap.size := fun k hk => by have := Q2.out.lt k hk; omega
  generalize w2.alloc (.cells #[.int .i64 kind, .int .i64 fn, .int .i64 0, .int .i64 n] 31) = w3 at *
  generalize w2.heap.size = z at *
  refine (HP.out w3 F2 q3).mono ?_
  rintro e w4 ⟨rfl, h4⟩
  have hb4 := hbW.keep h4.1 (fun e => hnz z e rfl)
  have c3 := hb4.cellOf 3 _ rfl
  have HL : Hid (LoopLeft w w4 b F R) := Lib.hid (LoopLeft.comp T1.out L2.out (h4.ahead TA))
  clear h4 hb4 hbW q3 hnz TA
  go_wp2
  go_ret2
  exact ⟨rfl, HL.out⟩
theorem loop_adds_no (h : LoopQ w b s F) (q : Nat) (kind fn : Int) (hl : 1024 ≤ s.ab.length) :
    Calls Try.prog 32 #[.pointer (some ⟨b, 0, none⟩), .pointer (some ⟨b, q, none⟩), .int .i64 kind, .int .i64 fn] w fun e w' => e = .returned (.tuple #[.int .i64 0, .int .i64 3]) ∧ LoopLeft w w' b F s := by
  have hm := tmakeM_full h.ok hl
  have hok := h.ok
  have HQ := Lib.hid h
  have HM := Lib.hid hm
  have HO := Lib.hid hok
  clear h hm hok hl
  go_enter Try.func32, Try.ntmps32
  go_wp2_with fail
  refine (loop_task HQ.out kind fn HM.out HO.out).mono ?_
  rintro e w2 ⟨rfl, h2⟩
  have H2 : Hid (LoopLeft w w2 b F s) := Lib.hid h2
  unfold tkv at *
  clear h2 HM HO
  go_wp2
  go_ret2
  exact ⟨rfl, H2.out.then ((Tch.refl NoBlk w2).alloc _)⟩
end
end Go.Proofs.Ytipbimbnpikbcaa
