/- Write, Read; a law's loop: Stream, Write, Read. -/
import Derived.Test.YtipbimbnpikbcaaLoopMoves
import Derived.Test.YtipbimbnpikbcaaLoopLaw2
namespace Go.Proofs.Ytipbimbnpikbcaa
open Go.RowKit

section
variable {w : World} {b : Nat} {s : Lp} {F : Nat → Prop}
theorem loop_read (h : LoopQ w b s F) (id : Int) (hn : loadL s < 1000000) :
    Calls Try.prog 20 #[.pointer (some ⟨b, 0, none⟩), .int .i64 id] w fun e w' => e = .returned (.tuple #[.int .i64 (readL s id).2.1, .int .i64 (readL s id).2.2]) ∧ LoopLeft w w' b F (readL s id).1 := by
  have hm := loop_moves_read h h.lt id hn
  generalize readL s id = R at *
  have HM := Lib.hid hm
  clear hm hn h
  go_enter Try.func20, Try.ntmps20
  go_wp2_with fail
  refine HM.out.mono ?_
  rintro e w2 ⟨rfl, h2⟩
  go_wp2
  go_ret2
  exact ⟨rfl, h2⟩
theorem loop_write (h : LoopQ w b s F) (id v : Int) (hn : loadL s < 1000000) :
    Calls Try.prog 19 #[.pointer (some ⟨b, 0, none⟩), .int .i64 id, .int .i64 v] w fun e w' => e = .returned (.tuple #[.int .i64 (writeL s id v).2.1, .int .i64 (writeL s id v).2.2]) ∧ LoopLeft w w' b F (writeL s id v).1 := by
  have TA := (Tch.refl NoBlk w).alloc (.cells #[.int .i64 v] 3)
  have h1 := h.keep TA (fun _ _ h => h)
  have hb : Blk (w.alloc (.cells #[.int .i64 v] 3)) w.heap.size 3 [.int .i64 v] := heap_alloc_new w _
  have hm := loop_moves_write h1 h1.lt id hn v w.heap.size (hb.cellOf 0 _ rfl)
  generalize writeL s id v = R at *
  have HM := Lib.hid hm
  have HT := Lib.hid TA
  clear hm hn h h1 hb TA
  go_enter Try.func19, Try.ntmps19
  go_wp2_with fail
  refine HM.out.mono ?_
  rintro e w2 ⟨rfl, h2⟩
  have H2 := Lib.hid (h2.ahead HT.out)
  clear h2 HM HT
  go_wp2
  go_ret2
  exact ⟨rfl, H2.out⟩
end
section
variable {w0 w : World} {b : Nat} {s s' : Lp} {O : Nat → Prop}
theorem lpi_stream (h : LpI w0 w b s O) (room : Int) {x y : Nat} (hm : streamL s room = (s', x, y)) :
    Calls Try.prog 18 #[.pointer (some ⟨b, 0, none⟩), .int .i64 room] w fun e w' => e = .returned (.tuple #[.int .i64 x, .int .i64 y]) ∧ LpI w0 w' b s' O ∧ Tch (Oth w0 O) w w' :=
  h.via (fun _ q => by have := loop_stream q room; rw [hm] at this; exact this)
theorem lpi_write (h : LpI w0 w b s O) (id v : Int) (hn : loadL s < 1000000) {x : Nat} {y : Int} (hm : writeL s id v = (s', x, y)) :
    Calls Try.prog 19 #[.pointer (some ⟨b, 0, none⟩), .int .i64 id, .int .i64 v] w fun e w' => e = .returned (.tuple #[.int .i64 x, .int .i64 y]) ∧ LpI w0 w' b s' O ∧ Tch (Oth w0 O) w w' :=
  h.via (fun _ q => by have := loop_write q id v hn; rw [hm] at this; exact this)
theorem lpi_read (h : LpI w0 w b s O) (id : Int) (hn : loadL s < 1000000) {x : Nat} {y : Int} (hm : readL s id = (s', x, y)) :
    Calls Try.prog 20 #[.pointer (some ⟨b, 0, none⟩), .int .i64 id] w fun e w' => e = .returned (.tuple #[.int .i64 x, .int .i64 y]) ∧ LpI w0 w' b s' O ∧ Tch (Oth w0 O) w w' :=
  h.via (fun _ q => by have := loop_read q id hn; rw [hm] at this; exact this)
end
end Go.Proofs.Ytipbimbnpikbcaa
