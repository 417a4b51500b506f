import Derived.Test.YtipbimbnpikbcaaGreatMg18
import Derived.Test.YtipbimbnpikbcaaGreatMg19
import Derived.Test.YtipbimbnpikbcaaGreatMg33
/- A loop of a law's own, beside blocks of the law (O): what it answers. The document's examples. -/
namespace Go.Proofs.YtipbimbnpikbcaaGreat
open Go.RowKit

structure LpI (w0 w : World) (b : Nat) (s : Lp) (O : Nat → Prop) : Prop where
  q : ∃ F, LoopQ w b s F ∧ ∀ k, F k → w0.heap.size ≤ k ∧ ¬ O k
  below : Below w0.heap.size w0 w
  lt : ∀ k, O k → k < w.heap.size
/-- Blocks that are neither the law's, nor were there at first. -/
def Oth (w0 : World) (O : Nat → Prop) (k : Nat) : Prop := w0.heap.size ≤ k ∧ ¬ O k
section
variable {w0 w w' : World} {b : Nat} {s s' : Lp} {O O' S : Nat → Prop}
theorem LpI.ok (h : LpI w0 w b s O) : LOk s := by
  obtain ⟨F, q, _⟩ := h.q
  exact q.ok
theorem LpI.via {f : Nat} {args : Array Value} {V : Ending → Prop} (h : LpI w0 w b s O) (hc : ∀ F, LoopQ w b s F → Calls Tryz.prog f args w fun e w' => V e ∧ LoopLeft w w' b F s') :
    Calls Tryz.prog f args w fun e w' => V e ∧ LpI w0 w' b s' O ∧ Tch (Oth w0 O) w w' := by
  obtain ⟨F, q, hF⟩ := h.q
  refine (hc F q).mono ?_
  rintro e w' ⟨h1, h2, F', q', hF'⟩
  refine ⟨h1, ⟨⟨F', q', fun k hk => ?_⟩, below_tch h.below h2 (fun k hk => (hF k hk).1), fun k hk => Nat.lt_of_lt_of_le (h.lt k hk) h2.size⟩, h2.mono (fun k _ hk => hF k hk)⟩
  rcases hF' k hk with e | e
  · exact hF k e
  · exact ⟨Nat.le_trans h.below.size e, fun ho => by have := h.lt k ho; omega⟩
/-- The law touches its own blocks, and new ones; some of these are its own now. -/
theorem LpI.grow (h : LpI w0 w b s O) (ht : Tch S w w') (hS : ∀ k, S k → O k) (hB : ∀ k, S k → w0.heap.size ≤ k) (hO : ∀ k, O' k → (O k ∨ w.heap.size ≤ k) ∧ k < w'.heap.size) : LpI w0 w' b s O' := by
  obtain ⟨F, q, hF⟩ := h.q
  refine ⟨⟨F, q.keep ht (fun k hk e => (hF k hk).2 (hS k e)), fun k hk => ⟨(hF k hk).1, fun ho => ?_⟩⟩, below_tch h.below ht hB, fun k hk => (hO k hk).2⟩
  rcases (hO k ho).1 with e | e
  · exact (hF k hk).2 e
  · have := q.lt k hk
    omega
theorem LpI.new (h : LpI w0 w b s O) (ob : Obj) : LpI w0 (w.alloc ob) b s (fun k => O k ∨ k = w.heap.size) :=
  h.grow ((Tch.refl NoBlk w).alloc ob) (fun _ e => e.elim) (fun _ e => e.elim) (fun k hk => by
    rcases hk with hk | rfl
    · exact ⟨.inl hk, by have := h.lt k hk; simp; omega⟩
    · exact ⟨.inr (Nat.le_refl _), by simp⟩)
theorem LpI.touch (h : LpI w0 w b s O) (ht : Tch S w w') (hS : ∀ k, S k → O k) (hB : ∀ k, S k → w0.heap.size ≤ k) : LpI w0 w' b s O :=
  h.grow ht hS hB (fun k hk => ⟨.inl hk, Nat.lt_of_lt_of_le (h.lt k hk) ht.size⟩)
theorem LpI.nothing (h : LpI w0 w b s O) (ht : Tch NoBlk w w') : LpI w0 w' b s O := h.touch ht (fun _ e => e.elim) (fun _ e => e.elim)
theorem lpi_new (B : Below w0.heap.size w0 w) (hO : ∀ k, O k → k < w.heap.size) (n : Nat) (h1 : 1 ≤ n) (h2 : n ≤ 64) :
    Calls Tryz.prog 5 #[.int .i64 n] w fun e w' => ∃ b, e = .returned (.tuple #[.pointer (some ⟨b, 0, none⟩), .int .i64 0]) ∧ LpI w0 w' b (newL n) O ∧ Tch NoBlk w w' := by
  refine (loop_new_yes n w h1 h2).mono ?_
  rintro e w' ⟨b, F, rfl, q, hF, T⟩
  refine ⟨b, rfl, ⟨⟨F, q, fun k hk => ⟨Nat.le_trans B.size (hF k hk), fun ho => ?_⟩⟩, below_no B T, fun k hk => Nat.lt_of_lt_of_le (hO k hk) T.size⟩, T⟩
  have := hO k ho
  have := hF k hk
  omega
theorem lpi_spawn (h : LpI w0 w b s O) (fn : Int) (hn : s.mac.length < 1000000) {x y : Nat} (hm : spawnL s fn = (s', x, y)) :
    Calls Tryz.prog 15 #[.pointer (some ⟨b, 0, none⟩), .int .i64 fn] w fun e w' => e = .returned (.tuple #[.int .i64 x, .int .i64 y]) ∧ LpI w0 w' b s' O ∧ Tch (Oth w0 O) w w' :=
  h.via (fun _ q => by have := loop_spawn q fn hn; rw [hm] at this; exact this)
theorem lpi_micro (h : LpI w0 w b s O) (fn : Int) (hn : s.mic.length < 1000000) {x y : Nat} (hm : microL s fn = (s', x, y)) :
    Calls Tryz.prog 16 #[.pointer (some ⟨b, 0, none⟩), .int .i64 fn] w fun e w' => e = .returned (.tuple #[.int .i64 x, .int .i64 y]) ∧ LpI w0 w' b s' O ∧ Tch (Oth w0 O) w w' :=
  h.via (fun _ q => by have := loop_micro q fn hn; rw [hm] at this; exact this)
theorem lpi_cancel (h : LpI w0 w b s O) (id : Int) {y : Nat} (hm : cancelL s id = (s', y)) :
    Calls Tryz.prog 17 #[.pointer (some ⟨b, 0, none⟩), .int .i64 id] w fun e w' => e = .returned (.int .i64 y) ∧ LpI w0 w' b s' O ∧ Tch (Oth w0 O) w w' :=
  h.via (fun _ q => by have := loop_cancel q id; rw [hm] at this; exact this)
theorem lpi_resume (h : LpI w0 w b s O) (fn : Int) (hn : s.mac.length < 1000000) :
    Calls Tryz.prog 27 #[.pointer (some ⟨b, 0, none⟩), .int .i64 fn] w fun e w' => e = .returned (.int .i64 0) ∧ LpI w0 w' b (resumeL s fn) O ∧ Tch (Oth w0 O) w w' :=
  h.via (fun _ q => loop_resume q fn hn)
theorem lpi_promise (h : LpI w0 w b s O) {x y : Nat} (hm : promiseL s = (s', x, y)) :
    Calls Tryz.prog 28 #[.pointer (some ⟨b, 0, none⟩)] w fun e w' => e = .returned (.tuple #[.int .i64 x, .int .i64 y]) ∧ LpI w0 w' b s' O ∧ Tch (Oth w0 O) w w' :=
  h.via (fun _ q => by have := loop_promise q; rw [hm] at this; exact this)
theorem lpi_next (h : LpI w0 w b s O) {t : Option Tk} (hm : nextL s = (s', t)) :
    Calls Tryz.prog 8 #[.pointer (some ⟨b, 0, none⟩)] w fun e w' => e = .returned (.tuple #[tkv (t.getD tk0), .bool t.isSome]) ∧ LpI w0 w' b s' O ∧ Tch (Oth w0 O) w w' :=
  h.via (fun _ q => by have := loop_next q; rw [hm] at this; exact this)
theorem lpi_due (h : LpI w0 w b s O) {x : Int} {ok : Bool} (hm : nextM s.L = (x, ok)) :
    Calls Tryz.prog 13 #[.pointer (some ⟨b, 0, none⟩)] w fun e w' => e = .returned (.tuple #[.int .i64 x, .bool ok]) ∧ w' = w := by
  obtain ⟨F, q, _⟩ := h.q
  have := loop_due q
  rw [hm] at this
  exact this
theorem lpi_waits (h : LpI w0 w b s O) :
    Calls Tryz.prog 12 #[.pointer (some ⟨b, 0, none⟩)] w fun e w' => e = .returned (.tuple #[.int .i64 s.mac.length, .int .i64 s.mic.length, .int .i64 s.L.length]) ∧ ∃ n, w' = w.drewN n := by
  obtain ⟨F, q, _⟩ := h.q
  exact loop_waits q
end

def shS (ab : List Int) (off : List Bool) (told : Nat) (tok : Int) (mac mic : List Tk) : Lp := ⟨3, told, tok, mac, mic, [], [], 0, [], ab, off, []⟩
set_option maxHeartbeats 4000000 in
theorem loop_shown (w : World) : Calls Tryz.prog 4 #[] w fun e w' => e = .returned (.bool true) ∧ Tch NoBlk w w' := by
  go_enter Tryz.func4, Tryz.ntmps4
  go_wp2_with fail
  refine (lpi_new (O := fun _ => False) (Below.refl _ w) (fun _ h => h.elim) 3 (by omega) (by omega)).mono ?_
  rintro e w1 ⟨b, rfl, h1, _⟩
  go_wp2_with fail
  refine (lpi_spawn h1 1 (by decide) (s' := shS [-1] [false] 0 (-1) [⟨1, 1, 0, 0⟩] []) (x := 0) (y := 0) rfl).mono ?_
  rintro e w2 ⟨rfl, h2, _⟩
  clear h1
  go_wp2_with fail
  refine (lpi_micro h2 2 (by decide) (s' := shS [-1, -1] [false, false] 0 (-1) [⟨1, 1, 0, 0⟩] [⟨2, 2, 0, 1⟩]) (x := 1) (y := 0) rfl).mono ?_
  rintro e w3 ⟨rfl, h3, _⟩
  clear h2
  go_wp2_with fail
  refine (lpi_spawn h3 3 (by decide) (s' := shS [-1, -1, -1] [false, false, false] 0 (-1) [⟨1, 1, 0, 0⟩, ⟨1, 3, 0, 2⟩] [⟨2, 2, 0, 1⟩]) (x := 2) (y := 0) rfl).mono ?_
  rintro e w4 ⟨rfl, h4, _⟩
  clear h3
  go_wp2_with fail
  refine (lpi_cancel h4 0 (s' := shS [-1, -1, -1] [true, false, false] 0 (-1) [⟨1, 1, 0, 0⟩, ⟨1, 3, 0, 2⟩] [⟨2, 2, 0, 1⟩]) (y := 0) rfl).mono ?_
  rintro e w5 ⟨rfl, h5, _⟩
  clear h4
  go_wp2_with fail
  refine (lpi_next h5 (s' := shS [-1, -1, -1] [true, false, false] 1 1 [⟨1, 1, 0, 0⟩, ⟨1, 3, 0, 2⟩] []) (t := some ⟨2, 2, 0, 1⟩) rfl).mono ?_
  rintro e w6 ⟨rfl, h6, _⟩
  clear h5
  simp only [Option.getD_some, Option.isSome_some, tkv]
  go_wp2_with fail
  have h7 := h6.new (.cells #[.int .i64 2, .int .i64 2, .int .i64 0, .int .i64 1] 35)
  have hb7 : Blk (w6.alloc (.cells #[.int .i64 2, .int .i64 2, .int .i64 0, .int .i64 1] 35)) w6.heap.size 35 [.int .i64 2, .int .i64 2, .int .i64 0, .int .i64 1] := heap_alloc_new w6 _
  clear h6
  generalize w6.alloc (.cells #[.int .i64 2, .int .i64 2, .int .i64 0, .int .i64 1] 35) = w7 at *
  generalize w6.heap.size = z6 at *
  refine (lpi_next h7 (s' := shS [-1, -1, -1] [true, false, false] 0 2 [] []) (t := some ⟨1, 3, 0, 2⟩) rfl).mono ?_
  rintro e w8 ⟨rfl, h8, T8⟩
  have hb8 := hb7.keep T8 (fun e => e.2 (.inr rfl))
  clear h7 hb7 T8
  simp only [Option.getD_some, Option.isSome_some, tkv]
  go_wp2_with fail
  have h9 := h8.new (.cells #[.int .i64 1, .int .i64 3, .int .i64 0, .int .i64 2] 35)
  have hb9 := hb8.alloc (.cells #[.int .i64 1, .int .i64 3, .int .i64 0, .int .i64 2] 35)
  have ha9 : Blk (w8.alloc (.cells #[.int .i64 1, .int .i64 3, .int .i64 0, .int .i64 2] 35)) w8.heap.size 35 [.int .i64 1, .int .i64 3, .int .i64 0, .int .i64 2] := heap_alloc_new w8 _
  clear h8 hb8
  generalize w8.alloc (.cells #[.int .i64 1, .int .i64 3, .int .i64 0, .int .i64 2] 35) = w9 at *
  generalize w8.heap.size = z8 at *
  refine (lpi_next h9 (s' := shS [-1, -1, -1] [true, false, false] 0 2 [] []) (t := none) rfl).mono ?_
  rintro e w10 ⟨rfl, h10, T10⟩
  have hb10 := hb9.keep T10 (fun e => e.2 (.inl (.inr rfl)))
  have ha10 := ha9.keep T10 (fun e => e.2 (.inr rfl))
  have HB := Lib.hid h10.below
  have hbA := hb10.alloc (.cells #[.int .i64 0, .int .i64 0, .int .i64 0, .int .i64 0] 35)
  have haA := ha10.alloc (.cells #[.int .i64 0, .int .i64 0, .int .i64 0, .int .i64 0] 35)
  have k0 := hbA.cellOf 0 _ rfl
  have k1 := hbA.cellOf 1 _ rfl
  have j1 := haA.cellOf 1 _ rfl
  clear h9 hb9 ha9 T10 h10 hb10 ha10 hbA haA
  simp only [Option.getD_none, Option.isSome_none, tkv, tk0]
  go_wp2
  go_ret
  exact ⟨rfl, (Tch.of_below HB.out).alloc _⟩
end Go.Proofs.YtipbimbnpikbcaaGreat

/- A law's loop: After, Settle, Then. -/
namespace Go.Proofs.YtipbimbnpikbcaaGreat
open Go.RowKit

section
variable {w0 w : World} {b : Nat} {s s' : Lp} {O : Nat → Prop}
theorem lpi_after (h : LpI w0 w b s O) (due fn : Int) {x y : Nat} (hm : afterL s due fn = (s', x, y)) :
    Calls Tryz.prog 26 #[.pointer (some ⟨b, 0, none⟩), .int .i64 due, .int .i64 fn] w fun e w' => e = .returned (.tuple #[.int .i64 x, .int .i64 y]) ∧ LpI w0 w' b s' O ∧ Tch (Oth w0 O) w w' :=
  h.via (fun _ q => by have := loop_after q due fn; rw [hm] at this; exact this)
theorem lpi_settle (h : LpI w0 w b s O) (id v : Int) (hn : s.mic.length + (settleM s.prs id v).2.1.length < 1000000) {y : Nat} (hm : settleL s id v = (s', y)) :
    Calls Tryz.prog 29 #[.pointer (some ⟨b, 0, none⟩), .int .i64 id, .int .i64 v] w fun e w' => e = .returned (.int .i64 y) ∧ LpI w0 w' b s' O ∧ Tch (Oth w0 O) w w' :=
  h.via (fun _ q => by have := loop_settle q id v hn; rw [hm] at this; exact this)
theorem lpi_then (h : LpI w0 w b s O) (id fn : Int) (hn : s.mic.length < 1000000) {x y : Nat} (hm : thenL s id fn = (s', x, y)) :
    Calls Tryz.prog 30 #[.pointer (some ⟨b, 0, none⟩), .int .i64 id, .int .i64 fn] w fun e w' => e = .returned (.tuple #[.int .i64 x, .int .i64 y]) ∧ LpI w0 w' b s' O ∧ Tch (Oth w0 O) w w' :=
  h.via (fun _ q => by have := loop_then q id fn hn; rw [hm] at this; exact this)
end
end Go.Proofs.YtipbimbnpikbcaaGreat

/- Write, Read; a law's loop: Stream, Write, Read. -/
namespace Go.Proofs.YtipbimbnpikbcaaGreat
open Go.RowKit

section
variable {w : World} {b : Nat} {s : Lp} {F : Nat → Prop}
theorem loop_read (h : LoopQ w b s F) (id : Int) (hn : loadL s < 1000000) :
    Calls Tryz.prog 33 #[.pointer (some ⟨b, 0, none⟩), .int .i64 id] w fun e w' => e = .returned (.tuple #[.int .i64 (readL s id).2.1, .int .i64 (readL s id).2.2]) ∧ LoopLeft w w' b F (readL s id).1 := by
  have hm := loop_moves_read h h.lt id hn
  generalize readL s id = R at *
  have HM := Lib.hid hm
  clear hm hn h
  go_enter Tryz.func33, Tryz.ntmps33
  go_wp2_with fail
  refine HM.out.mono ?_
  rintro e w2 ⟨rfl, h2⟩
  go_wp2
  go_ret2
  exact ⟨rfl, h2⟩
theorem loop_write (h : LoopQ w b s F) (id v : Int) (hn : loadL s < 1000000) :
    Calls Tryz.prog 32 #[.pointer (some ⟨b, 0, none⟩), .int .i64 id, .int .i64 v] w fun e w' => e = .returned (.tuple #[.int .i64 (writeL s id v).2.1, .int .i64 (writeL s id v).2.2]) ∧ LoopLeft w w' b F (writeL s id v).1 := by
  have TA := (Tch.refl NoBlk w).alloc (.cells #[.int .i64 v] 3)
  have h1 := h.keep TA (fun _ _ h => h)
  have hb : Blk (w.alloc (.cells #[.int .i64 v] 3)) w.heap.size 3 [.int .i64 v] := heap_alloc_new w _
  have hm := loop_moves_write h1 h1.lt id hn v w.heap.size (hb.cellOf 0 _ rfl)
  generalize writeL s id v = R at *
  have HM := Lib.hid hm
  have HT := Lib.hid TA
  clear hm hn h h1 hb TA
  go_enter Tryz.func32, Tryz.ntmps32
  go_wp2_with fail
  refine HM.out.mono ?_
  rintro e w2 ⟨rfl, h2⟩
  have H2 := Lib.hid (h2.ahead HT.out)
  clear h2 HM HT
  go_wp2
  go_ret2
  exact ⟨rfl, H2.out⟩
end
section
variable {w0 w : World} {b : Nat} {s s' : Lp} {O : Nat → Prop}
theorem lpi_stream (h : LpI w0 w b s O) (room : Int) {x y : Nat} (hm : streamL s room = (s', x, y)) :
    Calls Tryz.prog 31 #[.pointer (some ⟨b, 0, none⟩), .int .i64 room] w fun e w' => e = .returned (.tuple #[.int .i64 x, .int .i64 y]) ∧ LpI w0 w' b s' O ∧ Tch (Oth w0 O) w w' :=
  h.via (fun _ q => by have := loop_stream q room; rw [hm] at this; exact this)
theorem lpi_write (h : LpI w0 w b s O) (id v : Int) (hn : loadL s < 1000000) {x : Nat} {y : Int} (hm : writeL s id v = (s', x, y)) :
    Calls Tryz.prog 32 #[.pointer (some ⟨b, 0, none⟩), .int .i64 id, .int .i64 v] w fun e w' => e = .returned (.tuple #[.int .i64 x, .int .i64 y]) ∧ LpI w0 w' b s' O ∧ Tch (Oth w0 O) w w' :=
  h.via (fun _ q => by have := loop_write q id v hn; rw [hm] at this; exact this)
theorem lpi_read (h : LpI w0 w b s O) (id : Int) (hn : loadL s < 1000000) {x : Nat} {y : Int} (hm : readL s id = (s', x, y)) :
    Calls Tryz.prog 33 #[.pointer (some ⟨b, 0, none⟩), .int .i64 id] w fun e w' => e = .returned (.tuple #[.int .i64 x, .int .i64 y]) ∧ LpI w0 w' b s' O ∧ Tch (Oth w0 O) w w' :=
  h.via (fun _ q => by have := loop_read q id hn; rw [hm] at this; exact this)
end
end Go.Proofs.YtipbimbnpikbcaaGreat
