/- A loop of a law's own, beside blocks of the law (O): what it answers. The document's examples. -/
import Derived.Test.YtipbimbnpikbcaaLoopNext
namespace Go.Proofs.Ytipbimbnpikbcaa
open Go.RowKit

structure LpI (w0 w : World) (b : Nat) (s : Lp) (O : Nat → Prop) : Prop where
  q : ∃ F, LoopQ w b s F ∧ ∀ k, F k → w0.heap.size ≤ k ∧ ¬ O k
  below : Below w0.heap.size w0 w
  lt : ∀ k, O k → k < w.heap.size
/-- Blocks that are neither the law's, nor were there at first. -/
def Oth (w0 : World) (O : Nat → Prop) (k : Nat) : Prop := w0.heap.size ≤ k ∧ ¬ O k
section
variable {w0 w w' : World} {b : Nat} {s s' : Lp} {O O' S : Nat → Prop}
theorem LpI.ok (h : LpI w0 w b s O) : LOk s := by
  obtain ⟨F, q, _⟩ := h.q
  exact q.ok
theorem LpI.via {f : Nat} {args : Array Value} {V : Ending → Prop} (h : LpI w0 w b s O) (hc : ∀ F, LoopQ w b s F → Calls Try.prog f args w fun e w' => V e ∧ LoopLeft w w' b F s') :
    Calls Try.prog f args w fun e w' => V e ∧ LpI w0 w' b s' O ∧ Tch (Oth w0 O) w w' := by
  obtain ⟨F, q, hF⟩ := h.q
  refine (hc F q).mono ?_
  rintro e w' ⟨h1, h2, F', q', hF'⟩
  refine ⟨h1, ⟨⟨F', q', fun k hk => ?_⟩, below_tch h.below h2 (fun k hk => (hF k hk).1), fun k hk => Nat.lt_of_lt_of_le (h.lt k hk) h2.size⟩, h2.mono (fun k _ hk => hF k hk)⟩
  rcases hF' k hk with e | e
  · exact hF k e
  · exact ⟨Nat.le_trans h.below.size e, fun ho => by have := h.lt k ho; omega⟩
/-- The law touches its own blocks, and new ones; some of these are its own now. -/
theorem LpI.grow (h : LpI w0 w b s O) (ht : Tch S w w') (hS : ∀ k, S k → O k) (hB : ∀ k, S k → w0.heap.size ≤ k) (hO : ∀ k, O' k → (O k ∨ w.heap.size ≤ k) ∧ k < w'.heap.size) : LpI w0 w' b s O' := by
  obtain ⟨F, q, hF⟩ := h.q
  refine ⟨⟨F, q.keep ht (fun k hk e => (hF k hk).2 (hS k e)), fun k hk => ⟨(hF k hk).1, fun ho => ?_⟩⟩, below_tch h.below ht hB, fun k hk => (hO k hk).2⟩
  rcases (hO k ho).1 with e | e
  · exact (hF k hk).2 e
  · have := q.lt k hk
    omega
theorem LpI.new (h : LpI w0 w b s O) (ob : Obj) : LpI w0 (w.alloc ob) b s (fun k => O k ∨ k = w.heap.size) :=
  h.grow ((Tch.refl NoBlk w).alloc ob) (fun _ e => e.elim) (fun _ e => e.elim) (fun k hk => by
    rcases hk with hk | rfl
    · exact ⟨.inl hk, by have := h.lt k hk; simp; omega⟩
    · exact ⟨.inr (Nat.le_refl _), by simp⟩)
theorem LpI.touch (h : LpI w0 w b s O) (ht : Tch S w w') (hS : ∀ k, S k → O k) (hB : ∀ k, S k → w0.heap.size ≤ k) : LpI w0 w' b s O :=
  h.grow ht hS hB (fun k hk => ⟨.inl hk, Nat.lt_of_lt_of_le (h.lt k hk) ht.size⟩)
theorem LpI.nothing (h : LpI w0 w b s O) (ht : Tch NoBlk w w') : LpI w0 w' b s O := h.touch ht (fun _ e => e.elim) (fun _ e => e.elim)
theorem lpi_new (B : Below w0.heap.size w0 w) (hO : ∀ k, O k → k < w.heap.size) (n : Nat) (h1 : 1 ≤ n) (h2 : n ≤ 64) :
    Calls Try.prog 27 #[.int .i64 n] w fun e w' => ∃ b, e = .returned (.tuple #[.pointer (some ⟨b, 0, none⟩), .int .i64 0]) ∧ LpI w0 w' b (newL n) O ∧ Tch NoBlk w w' := by
  refine (loop_new_yes n w h1 h2).mono ?_
  rintro e w' ⟨b, F, rfl, q, hF, T⟩
  refine ⟨b, rfl, ⟨⟨F, q, fun k hk => ⟨Nat.le_trans B.size (hF k hk), fun ho => ?_⟩⟩, below_no B T, fun k hk => Nat.lt_of_lt_of_le (hO k hk) T.size⟩, T⟩
  have := hO k ho
  have := hF k hk
  omega
theorem lpi_spawn (h : LpI w0 w b s O) (fn : Int) (hn : s.mac.length < 1000000) {x y : Nat} (hm : spawnL s fn = (s', x, y)) :
    Calls Try.prog 13 #[.pointer (some ⟨b, 0, none⟩), .int .i64 fn] w fun e w' => e = .returned (.tuple #[.int .i64 x, .int .i64 y]) ∧ LpI w0 w' b s' O ∧ Tch (Oth w0 O) w w' :=
  h.via (fun _ q => by have := loop_spawn q fn hn; rw [hm] at this; exact this)
theorem lpi_micro (h : LpI w0 w b s O) (fn : Int) (hn : s.mic.length < 1000000) {x y : Nat} (hm : microL s fn = (s', x, y)) :
    Calls Try.prog 14 #[.pointer (some ⟨b, 0, none⟩), .int .i64 fn] w fun e w' => e = .returned (.tuple #[.int .i64 x, .int .i64 y]) ∧ LpI w0 w' b s' O ∧ Tch (Oth w0 O) w w' :=
  h.via (fun _ q => by have := loop_micro q fn hn; rw [hm] at this; exact this)
theorem lpi_cancel (h : LpI w0 w b s O) (id : Int) {y : Nat} (hm : cancelL s id = (s', y)) :
    Calls Try.prog 25 #[.pointer (some ⟨b, 0, none⟩), .int .i64 id] w fun e w' => e = .returned (.int .i64 y) ∧ LpI w0 w' b s' O ∧ Tch (Oth w0 O) w w' :=
  h.via (fun _ q => by have := loop_cancel q id; rw [hm] at this; exact this)
theorem lpi_resume (h : LpI w0 w b s O) (fn : Int) (hn : s.mac.length < 1000000) :
    Calls Try.prog 24 #[.pointer (some ⟨b, 0, none⟩), .int .i64 fn] w fun e w' => e = .returned (.int .i64 0) ∧ LpI w0 w' b (resumeL s fn) O ∧ Tch (Oth w0 O) w w' :=
  h.via (fun _ q => loop_resume q fn hn)
theorem lpi_promise (h : LpI w0 w b s O) {x y : Nat} (hm : promiseL s = (s', x, y)) :
    Calls Try.prog 16 #[.pointer (some ⟨b, 0, none⟩)] w fun e w' => e = .returned (.tuple #[.int .i64 x, .int .i64 y]) ∧ LpI w0 w' b s' O ∧ Tch (Oth w0 O) w w' :=
  h.via (fun _ q => by have := loop_promise q; rw [hm] at this; exact this)
theorem lpi_next (h : LpI w0 w b s O) {t : Option Tk} (hm : nextL s = (s', t)) :
    Calls Try.prog 21 #[.pointer (some ⟨b, 0, none⟩)] w fun e w' => e = .returned (.tuple #[tkv (t.getD tk0), .bool t.isSome]) ∧ LpI w0 w' b s' O ∧ Tch (Oth w0 O) w w' :=
  h.via (fun _ q => by have := loop_next q; rw [hm] at this; exact this)
theorem lpi_due (h : LpI w0 w b s O) {x : Int} {ok : Bool} (hm : nextM s.L = (x, ok)) :
    Calls Try.prog 22 #[.pointer (some ⟨b, 0, none⟩)] w fun e w' => e = .returned (.tuple #[.int .i64 x, .bool ok]) ∧ w' = w := by
  obtain ⟨F, q, _⟩ := h.q
  have := loop_due q
  rw [hm] at this
  exact this
theorem lpi_waits (h : LpI w0 w b s O) :
    Calls Try.prog 23 #[.pointer (some ⟨b, 0, none⟩)] w fun e w' => e = .returned (.tuple #[.int .i64 s.mac.length, .int .i64 s.mic.length, .int .i64 s.L.length]) ∧ ∃ n, w' = w.drewN n := by
  obtain ⟨F, q, _⟩ := h.q
  exact loop_waits q
end

def shS (ab : List Int) (off : List Bool) (told : Nat) (tok : Int) (mac mic : List Tk) : Lp := ⟨3, told, tok, mac, mic, [], [], 0, [], ab, off, []⟩
set_option maxHeartbeats 4000000 in
theorem loop_shown (w : World) : Calls Try.prog 11 #[] w fun e w' => e = .returned (.bool true) ∧ Tch NoBlk w w' := by
  go_enter Try.func11, Try.ntmps11
  go_wp2_with fail
  refine (lpi_new (O := fun _ => False) (Below.refl _ w) (fun _ h => h.elim) 3 (by omega) (by omega)).mono ?_
  rintro e w1 ⟨b, rfl, h1, _⟩
  go_wp2_with fail
  refine (lpi_spawn h1 1 (by decide) (s' := shS [-1] [false] 0 (-1) [⟨1, 1, 0, 0⟩] []) (x := 0) (y := 0) rfl).mono ?_
  rintro e w2 ⟨rfl, h2, _⟩
  clear h1
  go_wp2_with fail
  refine (lpi_micro h2 2 (by decide) (s' := shS [-1, -1] [false, false] 0 (-1) [⟨1, 1, 0, 0⟩] [⟨2, 2, 0, 1⟩]) (x := 1) (y := 0) rfl).mono ?_
  rintro e w3 ⟨rfl, h3, _⟩
  clear h2
  go_wp2_with fail
  refine (lpi_spawn h3 3 (by decide) (s' := shS [-1, -1, -1] [false, false, false] 0 (-1) [⟨1, 1, 0, 0⟩, ⟨1, 3, 0, 2⟩] [⟨2, 2, 0, 1⟩]) (x := 2) (y := 0) rfl).mono ?_
  rintro e w4 ⟨rfl, h4, _⟩
  clear h3
  go_wp2_with fail
  refine (lpi_cancel h4 0 (s' := shS [-1, -1, -1] [true, false, false] 0 (-1) [⟨1, 1, 0, 0⟩, ⟨1, 3, 0, 2⟩] [⟨2, 2, 0, 1⟩]) (y := 0) rfl).mono ?_
  rintro e w5 ⟨rfl, h5, _⟩
  clear h4
  go_wp2_with fail
  refine (lpi_next h5 (s' := shS [-1, -1, -1] [true, false, false] 1 1 [⟨1, 1, 0, 0⟩, ⟨1, 3, 0, 2⟩] []) (t := some ⟨2, 2, 0, 1⟩) rfl).mono ?_
  rintro e w6 ⟨rfl, h6, _⟩
  clear h5
  simp only [Option.getD_some, Option.isSome_some, tkv]
  go_wp2_with fail
  have h7 := h6.new (.cells #[.int .i64 2, .int .i64 2, .int .i64 0, .int .i64 1] 31)
  have hb7 : Blk (w6.alloc (.cells #[.int .i64 2, .int .i64 2, .int .i64 0, .int .i64 1] 31)) w6.heap.size 31 [.int .i64 2, .int .i64 2, .int .i64 0, .int .i64 1] := heap_alloc_new w6 _
  clear h6
  generalize w6.alloc (.cells #[.int .i64 2, .int .i64 2, .int .i64 0, .int .i64 1] 31) = w7 at *
  generalize w6.heap.size = z6 at *
  refine (lpi_next h7 (s' := shS [-1, -1, -1] [true, false, false] 0 2 [] []) (t := some ⟨1, 3, 0, 2⟩) rfl).mono ?_
  rintro e w8 ⟨rfl, h8, T8⟩
  have hb8 := hb7.keep T8 (fun e => e.2 (.inr rfl))
  clear h7 hb7 T8
  simp only [Option.getD_some, Option.isSome_some, tkv]
  go_wp2_with fail
  have h9 := h8.new (.cells #[.int .i64 1, .int .i64 3, .int .i64 0, .int .i64 2] 31)
  have hb9 := hb8.alloc (.cells #[.int .i64 1, .int .i64 3, .int .i64 0, .int .i64 2] 31)
  have ha9 : Blk (w8.alloc (.cells #[.int .i64 1, .int .i64 3, .int .i64 0, .int .i64 2] 31)) w8.heap.size 31 [.int .i64 1, .int .i64 3, .int .i64 0, .int .i64 2] := heap_alloc_new w8 _
  clear h8 hb8
  generalize w8.alloc (.cells #[.int .i64 1, .int .i64 3, .int .i64 0, .int .i64 2] 31) = w9 at *
  generalize w8.heap.size = z8 at *
  refine (lpi_next h9 (s' := shS [-1, -1, -1] [true, false, false] 0 2 [] []) (t := none) rfl).mono ?_
  rintro e w10 ⟨rfl, h10, T10⟩
  have hb10 := hb9.keep T10 (fun e => e.2 (.inl (.inr rfl)))
  have ha10 := ha9.keep T10 (fun e => e.2 (.inr rfl))
  have HB := Lib.hid h10.below
  have hbA := hb10.alloc (.cells #[.int .i64 0, .int .i64 0, .int .i64 0, .int .i64 0] 31)
  have haA := ha10.alloc (.cells #[.int .i64 0, .int .i64 0, .int .i64 0, .int .i64 0] 31)
  have k0 := hbA.cellOf 0 _ rfl
  have k1 := hbA.cellOf 1 _ rfl
  have j1 := haA.cellOf 1 _ rfl
  clear h9 hb9 ha9 T10 h10 hb10 ha10 hbA haA
  simp only [Option.getD_none, Option.isSome_none, tkv, tk0]
  go_wp2
  go_ret
  exact ⟨rfl, (Tch.of_below HB.out).alloc _⟩
end Go.Proofs.Ytipbimbnpikbcaa
