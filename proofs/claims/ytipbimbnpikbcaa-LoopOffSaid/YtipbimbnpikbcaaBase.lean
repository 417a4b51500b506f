/- Words on memory: a block known whole, what a call may have touched. -/
import Derived.WalkKit
import Derived.Deep.QuietTactic
import Derived.BigQuiet
import Derived.StillTailTactics
import Derived.Deep.RegionHeld3
import Derived.Lib.Hide
namespace Go.Proofs.Ytipbimbnpikbcaa
open Go.RowKit

/-- Block b is the row of cells cs, of type T, none of them frozen. -/
def Blk (w : World) (b : Nat) (T : TypeId) (cs : List Value) : Prop := w.heap[b]? = some (.cells cs.toArray T (0, 0))

/-- w' is w but for new blocks and for what lies in blocks of S. -/
structure Tch (S : Nat → Prop) (w w' : World) : Prop where
  os : w'.os = w.os
  tape : w'.tape = w.tape
  output : w'.output = w.output
  size : w.heap.size ≤ w'.heap.size
  block : ∀ k, k < w.heap.size → ¬ S k → w'.heap[k]? = w.heap[k]?

/-- Nothing that was there. -/
def NoBlk : Nat → Prop := fun _ => False

theorem Tch.refl (S : Nat → Prop) (w : World) : Tch S w w := ⟨rfl, rfl, rfl, Nat.le_refl _, fun _ _ _ => rfl⟩

theorem Tch.trans {S : Nat → Prop} {a b c : World} (h : Tch S a b) (k : Tch S b c) : Tch S a c :=
  ⟨k.os.trans h.os, k.tape.trans h.tape, k.output.trans h.output, Nat.le_trans h.size k.size, fun i hi hS => (k.block i (Nat.lt_of_lt_of_le hi h.size) hS).trans (h.block i hi hS)⟩

/-- The second step's blocks are the first's, or lie behind what was there at first. -/
theorem Tch.then {S T : Nat → Prop} {a b c : World} (h : Tch S a b) (k : Tch T b c) (hT : ∀ i, i < a.heap.size → T i → S i) : Tch S a c :=
  ⟨k.os.trans h.os, k.tape.trans h.tape, k.output.trans h.output, Nat.le_trans h.size k.size, fun i hi hS => (k.block i (Nat.lt_of_lt_of_le hi h.size) (fun hTi => hS (hT i hi hTi))).trans (h.block i hi hS)⟩

theorem Tch.mono {S T : Nat → Prop} {w w' : World} (h : Tch S w w') (hS : ∀ i, i < w.heap.size → S i → T i) : Tch T w w' :=
  ⟨h.os, h.tape, h.output, h.size, fun k hk hT => h.block k hk (fun hk' => hT (hS k hk hk'))⟩

theorem Tch.alloc {S : Nat → Prop} {a w : World} (h : Tch S a w) (o : Obj) : Tch S a (w.alloc o) :=
  h.trans ⟨rfl, rfl, rfl, by simp, fun k hk _ => Below.heap_alloc _ _ _ hk⟩

theorem Tch.setCell {S : Nat → Prop} {a w : World} (h : Tch S a w) {p : Addr} (hp : p.block < a.heap.size → S p.block) (u : Value) : Tch S a (w.setCell p u) :=
  h.then (T := fun i => i = p.block) ⟨rfl, rfl, rfl, by simp [World.setCell], fun _ _ hk => Below.heap_setCell _ _ _ _ hk⟩ (fun i hi e => by subst e; exact hp hi)

theorem Tch.drewN {S : Nat → Prop} {a w : World} (h : Tch S a w) (n : Nat) : Tch S a (w.drewN n) := ⟨h.os, h.tape, h.output, h.size, h.block⟩
theorem Tch.drew {S : Nat → Prop} {a w : World} (h : Tch S a w) : Tch S a w.drew := ⟨h.os, h.tape, h.output, h.size, h.block⟩

theorem Tch.grown {S : Nat → Prop} {a w w' : World} {row : Option Nat} (h : Tch S a w) (hg : w.grownBy w' row) (hr : ∀ k, row = some k → k < a.heap.size → S k) : Tch S a w' :=
  h.then (T := fun i => row = some i) ⟨hg.os, hg.tape, hg.output, hg.size, fun k hk hS => hg.block k hk (fun e => hS e.symm)⟩ (fun i hi e => hr i e hi)

theorem Tch.below {w w' : World} (h : Tch NoBlk w w') : Below w.heap.size w w' := ⟨h.os, h.tape, h.output, h.size, fun k hk => h.block k hk (fun h => h)⟩
theorem Tch.of_below {w w' : World} (h : Below w.heap.size w w') : Tch NoBlk w w' := ⟨h.os, h.tape, h.output, h.size, fun k hk _ => h.block k hk⟩
theorem Tch.cell {S : Nat → Prop} {w w' : World} (h : Tch S w w') {p : Addr} (hp : p.block < w.heap.size) (hS : ¬ S p.block) : w'.cell? p = w.cell? p := World.cell?_of_block (h.block _ hp hS)
theorem Tch.cell' {S : Nat → Prop} {w w' : World} (h : Tch S w w') {p : Addr} {v : Value} (hc : w.cell? p = some v) (hS : ¬ S p.block) : w'.cell? p = some v :=
  (h.cell (World.block_lt_of_cell? w p hc) hS).trans hc

/-- What lies below w0's end is as it was, and stays so where a step touches no more than what is new. -/
theorem below_tch {w0 w w' : World} {S : Nat → Prop} (h : Below w0.heap.size w0 w) (ht : Tch S w w') (hS : ∀ k, S k → w0.heap.size ≤ k) : Below w0.heap.size w0 w' :=
  h.trans ⟨ht.os, ht.tape, ht.output, ht.size, fun k hk => ht.block k (Nat.lt_of_lt_of_le hk h.size) (fun hs => by have := hS k hs; omega)⟩
theorem below_no {w0 w w' : World} (h : Below w0.heap.size w0 w) (ht : Tch NoBlk w w') : Below w0.heap.size w0 w' := below_tch h ht (fun _ h => h.elim)
theorem below_one {w0 w w' : World} {b : Nat} (h : Below w0.heap.size w0 w) (ht : Tch (· = b) w w') (hb : w0.heap.size ≤ b) : Below w0.heap.size w0 w' := below_tch h ht (fun _ h => h ▸ hb)

theorem Blk.lt {w : World} {b : Nat} {T : TypeId} {cs : List Value} (h : Blk w b T cs) : b < w.heap.size := (Array.getElem?_eq_some_iff.1 h).1

theorem Blk.cell {w : World} {b : Nat} {T : TypeId} {cs : List Value} (h : Blk w b T cs) (i : Nat) : w.cell? ⟨b, i, none⟩ = cs[i]? := by
  unfold Blk at h
  simp [World.cell?, h]

theorem Blk.cellOf {w : World} {b : Nat} {T : TypeId} {cs : List Value} (h : Blk w b T cs) (i : Nat) (v : Value) (hv : cs[i]? = some v) : w.cell? ⟨b, i, none⟩ = some v := (h.cell i).trans hv

theorem Blk.free {w : World} {b : Nat} {T : TypeId} {cs : List Value} (h : Blk w b T cs) (i : Nat) : w.frozen? ⟨b, i, none⟩ = false := by
  unfold Blk at h
  simp [World.frozen?, h]

theorem Blk.keep {S : Nat → Prop} {w w' : World} {b : Nat} {T : TypeId} {cs : List Value} (h : Blk w b T cs) (ht : Tch S w w') (hb : ¬ S b) : Blk w' b T cs := (ht.block b h.lt hb).trans h

theorem Blk.drewN {w : World} {b : Nat} {T : TypeId} {cs : List Value} (h : Blk w b T cs) (n : Nat) : Blk (w.drewN n) b T cs := h
theorem Blk.alloc {w : World} {b : Nat} {T : TypeId} {cs : List Value} (h : Blk w b T cs) (o : Obj) : Blk (w.alloc o) b T cs := (Below.heap_alloc _ _ _ h.lt).trans h

theorem Blk.set {w : World} {b : Nat} {T : TypeId} {cs : List Value} (h : Blk w b T cs) (i : Nat) (v : Value) : Blk (w.setCell ⟨b, i, none⟩ v) b T (cs.set i v) := by
  unfold Blk at *
  simp [World.setCell, Array.getElem?_modify, h]

theorem Blk.setOther {w : World} {b : Nat} {T : TypeId} {cs : List Value} (h : Blk w b T cs) {a : Addr} (v : Value) (hne : b ≠ a.block) : Blk (w.setCell a v) b T cs :=
  (Below.heap_setCell _ _ _ _ hne).trans h

theorem Blk.new (w : World) (T : TypeId) (cs : List Value) : Blk (w.alloc (.cells cs.toArray T (0, 0))) w.heap.size T cs := heap_alloc_new w _

theorem ret_int {k : IntKind} {a b : Int} (h : a = b) : Ending.returned (.int k a) = .returned (.int k b) := by rw [h]

end Go.Proofs.Ytipbimbnpikbcaa
