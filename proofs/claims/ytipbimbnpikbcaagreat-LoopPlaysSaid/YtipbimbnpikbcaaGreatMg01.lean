import Derived.WalkKit
import Derived.Deep.QuietTactic
import Derived.BigQuiet
import Derived.StillTailTactics
import Derived.Deep.RegionHeld3
import Derived.Lib.Hide
import Derived.ProofKit
import Derived.OpenShut
import Derived.ShutString
import Derived.ChangeOld
import Derived.SliceStrings
import Derived.Deep.Slices
import Derived.Deep.Fields
import Derived.Deep.Grids
/- Words on memory: a block known whole, what a call may have touched. -/
namespace Go.Proofs.YtipbimbnpikbcaaGreat
open Go.RowKit

/-- Block b is the row of cells cs, of type T, none of them frozen. -/
def Blk (w : World) (b : Nat) (T : TypeId) (cs : List Value) : Prop := w.heap[b]? = some (.cells cs.toArray T (0, 0))

/-- w' is w but for new blocks and for what lies in blocks of S. -/
structure Tch (S : Nat → Prop) (w w' : World) : Prop where
  os : w'.os = w.os
  tape : w'.tape = w.tape
  output : w'.output = w.output
  size : w.heap.size ≤ w'.heap.size
  block : ∀ k, k < w.heap.size → ¬ S k → w'.heap[k]? = w.heap[k]?

/-- Nothing that was there. -/
def NoBlk : Nat → Prop := fun _ => False

theorem Tch.refl (S : Nat → Prop) (w : World) : Tch S w w := ⟨rfl, rfl, rfl, Nat.le_refl _, fun _ _ _ => rfl⟩

theorem Tch.trans {S : Nat → Prop} {a b c : World} (h : Tch S a b) (k : Tch S b c) : Tch S a c :=
  ⟨k.os.trans h.os, k.tape.trans h.tape, k.output.trans h.output, Nat.le_trans h.size k.size, fun i hi hS => (k.block i (Nat.lt_of_lt_of_le hi h.size) hS).trans (h.block i hi hS)⟩

/-- The second step's blocks are the first's, or lie behind what was there at first. -/
theorem Tch.then {S T : Nat → Prop} {a b c : World} (h : Tch S a b) (k : Tch T b c) (hT : ∀ i, i < a.heap.size → T i → S i) : Tch S a c :=
  ⟨k.os.trans h.os, k.tape.trans h.tape, k.output.trans h.output, Nat.le_trans h.size k.size, fun i hi hS => (k.block i (Nat.lt_of_lt_of_le hi h.size) (fun hTi => hS (hT i hi hTi))).trans (h.block i hi hS)⟩

theorem Tch.mono {S T : Nat → Prop} {w w' : World} (h : Tch S w w') (hS : ∀ i, i < w.heap.size → S i → T i) : Tch T w w' :=
  ⟨h.os, h.tape, h.output, h.size, fun k hk hT => h.block k hk (fun hk' => hT (hS k hk hk'))⟩

theorem Tch.alloc {S : Nat → Prop} {a w : World} (h : Tch S a w) (o : Obj) : Tch S a (w.alloc o) :=
  h.trans ⟨rfl, rfl, rfl, by simp, fun k hk _ => Below.heap_alloc _ _ _ hk⟩

theorem Tch.setCell {S : Nat → Prop} {a w : World} (h : Tch S a w) {p : Addr} (hp : p.block < a.heap.size → S p.block) (u : Value) : Tch S a (w.setCell p u) :=
  h.then (T := fun i => i = p.block) ⟨rfl, rfl, rfl, by simp [World.setCell], fun _ _ hk => Below.heap_setCell _ _ _ _ hk⟩ (fun i hi e => by subst e; exact hp hi)

theorem Tch.drewN {S : Nat → Prop} {a w : World} (h : Tch S a w) (n : Nat) : Tch S a (w.drewN n) := ⟨h.os, h.tape, h.output, h.size, h.block⟩
theorem Tch.drew {S : Nat → Prop} {a w : World} (h : Tch S a w) : Tch S a w.drew := ⟨h.os, h.tape, h.output, h.size, h.block⟩

theorem Tch.grown {S : Nat → Prop} {a w w' : World} {row : Option Nat} (h : Tch S a w) (hg : w.grownBy w' row) (hr : ∀ k, row = some k → k < a.heap.size → S k) : Tch S a w' :=
  h.then (T := fun i => row = some i) ⟨hg.os, hg.tape, hg.output, hg.size, fun k hk hS => hg.block k hk (fun e => hS e.symm)⟩ (fun i hi e => hr i e hi)

theorem Tch.below {w w' : World} (h : Tch NoBlk w w') : Below w.heap.size w w' := ⟨h.os, h.tape, h.output, h.size, fun k hk => h.block k hk (fun h => h)⟩
theorem Tch.of_below {w w' : World} (h : Below w.heap.size w w') : Tch NoBlk w w' := ⟨h.os, h.tape, h.output, h.size, fun k hk _ => h.block k hk⟩
theorem Tch.cell {S : Nat → Prop} {w w' : World} (h : Tch S w w') {p : Addr} (hp : p.block < w.heap.size) (hS : ¬ S p.block) : w'.cell? p = w.cell? p := World.cell?_of_block (h.block _ hp hS)
theorem Tch.cell' {S : Nat → Prop} {w w' : World} (h : Tch S w w') {p : Addr} {v : Value} (hc : w.cell? p = some v) (hS : ¬ S p.block) : w'.cell? p = some v :=
  (h.cell (World.block_lt_of_cell? w p hc) hS).trans hc

/-- What lies below w0's end is as it was, and stays so where a step touches no more than what is new. -/
theorem below_tch {w0 w w' : World} {S : Nat → Prop} (h : Below w0.heap.size w0 w) (ht : Tch S w w') (hS : ∀ k, S k → w0.heap.size ≤ k) : Below w0.heap.size w0 w' :=
  h.trans ⟨ht.os, ht.tape, ht.output, ht.size, fun k hk => ht.block k (Nat.lt_of_lt_of_le hk h.size) (fun hs => by have := hS k hs; omega)⟩
theorem below_no {w0 w w' : World} (h : Below w0.heap.size w0 w) (ht : Tch NoBlk w w') : Below w0.heap.size w0 w' := below_tch h ht (fun _ h => h.elim)
theorem below_one {w0 w w' : World} {b : Nat} (h : Below w0.heap.size w0 w) (ht : Tch (· = b) w w') (hb : w0.heap.size ≤ b) : Below w0.heap.size w0 w' := below_tch h ht (fun _ h => h ▸ hb)

theorem Blk.lt {w : World} {b : Nat} {T : TypeId} {cs : List Value} (h : Blk w b T cs) : b < w.heap.size := (Array.getElem?_eq_some_iff.1 h).1

theorem Blk.cell {w : World} {b : Nat} {T : TypeId} {cs : List Value} (h : Blk w b T cs) (i : Nat) : w.cell? ⟨b, i, none⟩ = cs[i]? := by
  unfold Blk at h
  simp [World.cell?, h]

theorem Blk.cellOf {w : World} {b : Nat} {T : TypeId} {cs : List Value} (h : Blk w b T cs) (i : Nat) (v : Value) (hv : cs[i]? = some v) : w.cell? ⟨b, i, none⟩ = some v := (h.cell i).trans hv

theorem Blk.free {w : World} {b : Nat} {T : TypeId} {cs : List Value} (h : Blk w b T cs) (i : Nat) : w.frozen? ⟨b, i, none⟩ = false := by
  unfold Blk at h
  simp [World.frozen?, h]

theorem Blk.keep {S : Nat → Prop} {w w' : World} {b : Nat} {T : TypeId} {cs : List Value} (h : Blk w b T cs) (ht : Tch S w w') (hb : ¬ S b) : Blk w' b T cs := (ht.block b h.lt hb).trans h

theorem Blk.drewN {w : World} {b : Nat} {T : TypeId} {cs : List Value} (h : Blk w b T cs) (n : Nat) : Blk (w.drewN n) b T cs := h
theorem Blk.alloc {w : World} {b : Nat} {T : TypeId} {cs : List Value} (h : Blk w b T cs) (o : Obj) : Blk (w.alloc o) b T cs := (Below.heap_alloc _ _ _ h.lt).trans h

theorem Blk.set {w : World} {b : Nat} {T : TypeId} {cs : List Value} (h : Blk w b T cs) (i : Nat) (v : Value) : Blk (w.setCell ⟨b, i, none⟩ v) b T (cs.set i v) := by
  unfold Blk at *
  simp [World.setCell, Array.getElem?_modify, h]

theorem Blk.setOther {w : World} {b : Nat} {T : TypeId} {cs : List Value} (h : Blk w b T cs) {a : Addr} (v : Value) (hne : b ≠ a.block) : Blk (w.setCell a v) b T cs :=
  (Below.heap_setCell _ _ _ _ hne).trans h

theorem Blk.new (w : World) (T : TypeId) (cs : List Value) : Blk (w.alloc (.cells cs.toArray T (0, 0))) w.heap.size T cs := heap_alloc_new w _

theorem ret_int {k : IntKind} {a b : Int} (h : a = b) : Ending.returned (.int k a) = .returned (.int k b) := by rw [h]

end Go.Proofs.YtipbimbnpikbcaaGreat

/- What a walk is told of a slice that came in, and how the row's reading gives it. -/
namespace Go.Proofs.YtipbimbnpikbcaaGreat
open Go.ChangeShapes Go.WideShapes Go.ChangeAt Go.RowKit Go.Deep

/-- A slice of whole numbers that came in: its elements. -/
structure IntsIn (k : IntKind) (w : World) (a : Option Addr) (cap : Nat) (l : List Int) : Prop where
  le : l.length ≤ cap
  cap : cap ≤ 9223372036854775807
  cells : 0 < l.length → ∃ b off, a = some ⟨b, off, none⟩ ∧ ∀ i, i < l.length → w.cell? ⟨b, off + i, none⟩ = some (.int k (l.getD i 0))
  wf : ∀ n ∈ l, k.min ≤ n ∧ n ≤ k.max

/-- A slice of strings that came in. -/
structure StrsIn (w : World) (a : Option Addr) (cap : Nat) (l : List ByteArray) : Prop where
  le : l.length ≤ cap
  cap : cap ≤ 9223372036854775807
  cells : 0 < l.length → ∃ b off, a = some ⟨b, off, none⟩ ∧ ∀ i, i < l.length → w.cell? ⟨b, off + i, none⟩ = some (.string (l.getD i ByteArray.empty))
  wf : ∀ s ∈ l, s.size ≤ 9223372036854775807

/-- A slice of bools that came in. -/
structure BoolsIn (w : World) (a : Option Addr) (cap : Nat) (l : List Bool) : Prop where
  le : l.length ≤ cap
  cap : cap ≤ 9223372036854775807
  cells : 0 < l.length → ∃ b off, a = some ⟨b, off, none⟩ ∧ ∀ i, i < l.length → w.cell? ⟨b, off + i, none⟩ = some (.bool (l.getD i false))

/-- A slice of structs of three cells that came in: V i j is field j of element i. -/
structure TripsIn (w : World) (a : Option Addr) (cap n : Nat) (V : Nat → Nat → Value) : Prop where
  le : n ≤ cap
  cap : cap ≤ 9223372036854775807
  cells : 0 < n → ∃ b off, a = some ⟨b, off, none⟩ ∧ ∀ i, i < n → ∀ j, j < 3 → w.cell? ⟨b, off + (i * 3 + j), none⟩ = some (V i j)

theorem spot_none {w : World} {a : Addr} {v : Value} (h : w.cell? a = some v) : ∃ b off, a = ⟨b, off, none⟩ := by
  obtain ⟨b, off, s⟩ := a
  refine ⟨b, off, ?_⟩
  unfold World.cell? at h
  split at h
  · cases s with
    | none => rfl
    | some _ => simp at h
  · cases h

theorem add_spot (b off i : Nat) : (⟨b, off, none⟩ : Addr).add i = ⟨b, off + i, none⟩ := by
  unfold Addr.add
  split
  · rename_i h; subst h; rfl
  · rfl

theorem wf_bounds {k : IntKind} {n : Int} (h : (Lit.int k n).wf = true) : k.min ≤ n ∧ n ≤ k.max := by
  simpa [Lit.wf] using h

section
variable {H : Type} {enc : TypeId × Value → H} {P : Program} {w : World} {base : Nat} {held : Bool}

theorem ints_in {t e : TypeId} {k : IntKind} {a : Option Addr} {len cap : Nat} {d : DataW H} {p : List MemPlace} (ht : P.underlying t = some (.slice e)) (he : P.underlying e = some (.int k)) (hc : P.cellsOf e = 1)
    (h : DataW.Trod enc P w base (fun _ => true) held t (.slice a len cap) d p) : ∃ l : List Int, l.length = len ∧ IntsIn k w a cap l := by
  obtain ⟨fuel, hf⟩ := h
  rcases open_ints ht he hc hf with ⟨hcs, _⟩ | ⟨x, l, c, zs, hcs, _, hl, hm, hz, _, hcell, hwz⟩
  · simp [Value.cells] at hcs
    obtain ⟨rfl, rfl, rfl⟩ := hcs
    exact ⟨[], rfl, ⟨Nat.zero_le _, by omega, fun h => absurd h (by simp), by simp⟩⟩
  · simp [Value.cells] at hcs
    obtain ⟨rfl, rfl, rfl⟩ := hcs
    simp only [if_true] at hz
    have hlen : (zs.take len).length = len := by simp; omega
    refine ⟨zs.take len, hlen, ⟨by omega, hm, fun h0 => ?_, fun n hn => wf_bounds (hwz n (List.mem_of_mem_take hn))⟩⟩
    obtain ⟨b, off, rfl⟩ := spot_none (hcell 0 (by omega))
    refine ⟨_, _, rfl, fun i hi => ?_⟩
    have := hcell i (by omega)
    rw [add_spot] at this
    rw [this, List.getD_eq_getElem?_getD, List.getD_eq_getElem?_getD, List.getElem?_take, if_pos (by omega)]

theorem strs_in {t e : TypeId} {a : Option Addr} {len cap : Nat} {d : DataW H} {p : List MemPlace} (ht : P.underlying t = some (.slice e)) (he : P.underlying e = some .string) (hc : P.cellsOf e = 1)
    (h : DataW.Trod enc P w base (fun _ => true) held t (.slice a len cap) d p) : ∃ l : List ByteArray, l.length = len ∧ StrsIn w a cap l := by
  obtain ⟨fuel, hf⟩ := h
  rcases open_strings ht he hc hf with ⟨hcs, _⟩ | ⟨x, l, c, zs, hcs, _, hl, hm, hz, _, hcell, hwz⟩
  · simp [Value.cells] at hcs
    obtain ⟨rfl, rfl, rfl⟩ := hcs
    exact ⟨[], rfl, ⟨Nat.zero_le _, by omega, fun h => absurd h (by simp), by simp⟩⟩
  · simp [Value.cells] at hcs
    obtain ⟨rfl, rfl, rfl⟩ := hcs
    simp only [if_true] at hz
    have hlen : (zs.take len).length = len := by simp; omega
    refine ⟨zs.take len, hlen, ⟨by omega, hm, fun h0 => ?_, fun n hn => hwz n (List.mem_of_mem_take hn)⟩⟩
    obtain ⟨b, off, rfl⟩ := spot_none (hcell 0 (by omega))
    refine ⟨_, _, rfl, fun i hi => ?_⟩
    have := hcell i (by omega)
    rw [add_spot] at this
    rw [this, List.getD_eq_getElem?_getD, List.getD_eq_getElem?_getD, List.getElem?_take, if_pos (by omega)]

theorem bools_in {t e : TypeId} {a : Option Addr} {len cap : Nat} {d : DataW H} {p : List MemPlace} (ht : P.underlying t = some (.slice e)) (he : P.underlying e = some .bool) (hc : P.cellsOf e = 1)
    (h : DataW.Trod enc P w base (fun _ => true) held t (.slice a len cap) d p) : ∃ l : List Bool, l.length = len ∧ BoolsIn w a cap l := by
  obtain ⟨fuel, hf⟩ := h
  rcases open_bools ht he hc hf with ⟨hcs, _⟩ | ⟨x, l, c, B, hcs, _, hl, hm, _, hcell⟩
  · simp [Value.cells] at hcs
    obtain ⟨rfl, rfl, rfl⟩ := hcs
    exact ⟨[], rfl, ⟨Nat.zero_le _, by omega, fun h => absurd h (by simp)⟩⟩
  · simp [Value.cells] at hcs
    obtain ⟨rfl, rfl, rfl⟩ := hcs
    have hlen : ((List.range len).map B).length = len := by simp
    refine ⟨(List.range len).map B, hlen, ⟨by omega, hm, fun h0 => ?_⟩⟩
    obtain ⟨b, off, rfl⟩ := spot_none (hcell 0 (by omega))
    refine ⟨_, _, rfl, fun i hi => ?_⟩
    have := hcell i (by omega)
    rw [add_spot] at this
    rw [this]
    simp at hi
    simp [List.getD_eq_getElem?_getD, hi]

theorem trips_in {t e : TypeId} {fs : Array Field} {a : Option Addr} {len cap : Nat} {d : DataW H} {p : List MemPlace} (ht : P.underlying t = some (.slice e)) (he : P.underlying e = some (.struct fs))
    (hone : oneCellFields P fs = true) (hC : P.cellsOf e = 3) (hs : fs.size = 3)
    (h : DataW.Trod enc P w base (fun _ => true) held t (.slice a len cap) d p) :
    ∃ V : Nat → Nat → Value, TripsIn w a cap len V ∧ ∀ i, i < len → ∀ (j : Nat) (f : Field), fs[j]? = some f → ∃ (n : Nat) (y : DataW H × List MemPlace), DataW.trod enc P w base (fun _ => true) held n f.type [V i j] = some y := by
  obtain ⟨fuel, hf⟩ := h
  rcases open_slice ht hf with ⟨hcs, _⟩ | ⟨x, l, c, m, n, D, Pl, hcs, hb, hl, hm, hmm, hx, hi⟩
  · simp [Value.cells] at hcs
    obtain ⟨rfl, rfl, rfl⟩ := hcs
    exact ⟨fun _ _ => undef, ⟨Nat.zero_le _, by omega, fun h => absurd h (by simp)⟩, fun i hi => absurd hi (by omega)⟩
  · simp [Value.cells] at hcs
    obtain ⟨rfl, rfl, rfl⟩ := hcs
    simp only [if_true] at hmm
    subst hmm
    have each : ∀ i, i < m → ∃ v : List Value, (∀ j, j < 3 → w.cell? (x.add (i * 3 + j)) = some (v.getD j undef)) ∧
        ∀ (j : Nat) (f : Field), fs[j]? = some f → ∃ (k : Nat) (y : DataW H × List MemPlace), DataW.trod enc P w base (fun _ => true) held k f.type [v.getD j undef] = some y := by
      intro i him
      obtain ⟨cs', hc, ht'⟩ := hi i him
      rw [hC] at hc
      obtain ⟨ys, n', hn', hy, hlen, hyl, hfs⟩ := DataW.trod_struct he ht'
      obtain ⟨_, hcl, hat⟩ := World.cells?_some hc
      refine ⟨cs', fun j hj => ?_, fun j f hj => ?_⟩
      · have h1 := hat j (by omega)
        rw [add_add] at h1
        rw [h1, List.getElem?_eq_getElem (by omega)]
        simp [List.getD_eq_getElem?_getD, List.getElem?_eq_getElem (show j < cs'.length by omega)]
      · obtain ⟨ho, hk⟩ := hone_of hone j f hj
        have hjl : j < fs.size := (Array.getElem?_eq_some_iff.1 hj).1
        have h1 := hfs j f hj
        rw [ho, hk] at h1
        have hone' : (cs'.drop j).take 1 = [cs'.getD j undef] := by
          rw [List.drop_eq_getElem_cons (by omega), List.take_succ_cons, List.take_zero, List.getD_eq_getElem?_getD, List.getElem?_eq_getElem (show j < cs'.length by omega)]
          rfl
        rw [hone'] at h1
        have hys : ys[j]? = some (ys[j]'(by omega)) := List.getElem?_eq_getElem (by omega)
        exact ⟨_, _, h1.trans hys⟩
    obtain ⟨F, hF⟩ := choose_lt each
    refine ⟨fun i j => (F i).getD j undef, ⟨hl, hm, fun h0 => ?_⟩, fun i hi j f hj => (hF i (by omega)).2 j f hj⟩
    obtain ⟨b, off, rfl⟩ := spot_none ((hF 0 (by omega)).1 0 (by omega))
    refine ⟨_, _, rfl, fun i hi j hj => ?_⟩
    have := (hF i (by omega)).1 j hj
    rw [add_spot] at this
    exact this

end
end Go.Proofs.YtipbimbnpikbcaaGreat
