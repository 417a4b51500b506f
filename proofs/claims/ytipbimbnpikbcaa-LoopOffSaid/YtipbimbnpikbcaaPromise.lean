/- Promises: told or not, what, who waits: what the table's functions do, said of a list. -/
import Derived.Test.YtipbimbnpikbcaaRing
import Derived.Test.YtipbimbnpikbcaaSlices
import Derived.Test.YtipbimbnpikbcaaIota
import Derived.BigRegion
namespace Go.Proofs.Ytipbimbnpikbcaa
open Go.RowKit

/-- A promise: is it told, what, who waits. -/
structure Pr where
  told : Bool
  value : Int
  q : List Int

structure PrAt (w : World) (p r : Nat) (x : Pr) : Prop where
  blk : Blk w p 105 [.pointer (some ⟨r, 0, none⟩), .bool x.told, .int .i64 x.value]
  ring : RingQ w r 256 x.q
  ne : p ≠ r

theorem PrAt.keep {S : Nat → Prop} {w w' : World} {p r : Nat} {x : Pr} (h : PrAt w p r x) (ht : Tch S w w') (hp : ¬ S p) (hr : ¬ S r) : PrAt w' p r x := ⟨h.blk.keep ht hp, h.ring.keep ht hr, h.ne⟩

def ptrs (os : List (Nat × Nat)) : List Value := os.map fun o => .pointer (some ⟨o.1, 0, none⟩)
theorem ptrs_one (os : List (Nat × Nat)) : ∀ u ∈ ptrs os, u.oneCell' = true := by
  intro u hu
  simp only [ptrs, List.mem_map] at hu
  obtain ⟨x, _, rfl⟩ := hu
  rfl
theorem infoPtr : (Try.prog.info? 103).map (fun i => (i.zero, i.size, i.bytes)) = some (some (.pointer none), 1, 8) := by kernel_rfl

/-- The table at block b: the promises l, at os, in a slice of block G. -/
structure PrsAt (w : World) (b : Nat) (l : List Pr) (os : List (Nat × Nat)) (A : Option Addr) (cap : Nat) (G : Option Nat) : Prop where
  blk : Blk w b 99 [.slice A l.length cap]
  sl : Sl w 103 1 A l.length cap (ptrs os) G
  len : os.length = l.length
  at_ : ∀ (i : Nat) (o : Nat × Nat) (x : Pr), os[i]? = some o → l[i]? = some x → PrAt w o.1 o.2 x
  apart : ∀ (i j : Nat) (o u : Nat × Nat), os[i]? = some o → os[j]? = some u → i ≠ j → o.1 ≠ u.1 ∧ o.1 ≠ u.2 ∧ o.2 ≠ u.1 ∧ o.2 ≠ u.2
  ne : ∀ (i : Nat) (o : Nat × Nat), os[i]? = some o → o.1 ≠ b ∧ o.2 ≠ b ∧ G ≠ some o.1 ∧ G ≠ some o.2
  gb : G ≠ some b
  le : l.length ≤ 512

/-- The blocks that it lies in. -/
def PrsIn (b : Nat) (os : List (Nat × Nat)) (G : Option Nat) (k : Nat) : Prop := k = b ∨ G = some k ∨ ∃ (i : Nat) (o : Nat × Nat), os[i]? = some o ∧ (k = o.1 ∨ k = o.2)

def PrsQ (w : World) (b : Nat) (l : List Pr) (F : Nat → Prop) : Prop := ∃ os A cap G, PrsAt w b l os A cap G ∧ ∀ k, F k ↔ PrsIn b os G k

theorem PrsAt.keep {w w' : World} {b : Nat} {l : List Pr} {os : List (Nat × Nat)} {A : Option Addr} {cap : Nat} {G : Option Nat} {S : Nat → Prop} (h : PrsAt w b l os A cap G) (ht : Tch S w w') (hS : ∀ k, PrsIn b os G k → ¬ S k) : PrsAt w' b l os A cap G :=
  ⟨h.blk.keep ht (hS _ (.inl rfl)), h.sl.keep ht (fun _ hg => hS _ (.inr (.inl hg))), h.len, fun i o x ho hx => (h.at_ i o x ho hx).keep ht (hS _ (.inr (.inr ⟨i, o, ho, .inl rfl⟩))) (hS _ (.inr (.inr ⟨i, o, ho, .inr rfl⟩))), h.apart, h.ne, h.gb, h.le⟩
theorem PrsAt.lt {w : World} {b : Nat} {l : List Pr} {os : List (Nat × Nat)} {A : Option Addr} {cap : Nat} {G : Option Nat} (h : PrsAt w b l os A cap G) (k : Nat) (hk : PrsIn b os G k) : k < w.heap.size := by
  rcases hk with rfl | hk | ⟨i, o, ho, hk⟩
  · exact h.blk.lt
  · exact h.sl.lt k hk
  · have hi : i < l.length := by
      rw [← h.len]
      exact (List.getElem?_eq_some_iff.1 ho).1
    have := h.at_ i o _ ho (List.getElem?_eq_getElem hi)
    rcases hk with rfl | rfl
    · exact this.blk.lt
    · exact this.ring.lt

theorem PrsQ.keep {w w' : World} {b : Nat} {l : List Pr} {F S : Nat → Prop} (h : PrsQ w b l F) (ht : Tch S w w') (hS : ∀ k, F k → ¬ S k) : PrsQ w' b l F := by
  obtain ⟨os, A, cap, G, h, hF⟩ := h
  exact ⟨os, A, cap, G, h.keep ht (fun k hk => hS k ((hF k).2 hk)), hF⟩
theorem PrsQ.lt {w : World} {b : Nat} {l : List Pr} {F : Nat → Prop} (h : PrsQ w b l F) : ∀ k, F k → k < w.heap.size := by
  obtain ⟨os, A, cap, G, h, hF⟩ := h
  exact fun k hk => h.lt k ((hF k).1 hk)
theorem PrsQ.le {w : World} {b : Nat} {l : List Pr} {F : Nat → Prop} (h : PrsQ w b l F) : l.length ≤ 512 := by
  obtain ⟨os, A, cap, G, h, hF⟩ := h
  exact h.le

theorem promise_new (w : World) :
    Calls Try.prog 52 #[] w fun e w' => ∃ b F, e = .returned (.pointer (some ⟨b, 0, none⟩)) ∧ PrsQ w' b [] F ∧ (∀ k, F k → w.heap.size ≤ k) ∧ Tch NoBlk w w' := by
  go_enter Try.func52, Try.ntmps52
  go_wp2
  go_ret
  refine ⟨w.heap.size, PrsIn w.heap.size [] none, rfl, ⟨[], none, 0, none, ⟨Blk.new w _ _, Sl.nil _ _ _, rfl, fun i o x ho => by simp at ho, fun i j o u ho => by simp at ho, fun i o ho => by simp at ho, by simp, by simp⟩, fun k => Iff.rfl⟩, fun k hk => ?_, (Tch.refl _ _).alloc _⟩
  rcases hk with rfl | hk | ⟨i, o, ho, _⟩
  · exact Nat.le_refl _
  · cases hk
  · simp at ho

theorem promise_len (b : Nat) (l : List Pr) (F : Nat → Prop) (w : World) (h : PrsQ w b l F) :
    Calls Try.prog 61 #[.pointer (some ⟨b, 0, none⟩)] w fun e w' => e = .returned (.int .i64 l.length) ∧ w' = w := by
  obtain ⟨os, A, cap, G, h, hF⟩ := h
  have hc := h.blk.cellOf 0 _ rfl
  clear h hF
  go_enter Try.func61, Try.ntmps61
  go_wp2
  go_ret
  exact ⟨rfl, rfl⟩
theorem promise_len_nil (w : World) :
    Calls Try.prog 61 #[.pointer none] w fun e w' => e = .returned (.int .i64 0) ∧ w' = w := by
  go_enter Try.func61, Try.ntmps61
  go_wp2
  go_ret
  exact ⟨rfl, rfl⟩

theorem promise_find_no (b : Nat) (l : List Pr) (F : Nat → Prop) (id : Int) (w : World) (h : PrsQ w b l F) (hid : id < 0 ∨ l.length ≤ id) :
    Calls Try.prog 57 #[.pointer (some ⟨b, 0, none⟩), .int .i64 id] w fun e w' => e = .returned (.pointer none) ∧ w' = w := by
  by_cases h0 : id < 0
  · clear hid
    go_enter Try.func57, Try.ntmps57
    go_wp2
    go_ret
    exact ⟨rfl, rfl⟩
  · have h1 : (l.length : Int) ≤ id := by omega
    have h2 : decide (id < 0) = false := by simp; omega
    clear hid
    go_enter Try.func57, Try.ntmps57
    go_wp2_with fail
    refine (promise_len b l F w h).mono ?_
    rintro e w' ⟨rfl, rfl⟩
    go_wp2
    go_ret
    exact ⟨rfl, rfl⟩
theorem promise_find_nil (id : Int) (w : World) :
    Calls Try.prog 57 #[.pointer none, .int .i64 id] w fun e w' => e = .returned (.pointer none) ∧ w' = w := by
  by_cases h0 : id < 0
  · go_enter Try.func57, Try.ntmps57
    go_wp2
    go_ret
    exact ⟨rfl, rfl⟩
  · have h1 : (0 : Int) ≤ id := by omega
    go_enter Try.func57, Try.ntmps57
    go_wp2_with fail
    refine (promise_len_nil w).mono ?_
    rintro e w' ⟨rfl, rfl⟩
    go_wp2
    go_ret
    exact ⟨rfl, rfl⟩
theorem promise_find_yes (b : Nat) (l : List Pr) (os : List (Nat × Nat)) (A : Option Addr) (cap : Nat) (G : Option Nat) (i : Nat) (o : Nat × Nat) (w : World) (h : PrsAt w b l os A cap G) (ho : os[i]? = some o) :
    Calls Try.prog 57 #[.pointer (some ⟨b, 0, none⟩), .int .i64 i] w fun e w' => e = .returned (.pointer (some ⟨o.1, 0, none⟩)) ∧ w' = w := by
  have hq : PrsQ w b l (PrsIn b os G) := ⟨os, A, cap, G, h, fun k => Iff.rfl⟩
  have hi : i < l.length := by
    rw [← h.len]
    exact (List.getElem?_eq_some_iff.1 ho).1
  have hc := h.blk.cellOf 0 _ rfl
  obtain ⟨g, rfl, rfl, hcell⟩ := h.sl.cells (by omega)
  have hci := hcell i (.pointer (some ⟨o.1, 0, none⟩)) (by simp [ptrs, ho])
  have hle := h.le
  clear hcell h ho
  generalize o.1 = p at *
  go_enter Try.func57, Try.ntmps57
  go_wp2_with fail
  refine (promise_len b l _ w hq).mono ?_
  rintro e w' ⟨rfl, rfl⟩
  go_wp2
  go_ret
  exact ⟨rfl, rfl⟩
end Go.Proofs.Ytipbimbnpikbcaa
