import Derived.Test.YtipbimbnpikbcaaGreatMg01
import Derived.Maps.AppendAt
import Derived.Deep.AppendLies
import Derived.RegionTactic
import Derived.OwnWalk
import Derived.Test.YtipbimbnpikbcaaGreatMg02
import Derived.BigRegion
import Derived.Test.YtipbimbnpikbcaaGreatProg
/- Slices that the program makes itself: what they hold, in which block they lie, and what append does to them. -/
namespace Go.Proofs.YtipbimbnpikbcaaGreat
open Go.RowKit

/-- The slice (A, n, cap) of elements of type e, sz cells each, has a block G of its own (none: it is nil), and its cells are xs. -/
structure Sl (w : World) (e : TypeId) (sz : Nat) (A : Option Addr) (n cap : Nat) (xs : List Value) (G : Option Nat) : Prop where
  own : w.ownsRow 0 e sz (.slice A n cap) n xs
  blk : (Value.slice A n cap).ownBlock = G

/-- Cells that are read: a source of append. -/
def Src (w : World) (sz : Nat) (A : Option Addr) (m : Nat) (news : List Value) : Prop :=
  news.length = m * sz ∧ (0 < m → ∃ a, A = some a ∧ ∀ j u, news[j]? = some u → w.cell? (a.add j) = some u)

section
variable {w w' : World} {e : TypeId} {sz n cap : Nat} {A : Option Addr} {xs : List Value} {G : Option Nat}

theorem Sl.nil (w : World) (e : TypeId) (sz : Nat) : Sl w e sz none 0 0 [] none := ⟨World.ownsRow_nil w 0 e sz, rfl⟩

theorem Sl.len (h : Sl w e sz A n cap xs G) : xs.length = n * sz := h.own.1

theorem Sl.keep (h : Sl w e sz A n cap xs G) {S : Nat → Prop} (ht : Tch S w w') (hG : ∀ g, G = some g → ¬ S g) : Sl w' e sz A n cap xs G := by
  refine ⟨⟨h.own.1, ?_⟩, h.blk⟩
  rcases h.own.2 with h0 | ⟨g, c, cur, hv, hb, hg, rest⟩
  · exact .inl h0
  · have hG' : G = some g := by rw [← h.blk, hv]; rfl
    exact .inr ⟨g, c, cur, hv, hb, (ht.block g (Array.getElem?_eq_some_iff.1 hg).1 (hG g hG')).trans hg, rest⟩

theorem Sl.lt (h : Sl w e sz A n cap xs G) (g : Nat) (hg : G = some g) : g < w.heap.size := by
  rcases h.own.2 with ⟨h0, _⟩ | ⟨k, c, cur, hv, hb, hh, rest⟩
  · have := h.blk
    rw [h0, hg] at this
    cases this
  · have hk : some k = some g := by rw [← hg, ← h.blk, hv]; rfl
    injection hk with hk
    subst hk
    exact (Array.getElem?_eq_some_iff.1 hh).1

theorem Sl.drewN (h : Sl w e sz A n cap xs G) (k : Nat) : Sl (w.drewN k) e sz A n cap xs G := ⟨⟨h.own.1, h.own.2⟩, h.blk⟩

theorem Sl.alloc (h : Sl w e sz A n cap xs G) (o : Obj) : Sl (w.alloc o) e sz A n cap xs G := h.keep ((Tch.refl NoBlk w).alloc o) (fun _ _ h => h)

/-- A slice that holds something lies at the head of its block. -/
theorem Sl.form (h : Sl w e sz A n cap xs G) (hn : 0 < n) : ∃ g, A = some ⟨g, 0, none⟩ ∧ G = some g ∧ g < w.heap.size := by
  obtain ⟨g, c, hv, _, hlt⟩ := h.own.form hn
  injection hv with h1 h2 h3
  subst h1
  exact ⟨g, rfl, h.blk.symm.trans rfl, hlt⟩

theorem Sl.cells (h : Sl w e sz A n cap xs G) (hn : 0 < n) : ∃ g, A = some ⟨g, 0, none⟩ ∧ G = some g ∧ ∀ j u, xs[j]? = some u → w.cell? ⟨g, j, none⟩ = some u := by
  obtain ⟨g, rfl, rfl, _⟩ := h.form hn
  refine ⟨g, rfl, rfl, fun j u hu => ?_⟩
  have := h.own.cells (g := g) rfl j u hu
  have ha : (⟨g, 0, none⟩ : Addr).add j = ⟨g, j, none⟩ := by unfold Addr.add; split <;> simp_all
  rwa [ha] at this

theorem Sl.cap_le (h : Sl w e sz A n cap xs G) : n ≤ cap ∧ cap ≤ 9223372036854775807 := by
  rcases h.own.2 with ⟨h0, h1⟩ | ⟨g, c, cur, hv, hb, hg, h1, h2, rest⟩
  · injection h0 with _ h2 h3
    omega
  · injection hv with _ _ h3
    unfold maxLen at h2
    omega

theorem Sl.src (h : Sl w e sz A n cap xs G) : Src w sz A n xs := by
  refine ⟨h.own.1, fun hn => ?_⟩
  obtain ⟨g, rfl, _, hlt⟩ := h.form hn
  exact ⟨_, rfl, h.own.cells (g := g) rfl⟩

theorem Src.cut (h : Src w sz A n xs) {k : Nat} (hk : k ≤ n) (hc : n ≤ cap) : Src w sz (if cap = k then A else A.map (·.add (k * sz))) (n - k) (xs.drop (k * sz)) := by
  refine ⟨by rw [List.length_drop, h.1, Nat.sub_mul], fun hn => ?_⟩
  obtain ⟨a, rfl, hcell⟩ := h.2 (by omega)
  rw [if_neg (by omega)]
  refine ⟨_, rfl, fun j u hu => ?_⟩
  have e : (a.add (k * sz)).add j = a.add (k * sz + j) := by
    unfold Addr.add
    by_cases h1 : k * sz = 0 <;> by_cases h2 : j = 0 <;> simp [h1, h2, Nat.add_assoc]
  rw [e]
  exact hcell _ u (by rw [← hu, List.getElem?_drop])

theorem Src.empty (w : World) (sz : Nat) (A : Option Addr) : Src w sz A 0 [] := ⟨by simp, fun h => absurd h (by omega)⟩

/-- The tail of a row of one-cell elements. -/
theorem Src.tail1 {g off : Nat} {x : Value} {xs : List Value} {n : Nat} (h : Src w 1 (some ⟨g, off, none⟩) (n + 1) (x :: xs)) : Src w 1 (some ⟨g, off + 1, none⟩) n xs := by
  refine ⟨by have := h.1; simp at this; omega, fun hn => ⟨_, rfl, fun j u hu => ?_⟩⟩
  obtain ⟨a, he, hcell⟩ := h.2 (by omega)
  injection he with he
  subst he
  have := hcell (j + 1) u (by simpa using hu)
  have e1 : (⟨g, off, none⟩ : Addr).add (j + 1) = ⟨g, off + 1 + j, none⟩ := by unfold Addr.add; rw [if_neg (by omega)]; simp; omega
  have e2 : (⟨g, off + 1, none⟩ : Addr).add j = ⟨g, off + 1 + j, none⟩ := by unfold Addr.add; split <;> simp_all
  rw [e1] at this
  rw [e2]
  exact this

theorem Src.take (h : Src w sz A n xs) {k : Nat} (hk : k ≤ n) : Src w sz A k (xs.take (k * sz)) := by
  refine ⟨by rw [List.length_take, h.1]; exact Nat.min_eq_left (Nat.mul_le_mul_right _ hk), fun hn => ?_⟩
  obtain ⟨a, rfl, hcell⟩ := h.2 (by omega)
  refine ⟨_, rfl, fun j u hu => hcell j u ?_⟩
  rw [List.getElem?_take] at hu
  split at hu
  · exact hu
  · cases hu

theorem Src.keep (h : Src w sz A n xs) {S : Nat → Prop} (ht : Tch S w w') (hA : ∀ a, A = some a → ¬ S a.block) : Src w' sz A n xs := by
  refine ⟨h.1, fun hn => ?_⟩
  obtain ⟨a, rfl, hcell⟩ := h.2 hn
  refine ⟨a, rfl, fun j u hu => ?_⟩
  have hb : (a.add j).block = a.block := by unfold Addr.add; split <;> rfl
  exact ht.cell' (hcell j u hu) (by rw [hb]; exact hA a rfl)

theorem Src.made (w : World) (e : TypeId) (cs : Array Value) (m : Nat) (hl : cs.size = m * sz) : Src (w.alloc (.cells cs e)) sz (some ⟨w.heap.size, 0, none⟩) m cs.toList := by
  refine ⟨by simpa using hl, fun _ => ⟨_, rfl, World.news_of_block (heap_alloc_new w _)⟩⟩

/-- A row that was just laid. -/
theorem Sl.made (w : World) (e : TypeId) (cs : Array Value) (n : Nat) (hl : cs.size = n * sz) (hn : n ≤ 9223372036854775807) : Sl (w.alloc (.cells cs e)) e sz (some ⟨w.heap.size, 0, none⟩) n n cs.toList (some w.heap.size) := by
  refine ⟨⟨by simpa using hl, .inr ⟨w.heap.size, n, cs, rfl, Nat.zero_le _, heap_alloc_new w _, Nat.le_refl _, by unfold maxLen; omega, hl, ?_⟩⟩, rfl⟩
  rw [List.take_of_length_le (by simp [hl])]

end

/-- What is written lies behind what was there at first. -/
theorem tch_own {w0 w w' : World} {G : Option Nat} (h : Tch NoBlk w0 w) (ht : Tch (fun k => G = some k) w w') (hG : ∀ g, G = some g → w0.heap.size ≤ g) : Tch NoBlk w0 w' :=
  h.then ht (fun i hi e => by have := hG i e; omega)
theorem own_from {B : Nat} {w : World} {G G' : Option Nat} (hB : B ≤ w.heap.size) (hG : ∀ g, G = some g → B ≤ g) (h : G' = G ∨ ∃ g, G' = some g ∧ w.heap.size ≤ g) : ∀ g, G' = some g → B ≤ g := by
  rcases h with rfl | ⟨g, rfl, hg⟩
  · exact hG
  · intro k e
    injection e with e
    omega
theorem own_some {B k : Nat} (h : B ≤ k) : ∀ g, some k = some g → B ≤ g := fun g e => by injection e with e; omega
theorem own_none {B : Nat} : ∀ g, (none : Option Nat) = some g → B ≤ g := fun g e => by cases e

section
variable {P : Program} (w : World)

theorem app_nil (t ty e : TypeId) (i : TypeInfo) (sz : Nat) (ht : P.underlying t = some (.slice e)) (hi : P.info? e = some i)
    (A : Option Addr) (n cap : Nat) (xs : List Value) (hown : w.ownsRow 0 e sz (.slice A n cap) n xs) (c : Nat) : (Builtin.append_ #[t, t] ty #[.slice A n cap, .slice none 0 c]).run P w = .ok (.slice A n cap) w := by
  rcases hown.2 with ⟨h0, rfl⟩ | ⟨g, k, cur, h0, _, _, hnc, _⟩
  · cases h0
    simp [Builtin.append_, run_underlying ht, sizeOf, typeInfo, hi, Builtin.lenOf, Builtin.firstCells]
  · cases h0
    simp [Builtin.append_, run_underlying ht, sizeOf, typeInfo, hi, Builtin.lenOf, Builtin.firstCells, hnc, storeCells]

/-- append(v, src...): v a slice of the program's own. -/
theorem app_run (t ty e : TypeId) (z : Value) (sz bytes : Nat) (ht : P.underlying t = some (.slice e)) (hinfo : (P.info? e).map (fun i => (i.zero, i.size, i.bytes)) = some (some z, sz, bytes)) (hzs : z.cells.size = sz) (hsz : 0 < sz)
    (A : Option Addr) (n cap : Nat) (xs : List Value) (G : Option Nat) (h : Sl w e sz A n cap xs G)
    (B : Option Addr) (m c : Nat) (news : List Value) (hs : Src w sz B m news) (h1 : ∀ u ∈ news, u.oneCell' = true) (hbytes : (n + m) * bytes ≤ 140737488355328) (hb0 : 0 < bytes) :
    ∃ A' cap' w' G', (Builtin.append_ #[t, t] ty #[.slice A n cap, .slice B m c]).run P w = .ok (.slice A' (n + m) cap') w' ∧ Sl w' e sz A' (n + m) cap' (xs ++ news) G' ∧ Tch (fun k => G = some k) w w' ∧
      (G' = G ∨ ∃ g, G' = some g ∧ w.heap.size ≤ g) := by
  obtain ⟨i, hi, hzz⟩ := Option.map_eq_some_iff.1 hinfo
  simp only [Prod.mk.injEq] at hzz
  obtain ⟨hz0, hz1, hz2⟩ := hzz
  have hle : n + m ≤ 140737488355328 := Nat.le_trans (Nat.le_mul_of_pos_right _ hb0) hbytes
  rcases Nat.eq_zero_or_pos m with h0 | h0
  · subst h0
    have hn : news = [] := List.eq_nil_of_length_eq_zero (by simpa using hs.1)
    subst hn
    rcases B with _ | ad
    · exact ⟨A, cap, w, G, app_nil w t ty e i sz ht hi A n cap xs h.own c, by simpa using h, Tch.refl _ _, .inl rfl⟩
    · obtain ⟨v', w', hr, h2, h3, _, h5⟩ := run_append_own_at (P := P) w 0 t ty e i z sz bytes ht hi hz0 hz1 hz2 hzs hsz (.slice A n cap) n xs h.own ad 0 c [] (by simp) (by simp) (by simp) (by unfold maxLen; omega) hbytes (Nat.zero_le _)
      obtain ⟨A', cap', rfl⟩ : ∃ A' cap', v' = .slice A' (n + 0) cap' := by
        rcases h2.2 with ⟨rfl, h6⟩ | ⟨g, k, cur, rfl, _⟩
        · exact ⟨none, 0, by rw [h6]⟩
        · exact ⟨_, _, rfl⟩
      refine ⟨A', cap', w', _, hr, ⟨h2, rfl⟩, ⟨h3.os, h3.tape, h3.output, h3.size, fun k hk hS => h3.block k hk (fun e => hS (h.blk.symm.trans e.symm))⟩, ?_⟩
      rcases h5 with h5 | h5
      · exact .inl (h5.trans h.blk)
      · exact .inr ⟨_, h5, Nat.le_refl _⟩
  · obtain ⟨ad, rfl, hcell⟩ := hs.2 h0
    obtain ⟨g, c', w', hr, h2, h3, h4, h5⟩ := run_append_lies (P := P) w t ty 0 e i z sz bytes ht hi hz0 hz1 hz2 hzs hsz (.slice A n cap) n xs h.own ad m c news hs.1 hcell h1 h0 (by unfold maxLen; omega) hbytes (Nat.zero_le _) w.heap.size rfl
    refine ⟨_, c', w', _, hr, ⟨h2, rfl⟩, ⟨h3.os, h3.tape, h3.output, h3.size, fun k hk hS => h3.block k hk (fun e => hS (h.blk.symm.trans e.symm))⟩, ?_⟩
    rcases h4 with h4 | h4
    · exact .inl (h4.symm.trans h.blk)
    · exact .inr ⟨g, rfl, by omega⟩

theorem wp_app {o : Oper} {a : Act} {K : Act → World → Prop} {Q : Exit → Act → World → Prop} (s x : Operand) (t : TypeId)
    (ho : o.op = .call { callee := .builtin .append, args := #[s, x], argTypes := #[t, t] })
    (e : TypeId) (z : Value) (sz bytes : Nat) (ht : P.underlying t = some (.slice e)) (hinfo : (P.info? e).map (fun i => (i.zero, i.size, i.bytes)) = some (some z, sz, bytes)) (hzs : z.cells.size = sz) (hsz : 0 < sz) (hb0 : 0 < bytes)
    (A : Option Addr) (n cap : Nat) (xs : List Value) (G : Option Nat) (B : Option Addr) (m c : Nat) (news : List Value)
    (hv : a.eval s = .slice A n cap) (hx : a.eval x = .slice B m c)
    (h : Sl w e sz A n cap xs G) (hs : Src w sz B m news) (h1 : ∀ u ∈ news, u.oneCell' = true) (hbytes : (n + m) * bytes ≤ 140737488355328)
    (hk : ∀ A' cap' w' G', Sl w' e sz A' (n + m) cap' (xs ++ news) G' → Tch (fun k => G = some k) w w' → (G' = G ∨ ∃ g, G' = some g ∧ w.heap.size ≤ g) → K (a.put o.dst (.slice A' (n + m) cap')) w') : o.wp P a w K Q := by
  obtain ⟨A', cap', w', G', hr, h2, h3, h4⟩ := app_run (P := P) w t o.type e z sz bytes ht hinfo hzs hsz A n cap xs G h B m c news hs h1 hbytes hb0
  unfold Oper.wp execOp
  simp only [ho, resolve, invoke, builtin, Sem.run_bind, Sem.run_pure, Result.andThen_ok, List.map_toArray, List.map_cons, List.map_nil, hv, hx, hr]
  exact hk A' cap' w' G' h2 h3 h4

/-- At a plain region's list: behind 'at_builtin'. -/
theorem wpList_app {ops : Array Oper} {rest : List Oper} {o : Oper} {a : Act} {Q : Exit → Act → World → Prop} (hgd : o.guard = none) (s x : Operand) (t : TypeId)
    (ho : o.op = .call { callee := .builtin .append, args := #[s, x], argTypes := #[t, t] })
    (e : TypeId) (z : Value) (sz bytes : Nat) (ht : P.underlying t = some (.slice e)) (hinfo : (P.info? e).map (fun i => (i.zero, i.size, i.bytes)) = some (some z, sz, bytes)) (hzs : z.cells.size = sz) (hsz : 0 < sz) (hb0 : 0 < bytes)
    (A : Option Addr) (n cap : Nat) (xs : List Value) (G : Option Nat) (B : Option Addr) (m c : Nat) (news : List Value)
    (hv : a.eval s = .slice A n cap) (hx : a.eval x = .slice B m c)
    (h : Sl w e sz A n cap xs G) (hs : Src w sz B m news) (h1 : ∀ u ∈ news, u.oneCell' = true) (hbytes : (n + m) * bytes ≤ 140737488355328)
    (hk : ∀ A' cap' w' G', Sl w' e sz A' (n + m) cap' (xs ++ news) G' → Tch (fun k => G = some k) w w' → (G' = G ∨ ∃ g, G' = some g ∧ w.heap.size ≤ g) → wpList P ops Q rest (a.put o.dst (.slice A' (n + m) cap')) w') : wpList P ops Q (o :: rest) a w :=
  wpList_plain hgd fun _ hK => wp_app w s x t ho e z sz bytes ht hinfo hzs hsz hb0 A n cap xs G B m c news hv hx h hs h1 hbytes fun A' cap' w' G' a b c => hK _ _ (hk A' cap' w' G' a b c)

/-- At a step of a region that draws its order. -/
theorem step_app {ops : Array Oper} {o : Oper} {a : Act} {K : Act → World → Prop} {Q : Exit → Act → World → Prop} {E : Prop} (hgd : o.guard = none) (s x : Operand) (t : TypeId)
    (ho : o.op = .call { callee := .builtin .append, args := #[s, x], argTypes := #[t, t] })
    (e : TypeId) (z : Value) (sz bytes : Nat) (ht : P.underlying t = some (.slice e)) (hinfo : (P.info? e).map (fun i => (i.zero, i.size, i.bytes)) = some (some z, sz, bytes)) (hzs : z.cells.size = sz) (hsz : 0 < sz) (hb0 : 0 < bytes)
    (A : Option Addr) (n cap : Nat) (xs : List Value) (G : Option Nat) (B : Option Addr) (m c : Nat) (news : List Value)
    (hv : a.eval s = .slice A n cap) (hx : a.eval x = .slice B m c)
    (h : Sl w e sz A n cap xs G) (hs : Src w sz B m news) (h1 : ∀ u ∈ news, u.oneCell' = true) (hbytes : (n + m) * bytes ≤ 140737488355328)
    (hk : ∀ A' cap' w' G', Sl w' e sz A' (n + m) cap' (xs ++ news) G' → Tch (fun k => G = some k) w w' → (G' = G ∨ ∃ g, G' = some g ∧ w.heap.size ≤ g) → K (a.put o.dst (.slice A' (n + m) cap')) w') :
    if Region.wanted o (yielded ops a.tmps) = true then Oper.wp P o a w K Q else E := by
  have hw : Region.wanted o (yielded ops a.tmps) = true := by simp [Region.wanted, hgd]
  rw [if_pos hw]
  exact wp_app w s x t ho e z sz bytes ht hinfo hzs hsz hb0 A n cap xs G B m c news hv hx h hs h1 hbytes hk

end
end Go.Proofs.YtipbimbnpikbcaaGreat

/- Numbers in a row, and small endings. -/
namespace Go.Proofs.YtipbimbnpikbcaaGreat

def iota (a n : Nat) : List Int := (List.range n).map (fun i => ((a + i : Nat) : Int))
theorem iota_length (a n : Nat) : (iota a n).length = n := by simp [iota]
theorem iota_zero (a : Nat) : iota a 0 = [] := rfl
theorem iota_snoc (a n : Nat) : iota a (n + 1) = iota a n ++ [((a + n : Nat) : Int)] := by simp [iota, List.range_succ]
theorem iota_cons (a n : Nat) : iota a (n + 1) = (a : Int) :: iota (a + 1) n := by
  apply List.ext_getElem?
  intro i
  cases i with
  | zero => simp [iota]
  | succ i =>
    by_cases h : i < n
    · simp [iota, h]
      omega
    · simp [iota, h]
theorem iota_getD (a n i : Nat) (h : i < n) : (iota a n).getD i 0 = ((a + i : Nat) : Int) := by simp [iota, List.getD_eq_getElem?_getD, h]

theorem num {k : IntKind} {a b : Int} (h : a = b) : Value.int k a = Value.int k b := by rw [h]
theorem ret_bool {a b : Bool} (h : a = b) : Ending.returned (.bool a) = .returned (.bool b) := by rw [h]
theorem take_snoc (l : List Int) (k : Nat) (h : k < l.length) : l.take (k + 1) = l.take k ++ [l.getD k 0] := by
  rw [List.take_succ_eq_append_getElem h]
  simp [List.getD_eq_getElem?_getD, h]
end Go.Proofs.YtipbimbnpikbcaaGreat

/- Promises: told or not, what, who waits: what the table's functions do, said of a list. -/
namespace Go.Proofs.YtipbimbnpikbcaaGreat
open Go.RowKit

/-- A promise: is it told, what, who waits. -/
structure Pr where
  told : Bool
  value : Int
  q : List Int

structure PrAt (w : World) (p r : Nat) (x : Pr) : Prop where
  blk : Blk w p 136 [.pointer (some ⟨r, 0, none⟩), .bool x.told, .int .i64 x.value]
  ring : RingQ w r 256 x.q
  ne : p ≠ r

theorem PrAt.keep {S : Nat → Prop} {w w' : World} {p r : Nat} {x : Pr} (h : PrAt w p r x) (ht : Tch S w w') (hp : ¬ S p) (hr : ¬ S r) : PrAt w' p r x := ⟨h.blk.keep ht hp, h.ring.keep ht hr, h.ne⟩

def ptrs (os : List (Nat × Nat)) : List Value := os.map fun o => .pointer (some ⟨o.1, 0, none⟩)
theorem ptrs_one (os : List (Nat × Nat)) : ∀ u ∈ ptrs os, u.oneCell' = true := by
  intro u hu
  simp only [ptrs, List.mem_map] at hu
  obtain ⟨x, _, rfl⟩ := hu
  rfl
theorem infoPtr : (Tryz.prog.info? 134).map (fun i => (i.zero, i.size, i.bytes)) = some (some (.pointer none), 1, 8) := by kernel_rfl

/-- The table at block b: the promises l, at os, in a slice of block G. -/
structure PrsAt (w : World) (b : Nat) (l : List Pr) (os : List (Nat × Nat)) (A : Option Addr) (cap : Nat) (G : Option Nat) : Prop where
  blk : Blk w b 94 [.slice A l.length cap]
  sl : Sl w 134 1 A l.length cap (ptrs os) G
  len : os.length = l.length
  at_ : ∀ (i : Nat) (o : Nat × Nat) (x : Pr), os[i]? = some o → l[i]? = some x → PrAt w o.1 o.2 x
  apart : ∀ (i j : Nat) (o u : Nat × Nat), os[i]? = some o → os[j]? = some u → i ≠ j → o.1 ≠ u.1 ∧ o.1 ≠ u.2 ∧ o.2 ≠ u.1 ∧ o.2 ≠ u.2
  ne : ∀ (i : Nat) (o : Nat × Nat), os[i]? = some o → o.1 ≠ b ∧ o.2 ≠ b ∧ G ≠ some o.1 ∧ G ≠ some o.2
  gb : G ≠ some b
  le : l.length ≤ 512

/-- The blocks that it lies in. -/
def PrsIn (b : Nat) (os : List (Nat × Nat)) (G : Option Nat) (k : Nat) : Prop := k = b ∨ G = some k ∨ ∃ (i : Nat) (o : Nat × Nat), os[i]? = some o ∧ (k = o.1 ∨ k = o.2)

def PrsQ (w : World) (b : Nat) (l : List Pr) (F : Nat → Prop) : Prop := ∃ os A cap G, PrsAt w b l os A cap G ∧ ∀ k, F k ↔ PrsIn b os G k

theorem PrsAt.keep {w w' : World} {b : Nat} {l : List Pr} {os : List (Nat × Nat)} {A : Option Addr} {cap : Nat} {G : Option Nat} {S : Nat → Prop} (h : PrsAt w b l os A cap G) (ht : Tch S w w') (hS : ∀ k, PrsIn b os G k → ¬ S k) : PrsAt w' b l os A cap G :=
  ⟨h.blk.keep ht (hS _ (.inl rfl)), h.sl.keep ht (fun _ hg => hS _ (.inr (.inl hg))), h.len, fun i o x ho hx => (h.at_ i o x ho hx).keep ht (hS _ (.inr (.inr ⟨i, o, ho, .inl rfl⟩))) (hS _ (.inr (.inr ⟨i, o, ho, .inr rfl⟩))), h.apart, h.ne, h.gb, h.le⟩
theorem PrsAt.lt {w : World} {b : Nat} {l : List Pr} {os : List (Nat × Nat)} {A : Option Addr} {cap : Nat} {G : Option Nat} (h : PrsAt w b l os A cap G) (k : Nat) (hk : PrsIn b os G k) : k < w.heap.size := by
  rcases hk with rfl | hk | ⟨i, o, ho, hk⟩
  · exact h.blk.lt
  · exact h.sl.lt k hk
  · have hi : i < l.length := by
      rw [← h.len]
      exact (List.getElem?_eq_some_iff.1 ho).1
    have := h.at_ i o _ ho (List.getElem?_eq_getElem hi)
    rcases hk with rfl | rfl
    · exact this.blk.lt
    · exact this.ring.lt

theorem PrsQ.keep {w w' : World} {b : Nat} {l : List Pr} {F S : Nat → Prop} (h : PrsQ w b l F) (ht : Tch S w w') (hS : ∀ k, F k → ¬ S k) : PrsQ w' b l F := by
  obtain ⟨os, A, cap, G, h, hF⟩ := h
  exact ⟨os, A, cap, G, h.keep ht (fun k hk => hS k ((hF k).2 hk)), hF⟩
theorem PrsQ.lt {w : World} {b : Nat} {l : List Pr} {F : Nat → Prop} (h : PrsQ w b l F) : ∀ k, F k → k < w.heap.size := by
  obtain ⟨os, A, cap, G, h, hF⟩ := h
  exact fun k hk => h.lt k ((hF k).1 hk)
theorem PrsQ.le {w : World} {b : Nat} {l : List Pr} {F : Nat → Prop} (h : PrsQ w b l F) : l.length ≤ 512 := by
  obtain ⟨os, A, cap, G, h, hF⟩ := h
  exact h.le

theorem promise_new (w : World) :
    Calls Tryz.prog 19 #[] w fun e w' => ∃ b F, e = .returned (.pointer (some ⟨b, 0, none⟩)) ∧ PrsQ w' b [] F ∧ (∀ k, F k → w.heap.size ≤ k) ∧ Tch NoBlk w w' := by
  go_enter Tryz.func19, Tryz.ntmps19
  go_wp2
  go_ret
  refine ⟨w.heap.size, PrsIn w.heap.size [] none, rfl, ⟨[], none, 0, none, ⟨Blk.new w _ _, Sl.nil _ _ _, rfl, fun i o x ho => by simp at ho, fun i j o u ho => by simp at ho, fun i o ho => by simp at ho, by simp, by simp⟩, fun k => Iff.rfl⟩, fun k hk => ?_, (Tch.refl _ _).alloc _⟩
  rcases hk with rfl | hk | ⟨i, o, ho, _⟩
  · exact Nat.le_refl _
  · cases hk
  · simp at ho

theorem promise_len (b : Nat) (l : List Pr) (F : Nat → Prop) (w : World) (h : PrsQ w b l F) :
    Calls Tryz.prog 89 #[.pointer (some ⟨b, 0, none⟩)] w fun e w' => e = .returned (.int .i64 l.length) ∧ w' = w := by
  obtain ⟨os, A, cap, G, h, hF⟩ := h
  have hc := h.blk.cellOf 0 _ rfl
  clear h hF
  go_enter Tryz.func89, Tryz.ntmps89
  go_wp2
  go_ret
  exact ⟨rfl, rfl⟩
theorem promise_len_nil (w : World) :
    Calls Tryz.prog 89 #[.pointer none] w fun e w' => e = .returned (.int .i64 0) ∧ w' = w := by
  go_enter Tryz.func89, Tryz.ntmps89
  go_wp2
  go_ret
  exact ⟨rfl, rfl⟩

theorem promise_find_no (b : Nat) (l : List Pr) (F : Nat → Prop) (id : Int) (w : World) (h : PrsQ w b l F) (hid : id < 0 ∨ l.length ≤ id) :
    Calls Tryz.prog 84 #[.pointer (some ⟨b, 0, none⟩), .int .i64 id] w fun e w' => e = .returned (.pointer none) ∧ w' = w := by
  by_cases h0 : id < 0
  · clear hid
    go_enter Tryz.func84, Tryz.ntmps84
    go_wp2
    go_ret
    exact ⟨rfl, rfl⟩
  · have h1 : (l.length : Int) ≤ id := by omega
    have h2 : decide (id < 0) = false := by simp; omega
    clear hid
    go_enter Tryz.func84, Tryz.ntmps84
    go_wp2_with fail
    refine (promise_len b l F w h).mono ?_
    rintro e w' ⟨rfl, rfl⟩
    go_wp2
    go_ret
    exact ⟨rfl, rfl⟩
theorem promise_find_nil (id : Int) (w : World) :
    Calls Tryz.prog 84 #[.pointer none, .int .i64 id] w fun e w' => e = .returned (.pointer none) ∧ w' = w := by
  by_cases h0 : id < 0
  · go_enter Tryz.func84, Tryz.ntmps84
    go_wp2
    go_ret
    exact ⟨rfl, rfl⟩
  · have h1 : (0 : Int) ≤ id := by omega
    go_enter Tryz.func84, Tryz.ntmps84
    go_wp2_with fail
    refine (promise_len_nil w).mono ?_
    rintro e w' ⟨rfl, rfl⟩
    go_wp2
    go_ret
    exact ⟨rfl, rfl⟩
theorem promise_find_yes (b : Nat) (l : List Pr) (os : List (Nat × Nat)) (A : Option Addr) (cap : Nat) (G : Option Nat) (i : Nat) (o : Nat × Nat) (w : World) (h : PrsAt w b l os A cap G) (ho : os[i]? = some o) :
    Calls Tryz.prog 84 #[.pointer (some ⟨b, 0, none⟩), .int .i64 i] w fun e w' => e = .returned (.pointer (some ⟨o.1, 0, none⟩)) ∧ w' = w := by
  have hq : PrsQ w b l (PrsIn b os G) := ⟨os, A, cap, G, h, fun k => Iff.rfl⟩
  have hi : i < l.length := by
    rw [← h.len]
    exact (List.getElem?_eq_some_iff.1 ho).1
  have hc := h.blk.cellOf 0 _ rfl
  obtain ⟨g, rfl, rfl, hcell⟩ := h.sl.cells (by omega)
  have hci := hcell i (.pointer (some ⟨o.1, 0, none⟩)) (by simp [ptrs, ho])
  have hle := h.le
  clear hcell h ho
  generalize o.1 = p at *
  go_enter Tryz.func84, Tryz.ntmps84
  go_wp2_with fail
  refine (promise_len b l _ w hq).mono ?_
  rintro e w' ⟨rfl, rfl⟩
  go_wp2
  go_ret
  exact ⟨rfl, rfl⟩
end Go.Proofs.YtipbimbnpikbcaaGreat

/- Rows of integers. -/
namespace Go.Proofs.YtipbimbnpikbcaaGreat
open Go.RowKit

def ints (l : List Int) : List Value := l.map fun x => .int .i64 x
theorem ints_length (l : List Int) : (ints l).length = l.length := by simp [ints]
theorem ints_one (l : List Int) : ∀ u ∈ ints l, u.oneCell' = true := by
  intro u hu
  simp only [ints, List.mem_map] at hu
  obtain ⟨x, _, rfl⟩ := hu
  rfl
theorem infoInt : (Tryz.prog.info? 3).map (fun i => (i.zero, i.size, i.bytes)) = some (some (.int .i64 0), 1, 8) := by kernel_rfl
theorem ints_get (l : List Int) (k : Nat) (h : k < l.length) : (ints l)[k]? = some (.int .i64 (l.getD k 0)) := by simp [ints, List.getD_eq_getElem?_getD, h]
/-- What was just laid, at a block that has a name. -/
theorem Src.madeAt {sz : Nat} (w : World) (e : TypeId) (cs : Array Value) (m g : Nat) (hg : w.heap.size = g) (hl : cs.size = m * sz) : Src (w.alloc (.cells cs e)) sz (some ⟨g, 0, none⟩) m cs.toList := by
  subst hg
  exact Src.made w e cs m hl
/-- A row that was just laid, at a block that has a name. -/
theorem Sl.madeAt {sz : Nat} (w : World) (e : TypeId) (cs : Array Value) (n g : Nat) (hg : w.heap.size = g) (hl : cs.size = n * sz) (hn : n ≤ 9223372036854775807) : Sl (w.alloc (.cells cs e)) e sz (some ⟨g, 0, none⟩) n n cs.toList (some g) := by
  subst hg
  exact Sl.made w e cs n hl hn
theorem Sl.drew1 {w : World} {e : TypeId} {sz n cap : Nat} {A : Option Addr} {xs : List Value} {G : Option Nat} (h : Sl w e sz A n cap xs G) : Sl w.drew e sz A n cap xs G := h.keep (Tch.refl NoBlk w).drew (fun _ _ h => h)
theorem Src.madeAt1 {w : World} {r : Int} {g : Nat} (hg : w.heap.size = g) : Src (w.alloc (.cells #[.int .i64 r] 3)) 1 (some ⟨g, 0, none⟩) 1 [.int .i64 r] := Src.madeAt w 3 #[.int .i64 r] 1 g hg rfl
theorem Src.drew1 {w : World} {r : Int} {g : Nat} (h : Src w 1 (some ⟨g, 0, none⟩) 1 [.int .i64 r]) : Src w.drew 1 (some ⟨g, 0, none⟩) 1 [.int .i64 r] := Src.keep h (Tch.refl NoBlk w).drew (fun _ _ h => h)

end Go.Proofs.YtipbimbnpikbcaaGreat
