import Derived.Test.YtipbimbnpikbcaaGreatMg03
import Derived.ArgAppend
import Derived.Deep.Upon
/- Slices that may begin anywhere within their block: the first element is cut off; one more is put behind. -/
namespace Go.Proofs.YtipbimbnpikbcaaGreat
open Go.RowKit

/-- The slice (A, n, cap) of elements of type e, sz cells each, lies in block G (none: it is nil), and its cells are xs. -/
structure Rw (w : World) (e : TypeId) (sz : Nat) (A : Option Addr) (n cap : Nat) (xs : List Value) (G : Option Nat) : Prop where
  len : xs.length = n * sz
  at_ : (A = none ∧ n = 0 ∧ cap = 0 ∧ G = none) ∨ ∃ g off cur, A = some ⟨g, off, none⟩ ∧ G = some g ∧ w.heap[g]? = some (.cells cur e (0, 0)) ∧ n ≤ cap ∧ cap ≤ maxLen ∧ off + cap * sz ≤ cur.size ∧ ∀ j u, xs[j]? = some u → w.cell? ⟨g, off + j, none⟩ = some u

section
variable {w w' : World} {e : TypeId} {sz n cap : Nat} {A : Option Addr} {xs : List Value} {G : Option Nat}
theorem Rw.nil (w : World) (e : TypeId) (sz : Nat) : Rw w e sz none 0 0 [] none := ⟨by simp, .inl ⟨rfl, rfl, rfl, rfl⟩⟩
theorem Sl.rw (h : Sl w e sz A n cap xs G) : Rw w e sz A n cap xs G := by
  refine ⟨h.len, ?_⟩
  have hb := h.blk
  rcases h.own.2 with ⟨hv, h0⟩ | ⟨g', c, cur, hv, _, hh, h1, h2, h3, h4⟩
  · injection hv with e1 e2 e3
    subst e1
    exact .inl ⟨rfl, e2, e3, hb.symm⟩
  · injection hv with e1 e2 e3
    subst e1
    subst e3
    refine .inr ⟨g', 0, cur, rfl, hb.symm, hh, h1, h2, by omega, fun j u hu => ?_⟩
    have h5 := h.own.cells (g := g') rfl j u hu
    have ha : (⟨g', 0, none⟩ : Addr).add j = ⟨g', 0 + j, none⟩ := by unfold Addr.add; split <;> simp_all
    rwa [ha] at h5
theorem Rw.keep (h : Rw w e sz A n cap xs G) {S : Nat → Prop} (ht : Tch S w w') (hG : ∀ g, G = some g → ¬ S g) : Rw w' e sz A n cap xs G := by
  refine ⟨h.len, ?_⟩
  rcases h.at_ with h0 | ⟨g, off, cur, h1, h2, hg, h3, h4, h5, h6⟩
  · exact .inl h0
  · have hb := ht.block g (Array.getElem?_eq_some_iff.1 hg).1 (hG g h2)
    exact .inr ⟨g, off, cur, h1, h2, hb.trans hg, h3, h4, h5, fun j u hu => (World.cell?_of_block hb).trans (h6 j u hu)⟩
theorem Rw.lt (h : Rw w e sz A n cap xs G) (g : Nat) (hg : G = some g) : g < w.heap.size := by
  rcases h.at_ with ⟨_, _, _, h0⟩ | ⟨g', off, cur, h1, h2, hh, _⟩
  · rw [h0] at hg
    cases hg
  · rw [h2] at hg
    injection hg with hg
    subst hg
    exact (Array.getElem?_eq_some_iff.1 hh).1
theorem Rw.cap_le (h : Rw w e sz A n cap xs G) : n ≤ cap ∧ cap ≤ 9223372036854775807 := by
  rcases h.at_ with ⟨_, h0, h1, _⟩ | ⟨g, off, cur, h1, h2, hg, h3, h4, _⟩
  · omega
  · unfold maxLen at h4
    omega
theorem Rw.cells (h : Rw w e sz A n cap xs G) (hn : 0 < n) : ∃ g off, A = some ⟨g, off, none⟩ ∧ G = some g ∧ ∀ j u, xs[j]? = some u → w.cell? ⟨g, off + j, none⟩ = some u := by
  rcases h.at_ with ⟨_, h0, _⟩ | ⟨g, off, cur, h1, h2, hg, h3, h4, h5, h6⟩
  · omega
  · exact ⟨g, off, h1, h2, h6⟩
/-- The first element is cut off. -/
theorem Rw.tail {g off : Nat} (h : Rw w e sz (some ⟨g, off, none⟩) (n + 1) cap xs G) : Rw w e sz (if cap = 1 then some ⟨g, off, none⟩ else some ⟨g, off + sz, none⟩) n (cap - 1) (xs.drop sz) G := by
  rcases h.at_ with ⟨_, h0, _⟩ | ⟨g', off', cur, h1, h2, hg, h3, h4, h5, h6⟩
  · omega
  · injection h1 with h1
    injection h1 with e1 e2
    subst e1
    subst e2
    have hl : (xs.drop sz).length = n * sz := by rw [List.length_drop, h.len, Nat.add_mul]; omega
    have hsz : cap * sz = (cap - 1) * sz + sz := by
      have : cap = (cap - 1) + 1 := by omega
      conv => lhs; rw [this, Nat.add_mul, Nat.one_mul]
    refine ⟨hl, ?_⟩
    split
    · rename_i hc
      have hn : n = 0 := by omega
      subst hn
      refine .inr ⟨g, off, cur, rfl, h2, hg, by omega, by omega, by omega, fun j u hu => ?_⟩
      rw [List.eq_nil_of_length_eq_zero (show (xs.drop sz).length = 0 by rw [hl]; simp)] at hu
      simp at hu
    · refine .inr ⟨g, off + sz, cur, rfl, h2, hg, by omega, by omega, by omega, fun j u hu => ?_⟩
      rw [List.getElem?_drop] at hu
      rw [Nat.add_assoc]
      exact h6 _ _ hu
theorem heap_setCells_self (g : Nat) : ∀ (vs : List Value) (o : Nat) (w : World) (cur : Array Value) (e : TypeId), w.heap[g]? = some (.cells cur e (0, 0)) → ∃ cur', (w.setCells g o vs).heap[g]? = some (.cells cur' e (0, 0)) ∧ cur'.size = cur.size
  | [], o, w, cur, e, h => ⟨cur, h, rfl⟩
  | v :: r, o, w, cur, e, h => by
    rw [World.setCells]
    obtain ⟨cur', h1, h2⟩ := heap_setCells_self g r (o + 1) (w.setCell ⟨g, o, none⟩ v) (cur.setIfInBounds o v) e (by simp [World.setCell, Array.getElem?_modify, h])
    exact ⟨cur', h1, by rw [h2]; simp⟩
theorem size_setCells (g : Nat) : ∀ (vs : List Value) (o : Nat) (w : World), (w.setCells g o vs).heap.size = w.heap.size
  | [], _, _ => rfl
  | v :: r, o, w => by rw [World.setCells, size_setCells g r]; simp [World.setCell]
theorem tape_setCells (g : Nat) : ∀ (vs : List Value) (o : Nat) (w : World), (w.setCells g o vs).tape = w.tape
  | [], _, _ => rfl
  | v :: r, o, w => by rw [World.setCells, tape_setCells g r]; rfl
theorem tch_setCells (w : World) (g o : Nat) (vs : List Value) : Tch (fun k => some g = some k) w (w.setCells g o vs) :=
  ⟨World.os_setCells w g o vs, tape_setCells g vs o w, World.output_setCells w g o vs, by rw [size_setCells]; exact Nat.le_refl _, fun k hk hS => World.heap_setCells_other w g o vs hk (fun e => hS (by rw [e]))⟩
end

section
variable {P : Program} (w : World)
/-- append(v, src...): v at any place of its block. -/
theorem rw_app_run (t ty e : TypeId) (z : Value) (sz bytes : Nat) (ht : P.underlying t = some (.slice e)) (hinfo : (P.info? e).map (fun i => (i.zero, i.size, i.bytes)) = some (some z, sz, bytes)) (hzs : z.cells.size = sz) (hsz : 0 < sz)
    (A : Option Addr) (n cap : Nat) (xs : List Value) (G : Option Nat) (h : Rw w e sz A n cap xs G)
    (B : Option Addr) (m c : Nat) (news : List Value) (hm : 0 < m) (hs : Src w sz B m news) (h1 : ∀ u ∈ news, u.oneCell' = true) (hbytes : (n + m) * bytes ≤ 140737488355328) (hb0 : 0 < bytes) :
    ∃ A' cap' w' G', (Builtin.append_ #[t, t] ty #[.slice A n cap, .slice B m c]).run P w = .ok (.slice A' (n + m) cap') w' ∧ Rw w' e sz A' (n + m) cap' (xs ++ news) G' ∧ Tch (fun k => G = some k) w w' ∧
      (G' = G ∨ ∃ g, G' = some g ∧ w.heap.size ≤ g) := by
  have hle : n + m ≤ 140737488355328 := Nat.le_trans (Nat.le_mul_of_pos_right _ hb0) hbytes
  rcases h.at_ with ⟨rfl, rfl, rfl, rfl⟩ | ⟨g, off, cur, rfl, rfl, hg, h3, h4, h5, h6⟩
  · obtain rfl : xs = [] := List.eq_nil_of_length_eq_zero (by simpa using h.len)
    obtain ⟨A', cap', w', G', hr, h2, h3, h4⟩ := app_run (P := P) w t ty e z sz bytes ht hinfo hzs hsz none 0 0 [] none (Sl.nil w e sz) B m c news hs h1 hbytes hb0
    exact ⟨A', cap', w', G', hr, h2.rw, h3, h4⟩
  · obtain ⟨i, hi, hzz⟩ := Option.map_eq_some_iff.1 hinfo
    simp only [Prod.mk.injEq] at hzz
    obtain ⟨hz0, hz1, hz2⟩ := hzz
    obtain ⟨ad, rfl, hcell⟩ := hs.2 hm
    by_cases hroom : n + m ≤ cap
    · have hsz2 : n * sz + m * sz ≤ cap * sz := by rw [← Nat.add_mul]; exact Nat.mul_le_mul_right _ hroom
      have hin : ∀ j, j < news.length → (w.cell? ⟨g, off + n * sz + j, none⟩).isSome = true := fun j hj => by
        have hj2 : off + n * sz + j < cur.size := by have := hs.1; omega
        simp [World.cell?, hg, hj2]
      have hr := run_append_room_cells (P := P) w t ty e i ht hi g off n cap ad m c news (by rw [hz1]; exact hs.1) hcell h1 hroom (by rw [hz1]; exact hin) (fun j hj => by simp [World.frozen?, hg])
      rw [hz1] at hr
      obtain ⟨cur', hg', hsz'⟩ := heap_setCells_self g news (off + n * sz) w cur e hg
      refine ⟨_, _, _, some g, hr, ⟨by rw [List.length_append, h.len, hs.1, Nat.add_mul], .inr ⟨g, off, cur', rfl, rfl, hg', hroom, h4, by rw [hsz']; exact h5, fun j u hu => ?_⟩⟩, tch_setCells w g _ news, .inl rfl⟩
      by_cases hj : j < xs.length
      · rw [List.getElem?_append_left hj] at hu
        rw [World.cell?_setCells_out g news _ w _ (fun _ _ => .inl (by have := h.len; simp only; omega))]
        exact h6 j u hu
      · rw [List.getElem?_append_right (by omega)] at hu
        have hj2 : j - xs.length < news.length := (List.getElem?_eq_some_iff.1 hu).1
        have := World.cell?_setCells_in g news (off + n * sz) w hin (j - xs.length) hj2
        have e1 : off + n * sz + (j - xs.length) = off + j := by have := h.len; omega
        rw [e1] at this
        rw [this, ← hu, List.getElem?_eq_getElem hj2]
    · obtain ⟨v', w', hr, h7, h8⟩ := run_append_arg_grows (P := P) w t ty e i z sz bytes ht hi hz0 hz1 hz2 hzs hsz ⟨g, off, none⟩ n cap xs h.len (fun j u hu => by rw [Addr.add_lit]; exact h6 j u hu) ad m c news hs.1 hcell (by omega) (by unfold maxLen; omega) hbytes
      obtain ⟨A', cap', rfl⟩ : ∃ A' cap', v' = .slice A' (n + m) cap' := by
        rcases h7.2 with ⟨rfl, h9⟩ | ⟨g, k, cur, rfl, _⟩
        · exact ⟨none, 0, by rw [h9]⟩
        · exact ⟨_, _, rfl⟩
      refine ⟨A', cap', w', (Value.slice A' (n + m) cap').ownBlock, hr, Sl.rw ⟨⟨h7.1, ?_⟩, rfl⟩, (Tch.refl _ w).grown h8 (fun k e => by cases e), ?_⟩
      · rcases h7.2 with h9 | ⟨g2, k, cur2, hv, hb, rest⟩
        · exact .inl h9
        · exact .inr ⟨g2, k, cur2, hv, Nat.zero_le _, rest⟩
      · rcases h7.2 with ⟨hv, h9⟩ | ⟨g2, k, cur2, hv, hb, rest⟩
        · omega
        · rw [hv]
          exact .inr ⟨g2, rfl, hb⟩

theorem wp_rw_app {o : Oper} {a : Act} {K : Act → World → Prop} {Q : Exit → Act → World → Prop} (s x : Operand) (t : TypeId)
    (ho : o.op = .call { callee := .builtin .append, args := #[s, x], argTypes := #[t, t] })
    (e : TypeId) (z : Value) (sz bytes : Nat) (ht : P.underlying t = some (.slice e)) (hinfo : (P.info? e).map (fun i => (i.zero, i.size, i.bytes)) = some (some z, sz, bytes)) (hzs : z.cells.size = sz) (hsz : 0 < sz) (hb0 : 0 < bytes)
    (A : Option Addr) (n cap : Nat) (xs : List Value) (G : Option Nat) (B : Option Addr) (m c : Nat) (news : List Value)
    (hv : a.eval s = .slice A n cap) (hx : a.eval x = .slice B m c) (hm : 0 < m)
    (h : Rw w e sz A n cap xs G) (hs : Src w sz B m news) (h1 : ∀ u ∈ news, u.oneCell' = true) (hbytes : (n + m) * bytes ≤ 140737488355328)
    (hk : ∀ A' cap' w' G', Rw w' e sz A' (n + m) cap' (xs ++ news) G' → Tch (fun k => G = some k) w w' → (G' = G ∨ ∃ g, G' = some g ∧ w.heap.size ≤ g) → K (a.put o.dst (.slice A' (n + m) cap')) w') : o.wp P a w K Q := by
  obtain ⟨A', cap', w', G', hr, h2, h3, h4⟩ := rw_app_run (P := P) w t o.type e z sz bytes ht hinfo hzs hsz A n cap xs G h B m c news hm hs h1 hbytes hb0
  unfold Oper.wp execOp
  simp only [ho, resolve, invoke, builtin, Sem.run_bind, Sem.run_pure, Result.andThen_ok, List.map_toArray, List.map_cons, List.map_nil, hv, hx, hr]
  exact hk A' cap' w' G' h2 h3 h4
/-- At a step of a region that draws its order. -/
theorem step_rw_app {ops : Array Oper} {o : Oper} {a : Act} {K : Act → World → Prop} {Q : Exit → Act → World → Prop} {E : Prop} (hgd : o.guard = none) (s x : Operand) (t : TypeId)
    (ho : o.op = .call { callee := .builtin .append, args := #[s, x], argTypes := #[t, t] })
    (e : TypeId) (z : Value) (sz bytes : Nat) (ht : P.underlying t = some (.slice e)) (hinfo : (P.info? e).map (fun i => (i.zero, i.size, i.bytes)) = some (some z, sz, bytes)) (hzs : z.cells.size = sz) (hsz : 0 < sz) (hb0 : 0 < bytes)
    (A : Option Addr) (n cap : Nat) (xs : List Value) (G : Option Nat) (B : Option Addr) (m c : Nat) (news : List Value)
    (hv : a.eval s = .slice A n cap) (hx : a.eval x = .slice B m c) (hm : 0 < m)
    (h : Rw w e sz A n cap xs G) (hs : Src w sz B m news) (h1 : ∀ u ∈ news, u.oneCell' = true) (hbytes : (n + m) * bytes ≤ 140737488355328)
    (hk : ∀ A' cap' w' G', Rw w' e sz A' (n + m) cap' (xs ++ news) G' → Tch (fun k => G = some k) w w' → (G' = G ∨ ∃ g, G' = some g ∧ w.heap.size ≤ g) → K (a.put o.dst (.slice A' (n + m) cap')) w') :
    if Region.wanted o (yielded ops a.tmps) = true then Oper.wp P o a w K Q else E := by
  have hw : Region.wanted o (yielded ops a.tmps) = true := by simp [Region.wanted, hgd]
  rw [if_pos hw]
  exact wp_rw_app w s x t ho e z sz bytes ht hinfo hzs hsz hb0 A n cap xs G B m c news hv hx hm h hs h1 hbytes hk
theorem wpList_rw_app {ops : Array Oper} {rest : List Oper} {o : Oper} {a : Act} {Q : Exit → Act → World → Prop} (hgd : o.guard = none) (s x : Operand) (t : TypeId)
    (ho : o.op = .call { callee := .builtin .append, args := #[s, x], argTypes := #[t, t] })
    (e : TypeId) (z : Value) (sz bytes : Nat) (ht : P.underlying t = some (.slice e)) (hinfo : (P.info? e).map (fun i => (i.zero, i.size, i.bytes)) = some (some z, sz, bytes)) (hzs : z.cells.size = sz) (hsz : 0 < sz) (hb0 : 0 < bytes)
    (A : Option Addr) (n cap : Nat) (xs : List Value) (G : Option Nat) (B : Option Addr) (m c : Nat) (news : List Value)
    (hv : a.eval s = .slice A n cap) (hx : a.eval x = .slice B m c) (hm : 0 < m)
    (h : Rw w e sz A n cap xs G) (hs : Src w sz B m news) (h1 : ∀ u ∈ news, u.oneCell' = true) (hbytes : (n + m) * bytes ≤ 140737488355328)
    (hk : ∀ A' cap' w' G', Rw w' e sz A' (n + m) cap' (xs ++ news) G' → Tch (fun k => G = some k) w w' → (G' = G ∨ ∃ g, G' = some g ∧ w.heap.size ≤ g) → wpList P ops Q rest (a.put o.dst (.slice A' (n + m) cap')) w') : wpList P ops Q (o :: rest) a w :=
  wpList_plain hgd fun _ hK => wp_rw_app w s x t ho e z sz bytes ht hinfo hzs hsz hb0 A n cap xs G B m c news hv hx hm h hs h1 hbytes fun A' cap' w' G' a b c => hK _ _ (hk A' cap' w' G' a b c)
end
end Go.Proofs.YtipbimbnpikbcaaGreat
