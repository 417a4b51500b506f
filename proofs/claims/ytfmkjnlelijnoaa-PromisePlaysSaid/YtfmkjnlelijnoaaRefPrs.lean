/- The document's promises: a row of records, at some cell of some block; each keeps who waits in a row of its own. -/
import Derived.Test.YtfmkjnlelijnoaaSlSet
import Derived.Test.YtfmkjnlelijnoaaPromiseNews
namespace Go.Proofs.Ytfmkjnlelijnoaa
open Go.RowKit

/-- A promise, and where its row lies. -/
structure Pv where
  pr : Pr
  A : Option Addr
  c : Nat
  G : Option Nat

def Pv.vals (x : Pv) : List Value := [.bool x.pr.told, .int .i64 x.pr.value, .slice x.A x.pr.q.length x.c]
def pcells (vs : List Pv) : List Value := vs.flatMap Pv.vals
theorem pcells_cons (x : Pv) (vs : List Pv) : pcells (x :: vs) = .bool x.pr.told :: .int .i64 x.pr.value :: .slice x.A x.pr.q.length x.c :: pcells vs := rfl
theorem pcells_app (vs us : List Pv) : pcells (vs ++ us) = pcells vs ++ pcells us := by simp [pcells]
theorem pcells_one (vs : List Pv) : ∀ u ∈ pcells vs, u.oneCell' = true := by
  intro u hu
  simp only [pcells, List.mem_flatMap, Pv.vals, List.mem_cons, List.not_mem_nil, or_false] at hu
  obtain ⟨x, _, rfl | rfl | rfl⟩ := hu <;> rfl
theorem pcells_get (vs : List Pv) (i : Nat) (x : Pv) (h : vs[i]? = some x) :
    (pcells vs)[i * 3]? = some (.bool x.pr.told) ∧ (pcells vs)[i * 3 + 1]? = some (.int .i64 x.pr.value) ∧ (pcells vs)[i * 3 + 2]? = some (.slice x.A x.pr.q.length x.c) := by
  induction vs generalizing i with
  | nil => simp at h
  | cons y vs ih =>
    rw [pcells_cons]
    cases i with
    | zero =>
      simp at h
      subst h
      exact ⟨rfl, rfl, rfl⟩
    | succ i =>
      have := ih i (by simpa using h)
      rw [show (i + 1) * 3 = i * 3 + 1 + 1 + 1 from by omega]
      exact this
theorem pcells_set (vs : List Pv) (i : Nat) (x : Pv) (h : i < vs.length) :
    (((pcells vs).set (i * 3) (.bool x.pr.told)).set (i * 3 + 1) (.int .i64 x.pr.value)).set (i * 3 + 2) (.slice x.A x.pr.q.length x.c) = pcells (vs.set i x) := by
  induction vs generalizing i with
  | nil => simp at h
  | cons y vs ih =>
    rw [pcells_cons]
    cases i with
    | zero => rfl
    | succ i =>
      have := ih i (by simpa using h)
      rw [show (i + 1) * 3 = i * 3 + 1 + 1 + 1 from by omega]
      simp only [List.set_cons_succ]
      rw [this, pcells_cons]
theorem infoOne : (Try.prog.info? 68).map (fun i => (i.zero, i.size, i.bytes)) = some (some (.agg #[.bool false, .int .i64 0, .slice none 0 0]), 3, 40) := by kernel_rfl

structure RefPrsAt (w : World) (b : Nat) (ty : TypeId) (cs : List Value) (o : Nat) (vs : List Pv) (A : Option Addr) (c : Nat) (G : Option Nat) : Prop where
  blk : Blk w b ty cs
  at_ : cs[o]? = some (.slice A vs.length c)
  sl : Sl w 68 3 A vs.length c (pcells vs) G
  each : ∀ (i : Nat) (x : Pv), vs[i]? = some x → Sl w 3 1 x.A x.pr.q.length x.c (ints x.pr.q) x.G
  nb : G ≠ some b
  nx : ∀ (i : Nat) (x : Pv), vs[i]? = some x → x.G ≠ some b ∧ ∀ g, x.G = some g → G ≠ some g
  nn : ∀ (i j : Nat) (x y : Pv), vs[i]? = some x → vs[j]? = some y → i ≠ j → ∀ g, x.G = some g → y.G ≠ some g
  le : vs.length ≤ 512
  qle : ∀ (i : Nat) (x : Pv), vs[i]? = some x → x.pr.q.length ≤ 256
/-- The blocks of the parts. -/
def PrF (b : Nat) (vs : List Pv) (G : Option Nat) (k : Nat) : Prop := k = b ∨ G = some k ∨ ∃ (i : Nat) (x : Pv), vs[i]? = some x ∧ x.G = some k
def RefPrsQ (w : World) (b : Nat) (ty : TypeId) (cs : List Value) (o : Nat) (l : List Pr) (F : Nat → Prop) : Prop :=
  ∃ vs A c G, RefPrsAt w b ty cs o vs A c G ∧ l = vs.map (·.pr) ∧ ∀ k, F k ↔ PrF b vs G k

section
variable {w w' w2 : World} {b o : Nat} {ty : TypeId} {cs : List Value} {l : List Pr} {F S : Nat → Prop} {vs : List Pv} {A : Option Addr} {c : Nat} {G : Option Nat}
theorem RefPrsAt.keep (h : RefPrsAt w b ty cs o vs A c G) (ht : Tch S w w') (hS : ∀ k, PrF b vs G k → ¬ S k) : RefPrsAt w' b ty cs o vs A c G :=
  ⟨h.blk.keep ht (hS _ (.inl rfl)), h.at_, h.sl.keep ht (fun _ e => hS _ (.inr (.inl e))), fun i x hx => (h.each i x hx).keep ht (fun _ e => hS _ (.inr (.inr ⟨i, x, hx, e⟩))), h.nb, h.nx, h.nn, h.le, h.qle⟩
theorem RefPrsQ.keep (h : RefPrsQ w b ty cs o l F) (ht : Tch S w w') (hS : ∀ k, F k → ¬ S k) : RefPrsQ w' b ty cs o l F := by
  obtain ⟨vs, A, c, G, h, hl, hF⟩ := h
  exact ⟨vs, A, c, G, h.keep ht (fun k hk => hS _ ((hF k).2 hk)), hl, hF⟩
theorem RefPrsAt.lt (h : RefPrsAt w b ty cs o vs A c G) (k : Nat) (hk : PrF b vs G k) : k < w.heap.size := by
  rcases hk with rfl | hk | ⟨i, x, hx, e⟩
  · exact h.blk.lt
  · exact h.sl.lt k hk
  · exact (h.each i x hx).lt k e
theorem RefPrsQ.lt (h : RefPrsQ w b ty cs o l F) : ∀ k, F k → k < w.heap.size := by
  obtain ⟨vs, A, c, G, h, _, hF⟩ := h
  intro k hk
  exact h.lt k ((hF k).1 hk)
theorem RefPrsQ.lenOf (h : RefPrsQ w b ty cs o l F) : ∃ A c, cs[o]? = some (.slice A l.length c) ∧ l.length ≤ c ∧ c ≤ 9223372036854775807 := by
  obtain ⟨vs, A, c, G, h, hl, hF⟩ := h
  refine ⟨A, c, ?_, ?_⟩
  · rw [hl, List.length_map]
    exact h.at_
  · rw [hl, List.length_map]
    exact h.sl.cap_le

/-- A record is replaced: the row of records then, touched in its own block alone; the new record's own row is the old one, or lies behind what was there. -/
theorem RefPrsAt.put {g : Nat} (h : RefPrsAt w b ty cs o vs A c (some g)) (i : Nat) (x y : Pv) (hx : vs[i]? = some x) (T : Tch (· = g) w w') (hs : Sl w' 68 3 A vs.length c (pcells (vs.set i y)) (some g))
    (hy : Sl w' 3 1 y.A y.pr.q.length y.c (ints y.pr.q) y.G) (hG : ∀ k, y.G = some k → x.G = some k ∨ w.heap.size ≤ k) (hq : y.pr.q.length ≤ 256) :
    RefPrsAt w' b ty cs o (vs.set i y) A c (some g) ∧ ∀ k, PrF b (vs.set i y) (some g) k → PrF b vs (some g) k ∨ w.heap.size ≤ k := by
  have hil : i < vs.length := (List.getElem?_eq_some_iff.1 hx).1
  have hself : (vs.set i y)[i]? = some y := by simp [hil]
  have hoth : ∀ j, j ≠ i → (vs.set i y)[j]? = vs[j]? := fun j hj => by simp [Ne.symm hj]
  have hbg : b ≠ g := fun e => h.nb (by rw [e])
  have hlb := h.blk.lt
  have hlg := h.sl.lt g rfl
  refine ⟨⟨h.blk.keep T hbg, by rw [List.length_set]; exact h.at_, by rw [List.length_set]; exact hs, fun j z hz => ?_, h.nb, fun j z hz => ?_, fun j k z u hz hu hjk e he => ?_, by rw [List.length_set]; exact h.le, fun j z hz => ?_⟩, fun k hk => ?_⟩
  · by_cases hj : j = i
    · subst hj
      rw [hself] at hz
      injection hz with hz
      subst hz
      exact hy
    · rw [hoth j hj] at hz
      exact (h.each j z hz).keep T (fun e he hee => (h.nx j z hz).2 e he (by rw [hee]))
  · by_cases hj : j = i
    · subst hj
      rw [hself] at hz
      injection hz with hz
      subst hz
      refine ⟨fun e => ?_, fun e he e2 => ?_⟩
      · rcases hG b e with e3 | e3
        · exact (h.nx j x hx).1 e3
        · omega
      · injection e2 with e2
        subst e2
        rcases hG g he with e3 | e3
        · exact (h.nx j x hx).2 g e3 rfl
        · omega
    · rw [hoth j hj] at hz
      exact h.nx j z hz
  · by_cases hj : j = i
    · subst hj
      rw [hself] at hz
      injection hz with hz
      subst hz
      rw [hoth k (Ne.symm hjk)] at hu
      intro e2
      rcases hG e he with e3 | e3
      · exact h.nn j k x u hx hu hjk e e3 e2
      · have := (h.each k u hu).lt e e2
        omega
    · rw [hoth j hj] at hz
      by_cases hk : k = i
      · subst hk
        rw [hself] at hu
        injection hu with hu
        subst hu
        intro e2
        rcases hG e e2 with e3 | e3
        · exact h.nn j k z x hz hx hjk e he e3
        · have := (h.each j z hz).lt e he
          omega
      · rw [hoth k hk] at hu
        exact h.nn j k z u hz hu hjk e he
  · by_cases hj : j = i
    · subst hj
      rw [hself] at hz
      injection hz with hz
      subst hz
      exact hq
    · rw [hoth j hj] at hz
      exact h.qle j z hz
  · rcases hk with hk | hk | ⟨j, z, hz, e⟩
    · exact .inl (.inl hk)
    · exact .inl (.inr (.inl hk))
    · by_cases hj : j = i
      · subst hj
        rw [hself] at hz
        injection hz with hz
        subst hz
        rcases hG k e with e3 | e3
        · exact .inl (.inr (.inr ⟨j, x, hx, e3⟩))
        · exact .inr e3
      · rw [hoth j hj] at hz
        exact .inl (.inr (.inr ⟨j, z, hz, e⟩))
/-- A record is put behind the others: the row of records then; the cell that holds it is set. -/
theorem RefPrsAt.more (h : RefPrsAt w b ty cs o vs A c G) (T : Tch (fun k => G = some k) w w2) {A' : Option Addr} {c' : Nat} {G' : Option Nat} (hl : vs.length < 512)
    (hs : Sl w2 68 3 A' (vs.length + 1) c' (pcells (vs ++ [⟨⟨false, 0, []⟩, none, 0, none⟩])) G') (hG : G' = G ∨ ∃ g, G' = some g ∧ w.heap.size ≤ g) :
    RefPrsAt (w2.setCell ⟨b, o, none⟩ (.slice A' (vs.length + 1) c')) b ty (cs.set o (.slice A' (vs.length + 1) c')) o (vs ++ [⟨⟨false, 0, []⟩, none, 0, none⟩]) A' c' G' ∧
      (∀ k, PrF b (vs ++ [⟨⟨false, 0, []⟩, none, 0, none⟩]) G' k → PrF b vs G k ∨ w.heap.size ≤ k) ∧ Tch (PrF b vs G) w (w2.setCell ⟨b, o, none⟩ (.slice A' (vs.length + 1) c')) := by
  have hS : Tch (· = b) w2 (w2.setCell ⟨b, o, none⟩ (.slice A' (vs.length + 1) c')) := (Tch.refl (· = b) w2).setCell (p := ⟨b, o, none⟩) (fun _ => rfl) _
  have hlb := h.blk.lt
  have hn : ∀ k, k < w.heap.size → G ≠ some k → G' ≠ some k := by
    intro k hk hne e
    rcases hG with e2 | ⟨g, e2, hg⟩
    · exact hne (e2 ▸ e)
    · rw [e2] at e
      injection e with e
      omega
  have hol : o < cs.length := (List.getElem?_eq_some_iff.1 h.at_).1
  have hlen : (vs ++ [(⟨⟨false, 0, []⟩, none, 0, none⟩ : Pv)]).length = vs.length + 1 := by simp
  have hget : ∀ (j : Nat) (z : Pv), (vs ++ [⟨⟨false, 0, []⟩, none, 0, none⟩])[j]? = some z → vs[j]? = some z ∨ z = ⟨⟨false, 0, []⟩, none, 0, none⟩ := by
    intro j z hz
    by_cases hj : j < vs.length
    · rw [List.getElem?_append_left hj] at hz
      exact .inl hz
    · rw [List.getElem?_append_right (by omega)] at hz
      right
      have : j - vs.length = 0 := by
        rcases Nat.eq_zero_or_pos (j - vs.length) with h | h
        · exact h
        · rw [List.getElem?_eq_none (by simp; omega)] at hz
          cases hz
      rw [this] at hz
      simp at hz
      exact hz.symm
  refine ⟨⟨(h.blk.keep T h.nb).set o _, by rw [hlen]; simp [hol], by rw [hlen]; exact hs.keep hS (fun g hg e => hn b hlb h.nb (e ▸ hg)), fun j z hz => ?_, hn b hlb h.nb, fun j z hz => ?_, fun j k z u hz hu hjk e he => ?_, by rw [hlen]; omega, fun j z hz => ?_⟩, fun k hk => ?_, (T.mono (fun k _ e => .inr (.inl e))).trans (hS.mono (fun k _ e => .inl e))⟩
  · rcases hget j z hz with hz | rfl
    · exact ((h.each j z hz).keep T (fun g hg e => (h.nx j z hz).2 g hg e)).keep hS (fun g hg e => (h.nx j z hz).1 (e ▸ hg))
    · exact Sl.nil _ _ _
  · rcases hget j z hz with hz | rfl
    · exact ⟨(h.nx j z hz).1, fun g hg e => hn g ((h.each j z hz).lt g hg) ((h.nx j z hz).2 g hg) e⟩
    · exact ⟨by simp, fun g hg => by simp at hg⟩
  · rcases hget j z hz with hz2 | rfl
    · rcases hget k u hu with hu2 | rfl
      · exact h.nn j k z u hz2 hu2 hjk e he
      · simp
    · simp at he
  · rcases hget j z hz with hz | rfl
    · exact h.qle j z hz
    · simp
  · rcases hk with hk | hk | ⟨j, z, hz, e⟩
    · exact .inl (.inl hk)
    · rcases hG with e2 | ⟨g, e2, hg⟩
      · exact .inl (.inr (.inl (e2 ▸ hk)))
      · rw [e2] at hk
        injection hk with hk
        exact .inr (by omega)
    · rcases hget j z hz with hz | rfl
      · exact .inl (.inr (.inr ⟨j, z, hz, e⟩))
      · simp at e
end
end Go.Proofs.Ytfmkjnlelijnoaa
