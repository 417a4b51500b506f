import Derived.Test.YtipbimbnpikbcaaGreatMg15
import Derived.Test.YtipbimbnpikbcaaGreatMg20
import Derived.Test.YtipbimbnpikbcaaGreatMg21
import Derived.Test.YtipbimbnpikbcaaGreatMg23
import Derived.Test.YtipbimbnpikbcaaGreatMg25
/- The document's loop in memory: its parts. -/
namespace Go.Proofs.YtipbimbnpikbcaaGreat
open Go.RowKit

/-- Where the parts lie; the cells of those that know their own. -/
structure RPl where
  A1 : Option Addr
  c1 : Nat
  G1 : Option Nat
  A2 : Option Addr
  c2 : Nat
  G2 : Option Nat
  A3 : Option Addr
  c3 : Nat
  G3 : Option Nat
  A4 : Option Addr
  c4 : Nat
  G4 : Option Nat
  t : Value
  u : Value
  p : Value
  c : Value
  d : Value
  sb : List Nat
def rcells (s : Lp) (o : RPl) : List Value := [.int .i64 s.budget, .int .i64 s.told, .int .i64 s.token, .slice o.A1 s.mac.length o.c1, .slice o.A2 s.mic.length o.c2, .slice o.A3 s.wai.length o.c3, o.t, o.u, o.p, o.c, o.d, .slice o.A4 s.str.length o.c4]
/-- A stream of the document, if there is one. -/
def RSPart (w : World) (F : Nat → Prop) : Option Nat → Option (Nat × St) → Prop
  | some q, some x => RefStrQ w q x.1 x.2 F ∧ x.1 ≤ 32
  | some _, none => ∀ k, ¬ F k
  | none, _ => ∀ k, ¬ F k
/-- A part: in blocks of F alone, and the loop's own. -/
def RPart (w : World) (b : Nat) (s : Lp) (o : RPl) (F : Nat → Prop) : Nat → Prop
  | 0 => Blk w b 58 (rcells s o) ∧ ∀ k, F k ↔ k = b
  | 1 => Rw w 35 4 o.A1 s.mac.length o.c1 (tks s.mac) o.G1 ∧ ∀ k, F k ↔ o.G1 = some k
  | 2 => Rw w 35 4 o.A2 s.mic.length o.c2 (tks s.mic) o.G2 ∧ ∀ k, F k ↔ o.G2 = some k
  | 3 => Rw w 35 4 o.A3 s.wai.length o.c3 (tks s.wai) o.G3 ∧ ∀ k, F k ↔ o.G3 = some k
  | 4 => ∃ A c G, RefTimAt w b 58 (rcells s o) 6 s.L s.n A c G ∧ ∀ k, F k ↔ G = some k
  | 5 => ∃ vs A c G, RefPrsAt w b 58 (rcells s o) 8 vs A c G ∧ s.prs = vs.map (·.pr) ∧ ∀ k, F k ↔ (G = some k ∨ ∃ (i : Nat) (x : Pv), vs[i]? = some x ∧ x.G = some k)
  | 6 => ∃ gone A c G A' c' G', RefTreeAt w b 58 (rcells s o) 9 s.ab gone A c G A' c' G' ∧ TreeOk s.ab s.off ∧ OffOf s.ab s.off gone ∧ ∀ k, F k ↔ (G = some k ∨ G' = some k)
  | 7 => Sl w 121 1 o.A4 s.str.length o.c4 (o.sb.map ptr) o.G4 ∧ ∀ k, F k ↔ o.G4 = some k
  | i + 8 => RSPart w F o.sb[i]? s.str[i]?
/-- What a part depends on is the same. -/
def RSame (s : Lp) (o : RPl) (s' : Lp) (o' : RPl) : Nat → Prop
  | 0 => False
  | 1 => s'.mac = s.mac ∧ o'.A1 = o.A1 ∧ o'.c1 = o.c1 ∧ o'.G1 = o.G1
  | 2 => s'.mic = s.mic ∧ o'.A2 = o.A2 ∧ o'.c2 = o.c2 ∧ o'.G2 = o.G2
  | 3 => s'.wai = s.wai ∧ o'.A3 = o.A3 ∧ o'.c3 = o.c3 ∧ o'.G3 = o.G3
  | 4 => s'.L = s.L ∧ s'.n = s.n ∧ o'.t = o.t ∧ o'.u = o.u
  | 5 => s'.prs = s.prs ∧ o'.p = o.p
  | 6 => s'.ab = s.ab ∧ s'.off = s.off ∧ o'.c = o.c ∧ o'.d = o.d
  | 7 => s'.str.length = s.str.length ∧ o'.A4 = o.A4 ∧ o'.c4 = o.c4 ∧ o'.G4 = o.G4 ∧ o'.sb = o.sb
  | i + 8 => o'.sb[i]? = o.sb[i]? ∧ s'.str[i]? = s.str[i]?
section
variable {w w' : World} {b : Nat} {s s' : Lp} {o o' : RPl} {F S : Nat → Prop} {P P' : Nat → Nat → Prop}
theorem RSPart.keep {q : Option Nat} {x : Option (Nat × St)} (h : RSPart w F q x) (ht : Tch S w w') (hS : ∀ k, F k → ¬ S k) : RSPart w' F q x := by
  match q, x, h with
  | some q, some x, h => exact ⟨RefStrQ.keep h.1 ht hS, h.2⟩
  | some _, none, h => exact h
  | none, _, h => exact h
theorem RSPart.lt {q : Option Nat} {x : Option (Nat × St)} (h : RSPart w F q x) : ∀ k, F k → k < w.heap.size := by
  match q, x, h with
  | some q, some x, h => exact RefStrQ.lt h.1
  | some _, none, h => exact fun k hk => absurd hk (h k)
  | none, _, h => exact fun k hk => absurd hk (h k)
theorem RPart.lt {i : Nat} (h : RPart w b s o F i) : ∀ k, F k → k < w.heap.size := by
  match i, h with
  | 0, h => intro k hk; rw [(h.2 k).1 hk]; exact h.1.lt
  | 1, h => exact fun k hk => h.1.lt k ((h.2 k).1 hk)
  | 2, h => exact fun k hk => h.1.lt k ((h.2 k).1 hk)
  | 3, h => exact fun k hk => h.1.lt k ((h.2 k).1 hk)
  | 4, ⟨A, c, G, h1, h2⟩ => exact fun k hk => h1.sl.lt k ((h2 k).1 hk)
  | 5, ⟨vs, A, c, G, h1, h2, h3⟩ => exact fun k hk => h1.lt k (.inr ((h3 k).1 hk))
  | 6, ⟨gone, A, c, G, A', c', G', h1, h2, h3, h4⟩ => exact fun k hk => ((h4 k).1 hk).elim (h1.sl.lt k) (h1.sl2.lt k)
  | 7, h => exact fun k hk => h.1.lt k ((h.2 k).1 hk)
  | i + 8, h => exact RSPart.lt h
/-- A part that nothing touched, beside cells of the loop that are others. -/
theorem RPart.keepB {i : Nat} (h : RPart w b s o F i) (ht : Tch S w w') (hS : ∀ k, F k → ¬ S k) (hb : Blk w' b 58 (rcells s' o')) (e : RSame s o s' o' i) : RPart w' b s' o' F i := by
  match i, h, e with
  | 1, h, e =>
    obtain ⟨e1, e2, e3, e4⟩ := e
    unfold RPart
    rw [e1, e2, e3, e4]
    exact ⟨h.1.keep ht (fun g e => hS _ ((h.2 _).2 e)), h.2⟩
  | 2, h, e =>
    obtain ⟨e1, e2, e3, e4⟩ := e
    unfold RPart
    rw [e1, e2, e3, e4]
    exact ⟨h.1.keep ht (fun g e => hS _ ((h.2 _).2 e)), h.2⟩
  | 3, h, e =>
    obtain ⟨e1, e2, e3, e4⟩ := e
    unfold RPart
    rw [e1, e2, e3, e4]
    exact ⟨h.1.keep ht (fun g e => hS _ ((h.2 _).2 e)), h.2⟩
  | 4, ⟨A, c, G, h1, h2⟩, ⟨e1, e2, e3, e4⟩ =>
    refine ⟨A, c, G, ⟨hb, ?_, ?_, ?_, h1.nb, ?_⟩, h2⟩
    · have := h1.at_
      show some o'.t = _
      rw [e3, e1]
      exact this
    · have := h1.num
      show some o'.u = _
      rw [e4, e2]
      exact this
    · rw [e1]
      exact h1.sl.keep ht (fun g e => hS _ ((h2 _).2 e))
    · rw [e1]
      exact h1.le
  | 5, ⟨vs, A, c, G, h1, h2, h3⟩, ⟨e1, e2⟩ =>
    refine ⟨vs, A, c, G, ⟨hb, ?_, h1.sl.keep ht (fun g e => hS _ ((h3 _).2 (.inl e))), fun i x hx => (h1.each i x hx).keep ht (fun g e => hS _ ((h3 _).2 (.inr ⟨i, x, hx, e⟩))), h1.nb, h1.nx, h1.nn, h1.le, h1.qle⟩, by rw [e1]; exact h2, h3⟩
    have := h1.at_
    show some o'.p = _
    rw [e2]
    exact this
  | 6, ⟨gone, A, c, G, A', c', G', h1, h2, h3, h4⟩, ⟨e1, e2, e3, e4⟩ =>
    refine ⟨gone, A, c, G, A', c', G', ⟨hb, ?_, ?_, ?_, h1.sl2.keep ht (fun g e => hS _ ((h4 _).2 (.inr e))), h1.nb, h1.nb2, h1.ne, by rw [e1]; exact h1.len⟩, by rw [e1, e2]; exact h2, by rw [e1, e2]; exact h3, h4⟩
    · have := h1.at0
      show some o'.c = _
      rw [e3, e1]
      exact this
    · have := h1.at1
      show some o'.d = _
      rw [e4]
      exact this
    · rw [e1]
      exact h1.sl.keep ht (fun g e => hS _ ((h4 _).2 (.inl e)))
  | 7, h, e =>
    obtain ⟨e1, e2, e3, e4, e5⟩ := e
    unfold RPart
    rw [e1, e2, e3, e4, e5]
    exact ⟨h.1.keep ht (fun g e => hS _ ((h.2 _).2 e)), h.2⟩
  | i + 8, h, e =>
    obtain ⟨e1, e2⟩ := e
    show RSPart w' F o'.sb[i]? s'.str[i]?
    rw [e1, e2]
    exact RSPart.keep h ht hS
theorem RSame.refl {i : Nat} (h : i ≠ 0) : RSame s o s o i := by
  match i, h with
  | 1, _ => exact ⟨rfl, rfl, rfl, rfl⟩
  | 2, _ => exact ⟨rfl, rfl, rfl, rfl⟩
  | 3, _ => exact ⟨rfl, rfl, rfl, rfl⟩
  | 4, _ => exact ⟨rfl, rfl, rfl, rfl⟩
  | 5, _ => exact ⟨rfl, rfl⟩
  | 6, _ => exact ⟨rfl, rfl, rfl, rfl⟩
  | 7, _ => exact ⟨rfl, rfl, rfl, rfl, rfl⟩
  | i + 8, _ => exact ⟨rfl, rfl⟩

structure RLoopAt (w : World) (b : Nat) (s : Lp) (o : RPl) (P : Nat → Nat → Prop) : Prop where
  part : ∀ i, RPart w b s o (P i) i
  dis : ∀ i j k, P i k → P j k → i = j
  sb : o.sb.length = s.str.length
  ok : LOk s
/-- The document's loop at block b is s; it lies in the blocks of F alone. -/
def RLoopQ (w : World) (b : Nat) (s : Lp) (F : Nat → Prop) : Prop := ∃ o P, RLoopAt w b s o P ∧ ∀ k, F k ↔ ∃ i, P i k
def RLeft (w w' : World) (b : Nat) (F : Nat → Prop) (s' : Lp) : Prop := Tch F w w' ∧ ∃ F', RLoopQ w' b s' F' ∧ ∀ k, F' k → F k ∨ w.heap.size ≤ k
theorem RLoopAt.keep (h : RLoopAt w b s o P) (ht : Tch S w w') (hS : ∀ i k, P i k → ¬ S k) : RLoopAt w' b s o P := by
  have hb : Blk w' b 58 (rcells s o) := (h.part 0).1.keep ht (hS 0 _ (((h.part 0).2 _).2 rfl))
  refine ⟨fun i => ?_, h.dis, h.sb, h.ok⟩
  by_cases e : i = 0
  · subst e
    exact ⟨hb, (h.part 0).2⟩
  · exact (h.part i).keepB ht (hS i) hb (RSame.refl e)
theorem RLoopQ.keep (h : RLoopQ w b s F) (ht : Tch S w w') (hS : ∀ k, F k → ¬ S k) : RLoopQ w' b s F := by
  obtain ⟨o, P, h, hF⟩ := h
  exact ⟨o, P, h.keep ht (fun i k hk => hS k ((hF k).2 ⟨i, hk⟩)), hF⟩
theorem RLoopQ.lt (h : RLoopQ w b s F) : ∀ k, F k → k < w.heap.size := by
  obtain ⟨o, P, h, hF⟩ := h
  intro k hk
  obtain ⟨i, hi⟩ := (hF k).1 hk
  exact (h.part i).lt k hi
theorem RLoopQ.own (h : RLoopQ w b s F) : F b := by
  obtain ⟨o, P, h, hF⟩ := h
  exact (hF b).2 ⟨0, ((h.part 0).2 b).2 rfl⟩
theorem RLoopQ.ok (h : RLoopQ w b s F) : LOk s := by
  obtain ⟨_, _, h, _⟩ := h
  exact h.ok
theorem RLeft.same (h : RLoopQ w b s F) : RLeft w w b F s := ⟨Tch.refl _ _, F, h, fun _ hk => .inl hk⟩
theorem RLeft.comp {w2 w4 : World} {F2 : Nat → Prop} (h1 : Tch F w w2) (h2 : ∀ k, F2 k → F k ∨ w.heap.size ≤ k) (k : RLeft w2 w4 b F2 s) : RLeft w w4 b F s := by
  obtain ⟨k1, F4, k2, k3⟩ := k
  refine ⟨h1.then k1 (fun i hi hF => (h2 i hF).elim id (fun e => by omega)), F4, k2, fun i hi => ?_⟩
  rcases k3 i hi with e | e
  · exact h2 i e
  · exact .inr (Nat.le_trans h1.size e)
theorem RLeft.ahead {w0 : World} (h : RLeft w w' b F s) (ht : Tch NoBlk w0 w) : RLeft w0 w' b F s := by
  obtain ⟨h1, F', h2, h3⟩ := h
  exact ⟨(ht.mono (fun _ _ e => e.elim)).trans h1, F', h2, fun k hk => (h3 k hk).imp_right (fun e => Nat.le_trans ht.size e)⟩
theorem RLeft.then {w2 : World} (h : RLeft w w' b F s) (ht : Tch NoBlk w' w2) : RLeft w w2 b F s := by
  obtain ⟨h1, F', h2, h3⟩ := h
  exact ⟨h1.trans (ht.mono (fun _ _ e => e.elim)), F', h2.keep ht (fun _ _ e => e), h3⟩
/-- One part j, and the loop's own cells, are others. -/
theorem RLoopAt.upd (H : RLoopAt w b s o P) (hF0 : ∀ k, F k ↔ ∃ i, P i k) (j : Nat) (hj0 : j ≠ 0) {F' : Nat → Prop} (T : Tch (fun k => P 0 k ∨ P j k) w w') (h0 : Blk w' b 58 (rcells s' o')) (hj : RPart w' b s' o' F' j) (hF : ∀ k, F' k → P j k ∨ w.heap.size ≤ k)
    (same : ∀ i, i ≠ 0 → i ≠ j → RSame s o s' o' i) (hs : o'.sb.length = s'.str.length) (hok : LOk s') : RLeft w w' b F s' := by
  refine ⟨T.mono (fun k _ e => (hF0 k).2 (e.elim (fun e => ⟨_, e⟩) (fun e => ⟨_, e⟩))), fun k => ∃ i, (if i = j then F' k else P i k), ⟨o', fun i k => if i = j then F' k else P i k, ⟨fun i => ?_, fun i i' k h1 h2 => ?_, hs, hok⟩, fun k => Iff.rfl⟩, fun k hk => ?_⟩
  · by_cases e : i = j
    · subst e
      simp only [if_true]
      exact hj
    · simp only [if_neg e]
      by_cases e0 : i = 0
      · subst e0
        exact ⟨h0, (H.part 0).2⟩
      · exact (H.part i).keepB T (fun k hk e2 => e2.elim (fun e2 => e0 (H.dis _ _ _ hk e2)) (fun e2 => e (H.dis _ _ _ hk e2))) h0 (same i e0 e)
  · try dsimp only at h1 h2
    by_cases e : i = j <;> by_cases e' : i' = j
    · rw [e, e']
    · rw [if_pos e] at h1
      rw [if_neg e'] at h2
      rcases hF k h1 with h1 | h1
      · rw [e]; exact H.dis _ _ _ h1 h2
      · have := (H.part i').lt k h2
        omega
    · rw [if_neg e] at h1
      rw [if_pos e'] at h2
      rcases hF k h2 with h2 | h2
      · rw [e']; exact H.dis _ _ _ h1 h2
      · have := (H.part i).lt k h1
        omega
    · rw [if_neg e] at h1
      rw [if_neg e'] at h2
      exact H.dis _ _ _ h1 h2
  · obtain ⟨i, hi⟩ := hk
    try dsimp only at hi
    by_cases e : i = j
    · rw [if_pos e] at hi
      exact (hF k hi).imp_left (fun e => (hF0 k).2 ⟨_, e⟩)
    · rw [if_neg e] at hi
      exact .inl ((hF0 k).2 ⟨_, hi⟩)
theorem RLoopAt.nb (H : RLoopAt w b s o P) {i : Nat} (hi : i ≠ 0) : ¬ P i b := fun e => hi (H.dis _ _ _ e (((H.part 0).2 b).2 rfl))
/-- The timers, the promises, the tree, by themselves. -/
theorem RLoopAt.tim (H : RLoopAt w b s o P) : RefTimQ w b 58 (rcells s o) 6 s.L s.n (fun k => P 0 k ∨ P 4 k) := by
  obtain ⟨A, c, G, h1, h2⟩ := H.part 4
  exact ⟨A, c, G, h1, fun k => or_congr ((H.part 0).2 k) (h2 k)⟩
theorem RLoopAt.prs (H : RLoopAt w b s o P) : RefPrsQ w b 58 (rcells s o) 8 s.prs (fun k => P 0 k ∨ P 5 k) := by
  obtain ⟨vs, A, c, G, h1, h2, h3⟩ := H.part 5
  exact ⟨vs, A, c, G, h1, h2, fun k => or_congr ((H.part 0).2 k) (h3 k)⟩
theorem RLoopAt.tree (H : RLoopAt w b s o P) : RefTreeQ w b 58 (rcells s o) 9 s.ab s.off (fun k => P 0 k ∨ P 6 k) := by
  obtain ⟨gone, A, c, G, A', c', G', h1, h2, h3, h4⟩ := H.part 6
  exact ⟨gone, A, c, G, A', c', G', h1, h2, h3, fun k => or_congr ((H.part 0).2 k) (h4 k)⟩
theorem RLoopAt.timLeft (H : RLoopAt w b s o P) (hF0 : ∀ k, F k ↔ ∃ i, P i k) {L' : List Tm} {n' : Int} (h : RefTimLeft w w' b 58 (rcells s o) 6 (fun k => P 0 k ∨ P 4 k) L' n') (hok : LOk { s with L := L', n := n' }) : RLeft w w' b F { s with L := L', n := n' } := by
  obtain ⟨T, v, u, F', ⟨A, c, G, h1, h2⟩, hF'⟩ := h
  refine H.upd hF0 4 (by decide) (F' := fun k => G = some k) (s' := { s with L := L', n := n' }) (o' := { o with t := v, u := u }) T h1.blk ⟨A, c, G, h1, fun _ => Iff.rfl⟩ (fun k hk => ?_) (fun i h0 h4 => ?_) H.sb hok
  · rcases hF' k ((h2 k).2 (.inr hk)) with (e | e) | e
    · rw [((H.part 0).2 k).1 e] at hk
      exact absurd hk h1.nb
    · exact .inl e
    · exact .inr e
  · match i, h0, h4 with
    | 1, _, _ => exact ⟨rfl, rfl, rfl, rfl⟩
    | 2, _, _ => exact ⟨rfl, rfl, rfl, rfl⟩
    | 3, _, _ => exact ⟨rfl, rfl, rfl, rfl⟩
    | 5, _, _ => exact ⟨rfl, rfl⟩
    | 6, _, _ => exact ⟨rfl, rfl, rfl, rfl⟩
    | 7, _, _ => exact ⟨rfl, rfl, rfl, rfl, rfl⟩
    | i + 8, _, _ => exact ⟨rfl, rfl⟩
theorem RLoopAt.prsLeft (H : RLoopAt w b s o P) (hF0 : ∀ k, F k ↔ ∃ i, P i k) {l' : List Pr} {v : Value} {F' : Nat → Prop} (T : Tch (fun k => P 0 k ∨ P 5 k) w w') (h : RefPrsQ w' b 58 ((rcells s o).set 8 v) 8 l' F') (hF' : ∀ k, F' k → (P 0 k ∨ P 5 k) ∨ w.heap.size ≤ k) (hok : LOk { s with prs := l' }) : Tch F w w' ∧ ∃ F2, RLoopQ w' b { s with prs := l' } F2 ∧ ∀ k, F2 k → (F k ∨ w.heap.size ≤ k) ∧ (P 5 k → F' k) := by
  obtain ⟨vs, A, c, G, h1, h2, h3⟩ := h
  have hp : RPart w' b { s with prs := l' } { o with p := v } (fun k => G = some k ∨ ∃ (i : Nat) (x : Pv), vs[i]? = some x ∧ x.G = some k) 5 := ⟨vs, A, c, G, h1, h2, fun _ => Iff.rfl⟩
  have hh : ∀ k, (G = some k ∨ ∃ (i : Nat) (x : Pv), vs[i]? = some x ∧ x.G = some k) → P 5 k ∨ w.heap.size ≤ k := fun k hk => by
    rcases hF' k ((h3 k).2 (.inr hk)) with (e | e) | e
    · rw [((H.part 0).2 k).1 e] at hk
      rcases hk with hk | ⟨i, x, hx, hk⟩
      · exact absurd hk h1.nb
      · exact absurd hk (h1.nx i x hx).1
    · exact .inl e
    · exact .inr e
  have h5 : ∀ (i : Nat), i ≠ 0 → i ≠ 5 → RSame s o { s with prs := l' } { o with p := v } i := fun i h0 h4 => by
    match i, h0, h4 with
    | 1, _, _ => exact ⟨rfl, rfl, rfl, rfl⟩
    | 2, _, _ => exact ⟨rfl, rfl, rfl, rfl⟩
    | 3, _, _ => exact ⟨rfl, rfl, rfl, rfl⟩
    | 4, _, _ => exact ⟨rfl, rfl, rfl, rfl⟩
    | 6, _, _ => exact ⟨rfl, rfl, rfl, rfl⟩
    | 7, _, _ => exact ⟨rfl, rfl, rfl, rfl, rfl⟩
    | i + 8, _, _ => exact ⟨rfl, rfl⟩
  refine ⟨T.mono (fun k _ e => (hF0 k).2 (e.elim (fun e => ⟨_, e⟩) (fun e => ⟨_, e⟩))), fun k => ∃ i, (if i = 5 then (G = some k ∨ ∃ (i : Nat) (x : Pv), vs[i]? = some x ∧ x.G = some k) else P i k), ⟨{ o with p := v }, fun i k => if i = 5 then (G = some k ∨ ∃ (i : Nat) (x : Pv), vs[i]? = some x ∧ x.G = some k) else P i k, ⟨fun i => ?_, fun i i' k h1 h2 => ?_, H.sb, hok⟩, fun k => Iff.rfl⟩, fun k hk => ⟨?_, fun h5k => ?_⟩⟩
  · by_cases e : i = 5
    · subst e
      simp only [if_true]
      exact hp
    · simp only [if_neg e]
      by_cases e0 : i = 0
      · subst e0
        exact ⟨h1.blk, (H.part 0).2⟩
      · exact (H.part i).keepB T (fun k hk e2 => e2.elim (fun e2 => e0 (H.dis _ _ _ hk e2)) (fun e2 => e (H.dis _ _ _ hk e2))) h1.blk (h5 i e0 e)
  · try dsimp only at h1 h2
    by_cases e : i = 5 <;> by_cases e' : i' = 5
    · rw [e, e']
    · rw [if_pos e] at h1
      rw [if_neg e'] at h2
      rcases hh k h1 with h1 | h1
      · rw [e]; exact H.dis _ _ _ h1 h2
      · have := (H.part i').lt k h2
        omega
    · rw [if_neg e] at h1
      rw [if_pos e'] at h2
      rcases hh k h2 with h2 | h2
      · rw [e']; exact H.dis _ _ _ h1 h2
      · have := (H.part i).lt k h1
        omega
    · rw [if_neg e] at h1
      rw [if_neg e'] at h2
      exact H.dis _ _ _ h1 h2
  · obtain ⟨i, hi⟩ := hk
    try dsimp only at hi
    by_cases e : i = 5
    · rw [if_pos e] at hi
      exact (hh k hi).imp_left (fun e => (hF0 k).2 ⟨_, e⟩)
    · rw [if_neg e] at hi
      exact .inl ((hF0 k).2 ⟨_, hi⟩)
  · obtain ⟨i, hi⟩ := hk
    try dsimp only at hi
    by_cases e : i = 5
    · rw [if_pos e] at hi
      exact (h3 k).2 (.inr hi)
    · rw [if_neg e] at hi
      exact absurd (H.dis _ _ _ hi h5k) e
theorem RLoopAt.treeLeft (H : RLoopAt w b s o P) (hF0 : ∀ k, F k ↔ ∃ i, P i k) {ab' : List Int} {off' : List Bool} (h : RefTreeLeft w w' b 58 (rcells s o) 9 (fun k => P 0 k ∨ P 6 k) ab' off') (hok : LOk { s with ab := ab', off := off' }) : RLeft w w' b F { s with ab := ab', off := off' } := by
  obtain ⟨T, v, u, F', ⟨gone, A, c, G, A', c', G', h1, h2, h3, h4⟩, hF'⟩ := h
  refine H.upd hF0 6 (by decide) (F' := fun k => G = some k ∨ G' = some k) (s' := { s with ab := ab', off := off' }) (o' := { o with c := v, d := u }) T h1.blk ⟨gone, A, c, G, A', c', G', h1, h2, h3, fun _ => Iff.rfl⟩ (fun k hk => ?_) (fun i h0 h4 => ?_) H.sb hok
  · rcases hF' k ((h4 k).2 (.inr hk)) with (e | e) | e
    · rw [((H.part 0).2 k).1 e] at hk
      exact absurd hk (fun hk => hk.elim h1.nb h1.nb2)
    · exact .inl e
    · exact .inr e
  · match i, h0, h4 with
    | 1, _, _ => exact ⟨rfl, rfl, rfl, rfl⟩
    | 2, _, _ => exact ⟨rfl, rfl, rfl, rfl⟩
    | 3, _, _ => exact ⟨rfl, rfl, rfl, rfl⟩
    | 4, _, _ => exact ⟨rfl, rfl, rfl, rfl⟩
    | 5, _, _ => exact ⟨rfl, rfl⟩
    | 7, _, _ => exact ⟨rfl, rfl, rfl, rfl, rfl⟩
    | i + 8, _, _ => exact ⟨rfl, rfl⟩
end
end Go.Proofs.YtipbimbnpikbcaaGreat
