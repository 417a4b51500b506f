/- A loop in memory: its parts, each in blocks of its own. -/
import Derived.Test.YtipbimbnpikbcaaLoopM
import Derived.Test.YtipbimbnpikbcaaRow
import Derived.Test.YtipbimbnpikbcaaPromiseSettle
import Derived.Test.YtipbimbnpikbcaaStreamNew
import Derived.Test.YtipbimbnpikbcaaCanCancel
import Derived.Deep.CutRange
namespace Go.Proofs.Ytipbimbnpikbcaa
open Go.RowKit

def tkv (x : Tk) : Value := .agg #[.int .i64 x.kind, .int .i64 x.fn, .int .i64 x.arg, .int .i64 x.tok]
def tkl (x : Tk) : List Value := [.int .i64 x.kind, .int .i64 x.fn, .int .i64 x.arg, .int .i64 x.tok]
def tks (l : List Tk) : List Value := l.flatMap tkl
theorem tks_cons (x : Tk) (l : List Tk) : tks (x :: l) = .int .i64 x.kind :: .int .i64 x.fn :: .int .i64 x.arg :: .int .i64 x.tok :: tks l := rfl
theorem tks_snoc (l : List Tk) (x : Tk) : tks (l ++ [x]) = tks l ++ tkl x := by simp [tks]
theorem tks_get (l : List Tk) (k : Nat) (h : k < l.length) : (tks l)[k * 4]? = some (.int .i64 (l.getD k tk0).kind) ∧ (tks l)[k * 4 + 1]? = some (.int .i64 (l.getD k tk0).fn) ∧ (tks l)[k * 4 + 2]? = some (.int .i64 (l.getD k tk0).arg) ∧ (tks l)[k * 4 + 3]? = some (.int .i64 (l.getD k tk0).tok) := by
  induction l generalizing k with
  | nil => simp at h
  | cons x l ih =>
    cases k with
    | zero => exact ⟨rfl, rfl, rfl, rfl⟩
    | succ k =>
      have := ih k (by simpa using h)
      rw [tks_cons, show (k + 1) * 4 = k * 4 + 1 + 1 + 1 + 1 from by omega]
      exact this
theorem infoTk : (Try.prog.info? 31).map (fun i => (i.zero, i.size, i.bytes)) = some (some (.agg #[.int .i64 0, .int .i64 0, .int .i64 0, .int .i64 0]), 4, 32) := by kernel_rfl
theorem infoSp : (Try.prog.info? 74).map (fun i => (i.zero, i.size, i.bytes)) = some (some (.pointer none), 1, 8) := by kernel_rfl

/-- Where the parts lie. -/
structure Pl where
  A1 : Option Addr
  c1 : Nat
  G1 : Option Nat
  A2 : Option Addr
  c2 : Nat
  G2 : Option Nat
  A3 : Option Addr
  c3 : Nat
  G3 : Option Nat
  A4 : Option Addr
  c4 : Nat
  G4 : Option Nat
  t : Nat
  p : Nat
  k : Nat
  sb : List Nat
def lcells (s : Lp) (o : Pl) : List Value := [.int .i64 s.budget, .int .i64 s.told, .int .i64 s.token, .slice o.A1 s.mac.length o.c1, .slice o.A2 s.mic.length o.c2, .slice o.A3 s.wai.length o.c3, .pointer (some ⟨o.t, 0, none⟩), .pointer (some ⟨o.p, 0, none⟩), .pointer (some ⟨o.k, 0, none⟩), .slice o.A4 s.str.length o.c4]
/-- A stream, if there is one. -/
def SPart (w : World) (F : Nat → Prop) : Option Nat → Option (Nat × St) → Prop
  | some q, some x => StreamQ w q x.1 x.2 F
  | some _, none => ∀ k, ¬ F k
  | none, _ => ∀ k, ¬ F k
/-- A part: in blocks of F alone. -/
def LPart (w : World) (b : Nat) (s : Lp) (o : Pl) (F : Nat → Prop) : Nat → Prop
  | 0 => Blk w b 62 (lcells s o) ∧ ∀ k, F k ↔ k = b
  | 1 => Rw w 31 4 o.A1 s.mac.length o.c1 (tks s.mac) o.G1 ∧ ∀ k, F k ↔ o.G1 = some k
  | 2 => Rw w 31 4 o.A2 s.mic.length o.c2 (tks s.mic) o.G2 ∧ ∀ k, F k ↔ o.G2 = some k
  | 3 => Rw w 31 4 o.A3 s.wai.length o.c3 (tks s.wai) o.G3 ∧ ∀ k, F k ↔ o.G3 = some k
  | 4 => ∃ h, TimersQ w o.t h s.n F ∧ IsHeap h ∧ h.Perm s.L
  | 5 => PrsQ w o.p s.prs F
  | 6 => CanQ w o.k s.ab s.off F
  | 7 => Sl w 74 1 o.A4 s.str.length o.c4 (o.sb.map ptr) o.G4 ∧ ∀ k, F k ↔ o.G4 = some k
  | i + 8 => SPart w F o.sb[i]? s.str[i]?
section
variable {w w' : World} {b : Nat} {s s' : Lp} {o o' : Pl} {F S : Nat → Prop} {P P' : Nat → Nat → Prop}
theorem SPart.keep {q : Option Nat} {x : Option (Nat × St)} (h : SPart w F q x) (ht : Tch S w w') (hS : ∀ k, F k → ¬ S k) : SPart w' F q x := by
  match q, x, h with
  | some q, some x, h => exact StreamQ.keep h ht hS
  | some _, none, h => exact h
  | none, _, h => exact h
theorem SPart.lt {q : Option Nat} {x : Option (Nat × St)} (h : SPart w F q x) : ∀ k, F k → k < w.heap.size := by
  match q, x, h with
  | some q, some x, h => exact StreamQ.lt h
  | some _, none, h => exact fun k hk => absurd hk (h k)
  | none, _, h => exact fun k hk => absurd hk (h k)
theorem LPart.keep {i : Nat} (h : LPart w b s o F i) (ht : Tch S w w') (hS : ∀ k, F k → ¬ S k) : LPart w' b s o F i := by
  match i, h with
  | 0, h => exact ⟨h.1.keep ht (hS _ ((h.2 _).2 rfl)), h.2⟩
  | 1, h => exact ⟨h.1.keep ht (fun g e => hS _ ((h.2 _).2 e)), h.2⟩
  | 2, h => exact ⟨h.1.keep ht (fun g e => hS _ ((h.2 _).2 e)), h.2⟩
  | 3, h => exact ⟨h.1.keep ht (fun g e => hS _ ((h.2 _).2 e)), h.2⟩
  | 4, ⟨hh, h1, h2, h3⟩ => exact ⟨hh, h1.keep ht hS, h2, h3⟩
  | 5, h => exact PrsQ.keep h ht hS
  | 6, h => exact CanQ.keep h ht hS
  | 7, h => exact ⟨h.1.keep ht (fun g e => hS _ ((h.2 _).2 e)), h.2⟩
  | i + 8, h => exact SPart.keep h ht hS
theorem LPart.lt {i : Nat} (h : LPart w b s o F i) : ∀ k, F k → k < w.heap.size := by
  match i, h with
  | 0, h => intro k hk; rw [(h.2 k).1 hk]; exact h.1.lt
  | 1, h => exact fun k hk => h.1.lt k ((h.2 k).1 hk)
  | 2, h => exact fun k hk => h.1.lt k ((h.2 k).1 hk)
  | 3, h => exact fun k hk => h.1.lt k ((h.2 k).1 hk)
  | 4, ⟨hh, h1, h2, h3⟩ => exact h1.lt
  | 5, h => exact PrsQ.lt h
  | 6, h => exact CanQ.lt h
  | 7, h => exact fun k hk => h.1.lt k ((h.2 k).1 hk)
  | i + 8, h => exact SPart.lt h

structure LoopAt (w : World) (b : Nat) (s : Lp) (o : Pl) (P : Nat → Nat → Prop) : Prop where
  part : ∀ i, LPart w b s o (P i) i
  dis : ∀ i j k, P i k → P j k → i = j
  sb : o.sb.length = s.str.length
  ok : LOk s
/-- The loop at block b is s; it lies in the blocks of F alone. -/
def LoopQ (w : World) (b : Nat) (s : Lp) (F : Nat → Prop) : Prop := ∃ o P, LoopAt w b s o P ∧ ∀ k, F k ↔ ∃ i, P i k
/-- What is left: s' now. -/
def LoopLeft (w w' : World) (b : Nat) (F : Nat → Prop) (s' : Lp) : Prop := Tch F w w' ∧ ∃ F', LoopQ w' b s' F' ∧ ∀ k, F' k → F k ∨ w.heap.size ≤ k
theorem LoopQ.keep (h : LoopQ w b s F) (ht : Tch S w w') (hS : ∀ k, F k → ¬ S k) : LoopQ w' b s F := by
  obtain ⟨o, P, h, hF⟩ := h
  exact ⟨o, P, ⟨fun i => (h.part i).keep ht (fun k hk => hS k ((hF k).2 ⟨i, hk⟩)), h.dis, h.sb, h.ok⟩, hF⟩
theorem LoopQ.lt (h : LoopQ w b s F) : ∀ k, F k → k < w.heap.size := by
  obtain ⟨o, P, h, hF⟩ := h
  intro k hk
  obtain ⟨i, hi⟩ := (hF k).1 hk
  exact (h.part i).lt k hi
theorem LoopQ.own (h : LoopQ w b s F) : F b := by
  obtain ⟨o, P, h, hF⟩ := h
  exact (hF b).2 ⟨0, ((h.part 0).2 b).2 rfl⟩
theorem LoopQ.ok (h : LoopQ w b s F) : LOk s := by
  obtain ⟨_, _, h, _⟩ := h
  exact h.ok
theorem LoopLeft.same (h : LoopQ w b s F) : LoopLeft w w b F s := ⟨Tch.refl _ _, F, h, fun _ hk => .inl hk⟩
theorem LoopLeft.trans {w2 : World} (h : LoopLeft w w' b F s) (k : ∀ F', LoopQ w' b s F' → LoopLeft w' w2 b F' s') : LoopLeft w w2 b F s' := by
  obtain ⟨h1, F', h2, h3⟩ := h
  obtain ⟨k1, F2, k2, k3⟩ := k F' h2
  refine ⟨h1.then k1 (fun i hi hF => (h3 i hF).elim id (fun e => by omega)), F2, k2, fun i hi => ?_⟩
  rcases k3 i hi with e | e
  · exact h3 i e
  · exact .inr (Nat.le_trans h1.size e)
/-- Something that touches nothing of it comes first, or last. -/
theorem LoopLeft.ahead {w0 : World} (h : LoopLeft w w' b F s) (ht : Tch NoBlk w0 w) : LoopLeft w0 w' b F s := by
  obtain ⟨h1, F', h2, h3⟩ := h
  exact ⟨(ht.mono (fun _ _ e => e.elim)).trans h1, F', h2, fun k hk => (h3 k hk).imp_right (fun e => Nat.le_trans ht.size e)⟩
theorem LoopLeft.then {w2 : World} (h : LoopLeft w w' b F s) (ht : Tch NoBlk w' w2) : LoopLeft w w2 b F s := by
  obtain ⟨h1, F', h2, h3⟩ := h
  exact ⟨h1.trans (ht.mono (fun _ _ e => e.elim)), F', h2.keep ht (fun _ _ e => e), h3⟩

/-- One part j, and the loop's own cells, are others. -/
theorem LoopAt.upd (H : LoopAt w b s o P) (j : Nat) (hj0 : j ≠ 0) {F' : Nat → Prop} (T : Tch (fun k => P 0 k ∨ P j k) w w') (h0 : LPart w' b s' o' (P 0) 0) (hj : LPart w' b s' o' F' j) (hF : ∀ k, F' k → P j k ∨ w.heap.size ≤ k)
    (same : ∀ i, i ≠ 0 → i ≠ j → LPart w' b s o (P i) i → LPart w' b s' o' (P i) i) (hs : o'.sb.length = s'.str.length) (hok : LOk s') :
    LoopAt w' b s' o' (fun i => if i = j then F' else P i) := by
  refine ⟨fun i => ?_, fun i i' k h1 h2 => ?_, hs, hok⟩
  · try dsimp only
    by_cases e : i = j
    · subst e
      rw [if_pos rfl]
      exact hj
    · rw [if_neg e]
      by_cases e0 : i = 0
      · subst e0
        exact h0
      · exact same i e0 e ((H.part i).keep T (fun k hk e2 => e2.elim (fun e2 => e0 (H.dis _ _ _ hk e2)) (fun e2 => e (H.dis _ _ _ hk e2))))
  · try dsimp only at h1 h2
    by_cases e : i = j <;> by_cases e' : i' = j
    · rw [e, e']
    · rw [if_pos e] at h1
      rw [if_neg e'] at h2
      rcases hF k h1 with h1 | h1
      · rw [e]; exact H.dis _ _ _ h1 h2
      · have := (H.part i').lt k h2
        omega
    · rw [if_neg e] at h1
      rw [if_pos e'] at h2
      rcases hF k h2 with h2 | h2
      · rw [e']; exact H.dis _ _ _ h1 h2
      · have := (H.part i).lt k h1
        omega
    · rw [if_neg e] at h1
      rw [if_neg e'] at h2
      exact H.dis _ _ _ h1 h2
theorem LoopAt.left (_H : LoopAt w b s o P) (hF0 : ∀ k, F k ↔ ∃ i, P i k) (j : Nat) {F' : Nat → Prop} (T : Tch (fun k => P 0 k ∨ P j k) w w') (hF : ∀ k, F' k → P j k ∨ w.heap.size ≤ k) (H' : LoopAt w' b s' o' (fun i => if i = j then F' else P i)) : LoopLeft w w' b F s' := by
  refine ⟨T.mono (fun k _ e => (hF0 k).2 (e.elim (fun e => ⟨_, e⟩) (fun e => ⟨_, e⟩))), _, ⟨o', _, H', fun k => Iff.rfl⟩, fun k hk => ?_⟩
  obtain ⟨i, hi⟩ := hk
  try dsimp only at hi
  by_cases e : i = j
  · rw [if_pos e] at hi
    exact (hF k hi).imp_left (fun e => (hF0 k).2 ⟨_, e⟩)
  · rw [if_neg e] at hi
    exact .inl ((hF0 k).2 ⟨_, hi⟩)
/-- The loop's own cells alone. -/
theorem LoopAt.own (H : LoopAt w b s o P) (hF0 : ∀ k, F k ↔ ∃ i, P i k) (T : Tch (· = b) w w') (h0 : Blk w' b 62 (lcells s' o)) (same : ∀ i, i ≠ 0 → LPart w' b s o (P i) i → LPart w' b s' o (P i) i) (hs : o.sb.length = s'.str.length) (hok : LOk s') : LoopLeft w w' b F s' := by
  have h00 := (H.part 0).2
  refine ⟨T.mono (fun k _ e => (hF0 k).2 ⟨0, (h00 k).2 e⟩), F, ⟨o, P, ⟨fun i => ?_, H.dis, hs, hok⟩, hF0⟩, fun _ hk => .inl hk⟩
  by_cases e0 : i = 0
  · subst e0
    exact ⟨h0, h00⟩
  · exact same i e0 ((H.part i).keep T (fun k hk e2 => e0 (H.dis _ _ _ hk ((h00 k).2 e2))))
/-- A part of the number j alone: the loop's own cells stay. -/
theorem LoopAt.one (H : LoopAt w b s o P) (hF0 : ∀ k, F k ↔ ∃ i, P i k) (j : Nat) (hj0 : j ≠ 0) {F' : Nat → Prop} (T : Tch (P j) w w') (h0 : lcells s' o' = lcells s o) (hj : LPart w' b s' o' F' j) (hF : ∀ k, F' k → P j k ∨ w.heap.size ≤ k)
    (same : ∀ i, i ≠ 0 → i ≠ j → LPart w' b s o (P i) i → LPart w' b s' o' (P i) i) (hs : o'.sb.length = s'.str.length) (hok : LOk s') : LoopLeft w w' b F s' := by
  have T' : Tch (fun k => P 0 k ∨ P j k) w w' := T.mono (fun _ _ e => .inr e)
  have h1 := (H.part 0).keep T (fun k hk e => hj0 (H.dis _ _ _ hk e).symm)
  exact H.left hF0 j T' hF (H.upd j hj0 T' ⟨by rw [h0]; exact h1.1, h1.2⟩ hj hF same hs hok)
end
end Go.Proofs.Ytipbimbnpikbcaa
