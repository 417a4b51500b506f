import Derived.Test.YtipbimbnpikbcaaGreatMg09
import Derived.Test.YtipbimbnpikbcaaGreatMg10
import Derived.Test.YtipbimbnpikbcaaGreatMg11
import Derived.Test.YtipbimbnpikbcaaGreatMg14
import Derived.Deep.CutRange
import Derived.Laws.ResultCell
import Derived.Laws.Rows
/- A loop in memory: its parts, each in blocks of its own. -/
namespace Go.Proofs.YtipbimbnpikbcaaGreat
open Go.RowKit

def tkv (x : Tk) : Value := .agg #[.int .i64 x.kind, .int .i64 x.fn, .int .i64 x.arg, .int .i64 x.tok]
def tkl (x : Tk) : List Value := [.int .i64 x.kind, .int .i64 x.fn, .int .i64 x.arg, .int .i64 x.tok]
def tks (l : List Tk) : List Value := l.flatMap tkl
theorem tks_cons (x : Tk) (l : List Tk) : tks (x :: l) = .int .i64 x.kind :: .int .i64 x.fn :: .int .i64 x.arg :: .int .i64 x.tok :: tks l := rfl
theorem tks_snoc (l : List Tk) (x : Tk) : tks (l ++ [x]) = tks l ++ tkl x := by simp [tks]
theorem tks_get (l : List Tk) (k : Nat) (h : k < l.length) : (tks l)[k * 4]? = some (.int .i64 (l.getD k tk0).kind) ∧ (tks l)[k * 4 + 1]? = some (.int .i64 (l.getD k tk0).fn) ∧ (tks l)[k * 4 + 2]? = some (.int .i64 (l.getD k tk0).arg) ∧ (tks l)[k * 4 + 3]? = some (.int .i64 (l.getD k tk0).tok) := by
  induction l generalizing k with
  | nil => simp at h
  | cons x l ih =>
    cases k with
    | zero => exact ⟨rfl, rfl, rfl, rfl⟩
    | succ k =>
      have := ih k (by simpa using h)
      rw [tks_cons, show (k + 1) * 4 = k * 4 + 1 + 1 + 1 + 1 from by omega]
      exact this
theorem infoTk : (Tryz.prog.info? 35).map (fun i => (i.zero, i.size, i.bytes)) = some (some (.agg #[.int .i64 0, .int .i64 0, .int .i64 0, .int .i64 0]), 4, 32) := by kernel_rfl
theorem infoSp : (Tryz.prog.info? 107).map (fun i => (i.zero, i.size, i.bytes)) = some (some (.pointer none), 1, 8) := by kernel_rfl

/-- Where the parts lie. -/
structure Pl where
  A1 : Option Addr
  c1 : Nat
  G1 : Option Nat
  A2 : Option Addr
  c2 : Nat
  G2 : Option Nat
  A3 : Option Addr
  c3 : Nat
  G3 : Option Nat
  A4 : Option Addr
  c4 : Nat
  G4 : Option Nat
  t : Nat
  p : Nat
  k : Nat
  sb : List Nat
def lcells (s : Lp) (o : Pl) : List Value := [.int .i64 s.budget, .int .i64 s.told, .int .i64 s.token, .slice o.A1 s.mac.length o.c1, .slice o.A2 s.mic.length o.c2, .slice o.A3 s.wai.length o.c3, .pointer (some ⟨o.t, 0, none⟩), .pointer (some ⟨o.p, 0, none⟩), .pointer (some ⟨o.k, 0, none⟩), .slice o.A4 s.str.length o.c4]
/-- A stream, if there is one. -/
def SPart (w : World) (F : Nat → Prop) : Option Nat → Option (Nat × St) → Prop
  | some q, some x => StreamQ w q x.1 x.2 F
  | some _, none => ∀ k, ¬ F k
  | none, _ => ∀ k, ¬ F k
/-- A part: in blocks of F alone. -/
def LPart (w : World) (b : Nat) (s : Lp) (o : Pl) (F : Nat → Prop) : Nat → Prop
  | 0 => Blk w b 71 (lcells s o) ∧ ∀ k, F k ↔ k = b
  | 1 => Rw w 35 4 o.A1 s.mac.length o.c1 (tks s.mac) o.G1 ∧ ∀ k, F k ↔ o.G1 = some k
  | 2 => Rw w 35 4 o.A2 s.mic.length o.c2 (tks s.mic) o.G2 ∧ ∀ k, F k ↔ o.G2 = some k
  | 3 => Rw w 35 4 o.A3 s.wai.length o.c3 (tks s.wai) o.G3 ∧ ∀ k, F k ↔ o.G3 = some k
  | 4 => ∃ h, TimersQ w o.t h s.n F ∧ IsHeap h ∧ h.Perm s.L
  | 5 => PrsQ w o.p s.prs F
  | 6 => CanQ w o.k s.ab s.off F
  | 7 => Sl w 107 1 o.A4 s.str.length o.c4 (o.sb.map ptr) o.G4 ∧ ∀ k, F k ↔ o.G4 = some k
  | i + 8 => SPart w F o.sb[i]? s.str[i]?
section
variable {w w' : World} {b : Nat} {s s' : Lp} {o o' : Pl} {F S : Nat → Prop} {P P' : Nat → Nat → Prop}
theorem SPart.keep {q : Option Nat} {x : Option (Nat × St)} (h : SPart w F q x) (ht : Tch S w w') (hS : ∀ k, F k → ¬ S k) : SPart w' F q x := by
  match q, x, h with
  | some q, some x, h => exact StreamQ.keep h ht hS
  | some _, none, h => exact h
  | none, _, h => exact h
theorem SPart.lt {q : Option Nat} {x : Option (Nat × St)} (h : SPart w F q x) : ∀ k, F k → k < w.heap.size := by
  match q, x, h with
  | some q, some x, h => exact StreamQ.lt h
  | some _, none, h => exact fun k hk => absurd hk (h k)
  | none, _, h => exact fun k hk => absurd hk (h k)
theorem LPart.keep {i : Nat} (h : LPart w b s o F i) (ht : Tch S w w') (hS : ∀ k, F k → ¬ S k) : LPart w' b s o F i := by
  match i, h with
  | 0, h => exact ⟨h.1.keep ht (hS _ ((h.2 _).2 rfl)), h.2⟩
  | 1, h => exact ⟨h.1.keep ht (fun g e => hS _ ((h.2 _).2 e)), h.2⟩
  | 2, h => exact ⟨h.1.keep ht (fun g e => hS _ ((h.2 _).2 e)), h.2⟩
  | 3, h => exact ⟨h.1.keep ht (fun g e => hS _ ((h.2 _).2 e)), h.2⟩
  | 4, ⟨hh, h1, h2, h3⟩ => exact ⟨hh, h1.keep ht hS, h2, h3⟩
  | 5, h => exact PrsQ.keep h ht hS
  | 6, h => exact CanQ.keep h ht hS
  | 7, h => exact ⟨h.1.keep ht (fun g e => hS _ ((h.2 _).2 e)), h.2⟩
  | i + 8, h => exact SPart.keep h ht hS
theorem LPart.lt {i : Nat} (h : LPart w b s o F i) : ∀ k, F k → k < w.heap.size := by
  match i, h with
  | 0, h => intro k hk; rw [(h.2 k).1 hk]; exact h.1.lt
  | 1, h => exact fun k hk => h.1.lt k ((h.2 k).1 hk)
  | 2, h => exact fun k hk => h.1.lt k ((h.2 k).1 hk)
  | 3, h => exact fun k hk => h.1.lt k ((h.2 k).1 hk)
  | 4, ⟨hh, h1, h2, h3⟩ => exact h1.lt
  | 5, h => exact PrsQ.lt h
  | 6, h => exact CanQ.lt h
  | 7, h => exact fun k hk => h.1.lt k ((h.2 k).1 hk)
  | i + 8, h => exact SPart.lt h

structure LoopAt (w : World) (b : Nat) (s : Lp) (o : Pl) (P : Nat → Nat → Prop) : Prop where
  part : ∀ i, LPart w b s o (P i) i
  dis : ∀ i j k, P i k → P j k → i = j
  sb : o.sb.length = s.str.length
  ok : LOk s
/-- The loop at block b is s; it lies in the blocks of F alone. -/
def LoopQ (w : World) (b : Nat) (s : Lp) (F : Nat → Prop) : Prop := ∃ o P, LoopAt w b s o P ∧ ∀ k, F k ↔ ∃ i, P i k
/-- What is left: s' now. -/
def LoopLeft (w w' : World) (b : Nat) (F : Nat → Prop) (s' : Lp) : Prop := Tch F w w' ∧ ∃ F', LoopQ w' b s' F' ∧ ∀ k, F' k → F k ∨ w.heap.size ≤ k
theorem LoopQ.keep (h : LoopQ w b s F) (ht : Tch S w w') (hS : ∀ k, F k → ¬ S k) : LoopQ w' b s F := by
  obtain ⟨o, P, h, hF⟩ := h
  exact ⟨o, P, ⟨fun i => (h.part i).keep ht (fun k hk => hS k ((hF k).2 ⟨i, hk⟩)), h.dis, h.sb, h.ok⟩, hF⟩
theorem LoopQ.lt (h : LoopQ w b s F) : ∀ k, F k → k < w.heap.size := by
  obtain ⟨o, P, h, hF⟩ := h
  intro k hk
  obtain ⟨i, hi⟩ := (hF k).1 hk
  exact (h.part i).lt k hi
theorem LoopQ.own (h : LoopQ w b s F) : F b := by
  obtain ⟨o, P, h, hF⟩ := h
  exact (hF b).2 ⟨0, ((h.part 0).2 b).2 rfl⟩
theorem LoopQ.ok (h : LoopQ w b s F) : LOk s := by
  obtain ⟨_, _, h, _⟩ := h
  exact h.ok
theorem LoopLeft.same (h : LoopQ w b s F) : LoopLeft w w b F s := ⟨Tch.refl _ _, F, h, fun _ hk => .inl hk⟩
theorem LoopLeft.trans {w2 : World} (h : LoopLeft w w' b F s) (k : ∀ F', LoopQ w' b s F' → LoopLeft w' w2 b F' s') : LoopLeft w w2 b F s' := by
  obtain ⟨h1, F', h2, h3⟩ := h
  obtain ⟨k1, F2, k2, k3⟩ := k F' h2
  refine ⟨h1.then k1 (fun i hi hF => (h3 i hF).elim id (fun e => by omega)), F2, k2, fun i hi => ?_⟩
  rcases k3 i hi with e | e
  · exact h3 i e
  · exact .inr (Nat.le_trans h1.size e)
/-- Something that touches nothing of it comes first, or last. -/
theorem LoopLeft.ahead {w0 : World} (h : LoopLeft w w' b F s) (ht : Tch NoBlk w0 w) : LoopLeft w0 w' b F s := by
  obtain ⟨h1, F', h2, h3⟩ := h
  exact ⟨(ht.mono (fun _ _ e => e.elim)).trans h1, F', h2, fun k hk => (h3 k hk).imp_right (fun e => Nat.le_trans ht.size e)⟩
theorem LoopLeft.then {w2 : World} (h : LoopLeft w w' b F s) (ht : Tch NoBlk w' w2) : LoopLeft w w2 b F s := by
  obtain ⟨h1, F', h2, h3⟩ := h
  exact ⟨h1.trans (ht.mono (fun _ _ e => e.elim)), F', h2.keep ht (fun _ _ e => e), h3⟩

/-- One part j, and the loop's own cells, are others. -/
theorem LoopAt.upd (H : LoopAt w b s o P) (j : Nat) (hj0 : j ≠ 0) {F' : Nat → Prop} (T : Tch (fun k => P 0 k ∨ P j k) w w') (h0 : LPart w' b s' o' (P 0) 0) (hj : LPart w' b s' o' F' j) (hF : ∀ k, F' k → P j k ∨ w.heap.size ≤ k)
    (same : ∀ i, i ≠ 0 → i ≠ j → LPart w' b s o (P i) i → LPart w' b s' o' (P i) i) (hs : o'.sb.length = s'.str.length) (hok : LOk s') :
    LoopAt w' b s' o' (fun i => if i = j then F' else P i) := by
  refine ⟨fun i => ?_, fun i i' k h1 h2 => ?_, hs, hok⟩
  · try dsimp only
    by_cases e : i = j
    · subst e
      rw [if_pos rfl]
      exact hj
    · rw [if_neg e]
      by_cases e0 : i = 0
      · subst e0
        exact h0
      · exact same i e0 e ((H.part i).keep T (fun k hk e2 => e2.elim (fun e2 => e0 (H.dis _ _ _ hk e2)) (fun e2 => e (H.dis _ _ _ hk e2))))
  · try dsimp only at h1 h2
    by_cases e : i = j <;> by_cases e' : i' = j
    · rw [e, e']
    · rw [if_pos e] at h1
      rw [if_neg e'] at h2
      rcases hF k h1 with h1 | h1
      · rw [e]; exact H.dis _ _ _ h1 h2
      · have := (H.part i').lt k h2
        omega
    · rw [if_neg e] at h1
      rw [if_pos e'] at h2
      rcases hF k h2 with h2 | h2
      · rw [e']; exact H.dis _ _ _ h1 h2
      · have := (H.part i).lt k h1
        omega
    · rw [if_neg e] at h1
      rw [if_neg e'] at h2
      exact H.dis _ _ _ h1 h2
theorem LoopAt.left (_H : LoopAt w b s o P) (hF0 : ∀ k, F k ↔ ∃ i, P i k) (j : Nat) {F' : Nat → Prop} (T : Tch (fun k => P 0 k ∨ P j k) w w') (hF : ∀ k, F' k → P j k ∨ w.heap.size ≤ k) (H' : LoopAt w' b s' o' (fun i => if i = j then F' else P i)) : LoopLeft w w' b F s' := by
  refine ⟨T.mono (fun k _ e => (hF0 k).2 (e.elim (fun e => ⟨_, e⟩) (fun e => ⟨_, e⟩))), _, ⟨o', _, H', fun k => Iff.rfl⟩, fun k hk => ?_⟩
  obtain ⟨i, hi⟩ := hk
  try dsimp only at hi
  by_cases e : i = j
  · rw [if_pos e] at hi
    exact (hF k hi).imp_left (fun e => (hF0 k).2 ⟨_, e⟩)
  · rw [if_neg e] at hi
    exact .inl ((hF0 k).2 ⟨_, hi⟩)
/-- The loop's own cells alone. -/
theorem LoopAt.own (H : LoopAt w b s o P) (hF0 : ∀ k, F k ↔ ∃ i, P i k) (T : Tch (· = b) w w') (h0 : Blk w' b 71 (lcells s' o)) (same : ∀ i, i ≠ 0 → LPart w' b s o (P i) i → LPart w' b s' o (P i) i) (hs : o.sb.length = s'.str.length) (hok : LOk s') : LoopLeft w w' b F s' := by
  have h00 := (H.part 0).2
  refine ⟨T.mono (fun k _ e => (hF0 k).2 ⟨0, (h00 k).2 e⟩), F, ⟨o, P, ⟨fun i => ?_, H.dis, hs, hok⟩, hF0⟩, fun _ hk => .inl hk⟩
  by_cases e0 : i = 0
  · subst e0
    exact ⟨h0, h00⟩
  · exact same i e0 ((H.part i).keep T (fun k hk e2 => e0 (H.dis _ _ _ hk ((h00 k).2 e2))))
/-- A part of the number j alone: the loop's own cells stay. -/
theorem LoopAt.one (H : LoopAt w b s o P) (hF0 : ∀ k, F k ↔ ∃ i, P i k) (j : Nat) (hj0 : j ≠ 0) {F' : Nat → Prop} (T : Tch (P j) w w') (h0 : lcells s' o' = lcells s o) (hj : LPart w' b s' o' F' j) (hF : ∀ k, F' k → P j k ∨ w.heap.size ≤ k)
    (same : ∀ i, i ≠ 0 → i ≠ j → LPart w' b s o (P i) i → LPart w' b s' o' (P i) i) (hs : o'.sb.length = s'.str.length) (hok : LOk s') : LoopLeft w w' b F s' := by
  have T' : Tch (fun k => P 0 k ∨ P j k) w w' := T.mono (fun _ _ e => .inr e)
  have h1 := (H.part 0).keep T (fun k hk e => hj0 (H.dis _ _ _ hk e).symm)
  exact H.left hF0 j T' hF (H.upd j hj0 T' ⟨by rw [h0]; exact h1.1, h1.2⟩ hj hF same hs hok)
end
end Go.Proofs.YtipbimbnpikbcaaGreat

/- A row of a loop: one more is put behind the others. -/
namespace Go.Proofs.YtipbimbnpikbcaaGreat
open Go.RowKit

theorem Rw.drew1 {w : World} {e : TypeId} {sz n cap : Nat} {A : Option Addr} {xs : List Value} {G : Option Nat} (h : Rw w e sz A n cap xs G) : Rw w.drew e sz A n cap xs G := h.keep (Tch.refl NoBlk w).drew (fun _ _ h => h)
theorem Rw.alloc {w : World} {e : TypeId} {sz n cap : Nat} {A : Option Addr} {xs : List Value} {G : Option Nat} (h : Rw w e sz A n cap xs G) (ob : Obj) : Rw (w.alloc ob) e sz A n cap xs G := h.keep ((Tch.refl NoBlk w).alloc ob) (fun _ _ h => h)

/-- A task and one more word told: the task lies in a block of its own. -/
theorem ret_tk {fn : Func} {p u : Tmp} (h : fn.results = #[.cell p 35, .tmp u]) (tmps : Array Value) (w : World) (z : Nat) (x : Tk) (hp : tmps.getD p undef = .pointer (some ⟨z, 0, none⟩)) (hB : Blk w z 35 (tkl x)) :
    (results fn tmps).run Tryz.prog w = .ok (.tuple #[tkv x, tmps.getD u undef]) w := by
  rw [results_cell_tmp h, hp]
  have e := run_loadVar_row (P := Tryz.prog) w z 35 35 (tkl x).toArray (0, 0) _ hB Tryz.underlying35 rfl (by kernel_rfl)
  simp only [asAddr, Sem.run_pure, Result.andThen_ok, e]
  rfl

set_option maxHeartbeats 4000000 in
set_option maxRecDepth 100000 in
theorem row_put (b i : Nat) (cs : List Value) (A : Option Addr) (n cap : Nat) (xs : List Value) (G : Option Nat) (x : Tk) (w : World) (hb : Blk w b 71 cs) (hi : cs[i]? = some (.slice A n cap)) (hr : Rw w 35 4 A n cap xs G) (hG : G ≠ some b) (hn : n < 1000000) :
    Calls Tryz.prog 55 #[.pointer (some ⟨b, i, none⟩), tkv x] w fun e w' => e = .returned (.tuple #[]) ∧ ∃ A' c' G', Blk w' b 71 (cs.set i (.slice A' (n + 1) c')) ∧ Rw w' 35 4 A' (n + 1) c' (xs ++ tkl x) G' ∧ Tch (fun k => k = b ∨ G = some k) w w' ∧ ∀ k, G' = some k → G = some k ∨ w.heap.size ≤ k := by
  obtain ⟨k, f, a, t⟩ := x
  unfold tkv tkl
  have hcap := hr.cap_le
  go_enter Tryz.func55, Tryz.ntmps55
  go_wp2_with fail
  have hbW : Blk (w.alloc (.cells #[.int .i64 k, .int .i64 f, .int .i64 a, .int .i64 t] 35)) w.heap.size 35 [.int .i64 k, .int .i64 f, .int .i64 a, .int .i64 t] := heap_alloc_new w _
  have hb1 := hb.alloc (.cells #[.int .i64 k, .int .i64 f, .int .i64 a, .int .i64 t] 35)
  have hr1 := hr.alloc (.cells #[.int .i64 k, .int .i64 f, .int .i64 a, .int .i64 t] 35)
  have hT1 := (Tch.refl (fun k => k = b ∨ G = some k) w).alloc (.cells #[.int .i64 k, .int .i64 f, .int .i64 a, .int .i64 t] 35)
  have hsz : w.heap.size < (w.alloc (.cells #[.int .i64 k, .int .i64 f, .int .i64 a, .int .i64 t] 35)).heap.size := by simp
  generalize w.alloc (.cells #[.int .i64 k, .int .i64 f, .int .i64 a, .int .i64 t] 35) = w1 at *
  generalize w.heap.size = z at *
  clear hb hr
  have hc := hb1.cellOf i _ hi
  have l0 := hbW.cellOf 0 _ rfl
  have l1 := hbW.cellOf 1 _ rfl
  have l2 := hbW.cellOf 2 _ rfl
  have l3 := hbW.cellOf 3 _ rfl
  have hcA : ∀ ob, (w1.alloc ob).cell? ⟨b, i, none⟩ = some (.slice A n cap) := fun ob => ((Tch.refl NoBlk w1).alloc ob).cell' hc (fun h => h)
  have HB := Lib.hid hb1
  have HR := Lib.hid hr1
  have HT := Lib.hid hT1
  have HZ := Lib.hid hsz
  have HI := Lib.hid hi
  have HN := Lib.hid (show (n + 1) * 32 ≤ 140737488355328 by omega)
  clear hb1 hr1 hT1 hbW hsz hi hn
  go_region_law (refine step_rw_app _ rfl (.tmp 7) (.tmp 9) 68 rfl 35 (.agg #[.int .i64 0, .int .i64 0, .int .i64 0, .int .i64 0]) 4 32 Tryz.underlying68 infoTk rfl (by decide) (by decide) A n cap xs G (some ⟨w1.heap.size, 0, none⟩) 1 1 [.int .i64 k, .int .i64 f, .int .i64 a, .int .i64 t] (by simp [Act.eval]) (by simp [Act.eval]) (by decide) (by exact (HR.out.alloc _).drew1) (by exact (Src.made (sz := 4) w1 35 #[.int .i64 k, .int .i64 f, .int .i64 a, .int .i64 t] 1 rfl).keep (Tch.refl NoBlk _).drew (fun _ _ h => h)) (by simp [Value.oneCell']) HN.out ?_; intro A6 c6 w6 G6 hs6 ht6 hg6; have HS6 := Lib.hid hs6; have HT6 : Hid (Tch (fun k => G = some k) w1 w6) := Lib.hid (Tch.then ((Tch.refl _ w1).alloc _).drew ht6 (fun _ _ h => h)); have HG6 := Lib.hid hg6; have hb6 := HB.out.keep HT6.out hG; have hc6 := hb6.cellOf i _ HI.out; have hf6 := hb6.free i; clear hs6 ht6 hg6 hb6)
  all_goals
    have hS : Tch (· = b) w6 (w6.setCell ⟨b, i, none⟩ (.slice A6 (n + 1) c6)) := (Tch.refl (· = b) w6).setCell (p := ⟨b, i, none⟩) (fun _ => rfl) _
    have hG6 : ∀ g, G6 = some g → G = some g ∨ w1.heap.size ≤ g := fun g hg => by
      rcases HG6.out with e | ⟨g', e, hl⟩
      · exact .inl (e ▸ hg)
      · rw [e] at hg
        injection hg with hg
        subst hg
        simp at hl
        exact .inr (by omega)
    have HE : Hid (∃ A' c' G', Blk (w6.setCell ⟨b, i, none⟩ (.slice A6 (n + 1) c6)) b 71 (cs.set i (.slice A' (n + 1) c')) ∧ Rw (w6.setCell ⟨b, i, none⟩ (.slice A6 (n + 1) c6)) 35 4 A' (n + 1) c' (xs ++ [.int .i64 k, .int .i64 f, .int .i64 a, .int .i64 t]) G' ∧ Tch (fun k => k = b ∨ G = some k) w (w6.setCell ⟨b, i, none⟩ (.slice A6 (n + 1) c6)) ∧ ∀ k, G' = some k → G = some k ∨ w.heap.size ≤ k) :=
      Lib.hid ⟨A6, c6, G6, (HB.out.keep HT6.out hG).set i _, HS6.out.keep hS (fun g hg e => by
        subst e
        rcases hG6 g hg with e | e
        · exact hG e
        · have := HB.out.lt
          omega), (HT.out.trans (HT6.out.mono (fun _ _ e => .inr e))).trans (hS.mono (fun _ _ e => .inl e)), fun g hg => (hG6 g hg).imp_right (fun e => Nat.le_trans HT.out.size e)⟩
    clear HS6 HT6 HG6 hc6 hf6 hS hG6
    go_end0
    exact ⟨rfl, HE.out⟩

/-- A task is set into a cell of the law's own. -/
abbrev put4 (w : World) (z : Nat) (k f a t : Int) : World := (((w.setCell ⟨z, 0, none⟩ (.int .i64 k)).setCell ⟨z, 1, none⟩ (.int .i64 f)).setCell ⟨z, 2, none⟩ (.int .i64 a)).setCell ⟨z, 3, none⟩ (.int .i64 t)
theorem tch_put4 (w : World) (z : Nat) (k f a t : Int) : Tch (· = z) w (put4 w z k f a t) :=
  ((((Tch.refl (· = z) w).setCell (p := ⟨z, 0, none⟩) (fun _ => rfl) _).setCell (p := ⟨z, 1, none⟩) (fun _ => rfl) _).setCell (p := ⟨z, 2, none⟩) (fun _ => rfl) _).setCell (p := ⟨z, 3, none⟩) (fun _ => rfl) _
theorem blk_put4 {w : World} {z : Nat} {c0 c1 c2 c3 : Value} (h : Blk w z 35 [c0, c1, c2, c3]) (k f a t : Int) : Blk (put4 w z k f a t) z 35 (tkl ⟨k, f, a, t⟩) := (((h.set 0 _).set 1 _).set 2 _).set 3 _
theorem left_put4 {w w1 w2 : World} {b z : Nat} {F : Nat → Prop} {s : Lp} (h : LoopLeft w1 w2 b F s) (hT : Tch NoBlk w w1) (hz : w.heap.size ≤ z) (hz1 : z < w1.heap.size) (hF : ∀ k, F k → k < w.heap.size) (k f a t : Int) : LoopLeft w (put4 w2 z k f a t) b F s := by
  obtain ⟨l1, F3, l2, l3⟩ := h
  have hn3 : ∀ k, F3 k → k ≠ z := fun k hk e => by
    rcases l3 k hk with e2 | e2
    · have := hF k e2
      omega
    · omega
  exact ⟨((hT.mono (fun _ _ e => e.elim)).trans l1).then (tch_put4 w2 z k f a t) (fun k hk e => by omega), F3, l2.keep (tch_put4 w2 z k f a t) hn3, fun k hk => (l3 k hk).imp_right (fun e => Nat.le_trans hT.size e)⟩

section
variable {w : World} {b : Nat} {s : Lp} {F : Nat → Prop}
theorem loop_put_mac (h : LoopQ w b s F) (x : Tk) (hx : TokOk s.ab x.tok) (hn : s.mac.length < 1000000) :
    Calls Tryz.prog 55 #[.pointer (some ⟨b, 3, none⟩), tkv x] w fun e w' => e = .returned (.tuple #[]) ∧ LoopLeft w w' b F (macL s x) := by
  obtain ⟨o, P, H, hF⟩ := h
  have h0 := H.part 0
  have h1 := H.part 1
  refine (row_put b 3 _ _ _ _ _ _ x w h0.1 rfl h1.1 (fun e => absurd (H.dis 0 1 b ((h0.2 b).2 rfl) ((h1.2 b).2 e)) (by omega)) hn).mono ?_
  rintro e w' ⟨rfl, A', c', G', k1, k2, k3, k4⟩
  refine ⟨rfl, ?_⟩
  have T : Tch (fun k => P 0 k ∨ P 1 k) w w' := k3.mono (fun k _ e => e.imp (fun e => (h0.2 k).2 e) (fun e => (h1.2 k).2 e))
  refine H.left hF 1 T (F' := fun k => G' = some k) (o' := { o with A1 := A', c1 := c', G1 := G' }) (fun k hk => (k4 k hk).imp_left (fun e => (h1.2 k).2 e)) (H.upd 1 (by decide) T ⟨?_, h0.2⟩ ⟨?_, fun _ => Iff.rfl⟩ (fun k hk => (k4 k hk).imp_left (fun e => (h1.2 k).2 e)) ?_ H.sb (H.ok.putMac hx))
  · simpa [lcells, macL] using k1
  · simpa [macL, tks_snoc] using k2
  · rintro i hi0 hi1 hp
    match i, hi0, hi1, hp with
    | 2, _, _, hp => exact hp
    | 3, _, _, hp => exact hp
    | 4, _, _, hp => exact hp
    | 5, _, _, hp => exact hp
    | 6, _, _, hp => exact hp
    | 7, _, _, hp => exact hp
    | i + 8, _, _, hp => exact hp
theorem loop_put_mic (h : LoopQ w b s F) (x : Tk) (hx : TokOk s.ab x.tok) (hn : s.mic.length < 1000000) :
    Calls Tryz.prog 55 #[.pointer (some ⟨b, 4, none⟩), tkv x] w fun e w' => e = .returned (.tuple #[]) ∧ LoopLeft w w' b F (micL s x) := by
  obtain ⟨o, P, H, hF⟩ := h
  have h0 := H.part 0
  have h1 := H.part 2
  refine (row_put b 4 _ _ _ _ _ _ x w h0.1 rfl h1.1 (fun e => absurd (H.dis 0 2 b ((h0.2 b).2 rfl) ((h1.2 b).2 e)) (by omega)) hn).mono ?_
  rintro e w' ⟨rfl, A', c', G', k1, k2, k3, k4⟩
  refine ⟨rfl, ?_⟩
  have T : Tch (fun k => P 0 k ∨ P 2 k) w w' := k3.mono (fun k _ e => e.imp (fun e => (h0.2 k).2 e) (fun e => (h1.2 k).2 e))
  refine H.left hF 2 T (F' := fun k => G' = some k) (o' := { o with A2 := A', c2 := c', G2 := G' }) (fun k hk => (k4 k hk).imp_left (fun e => (h1.2 k).2 e)) (H.upd 2 (by decide) T ⟨?_, h0.2⟩ ⟨?_, fun _ => Iff.rfl⟩ (fun k hk => (k4 k hk).imp_left (fun e => (h1.2 k).2 e)) ?_ H.sb (H.ok.putMic hx))
  · simpa [lcells, micL] using k1
  · simpa [micL, tks_snoc] using k2
  · rintro i hi0 hi1 hp
    match i, hi0, hi1, hp with
    | 1, _, _, hp => exact hp
    | 3, _, _, hp => exact hp
    | 4, _, _, hp => exact hp
    | 5, _, _, hp => exact hp
    | 6, _, _, hp => exact hp
    | 7, _, _, hp => exact hp
    | i + 8, _, _, hp => exact hp
theorem loop_put_wai (h : LoopQ w b s F) (x : Tk) (hx : TokOk s.ab x.tok) (hn : s.wai.length < s.ab.length) :
    Calls Tryz.prog 55 #[.pointer (some ⟨b, 5, none⟩), tkv x] w fun e w' => e = .returned (.tuple #[]) ∧ LoopLeft w w' b F (waiL s x) := by
  obtain ⟨o, P, H, hF⟩ := h
  have h0 := H.part 0
  have h1 := H.part 3
  have hle := H.ok.tree.le
  refine (row_put b 5 _ _ _ _ _ _ x w h0.1 rfl h1.1 (fun e => absurd (H.dis 0 3 b ((h0.2 b).2 rfl) ((h1.2 b).2 e)) (by omega)) (by omega)).mono ?_
  rintro e w' ⟨rfl, A', c', G', k1, k2, k3, k4⟩
  refine ⟨rfl, ?_⟩
  have T : Tch (fun k => P 0 k ∨ P 3 k) w w' := k3.mono (fun k _ e => e.imp (fun e => (h0.2 k).2 e) (fun e => (h1.2 k).2 e))
  refine H.left hF 3 T (F' := fun k => G' = some k) (o' := { o with A3 := A', c3 := c', G3 := G' }) (fun k hk => (k4 k hk).imp_left (fun e => (h1.2 k).2 e)) (H.upd 3 (by decide) T ⟨?_, h0.2⟩ ⟨?_, fun _ => Iff.rfl⟩ (fun k hk => (k4 k hk).imp_left (fun e => (h1.2 k).2 e)) ?_ H.sb (H.ok.putWai hx hn))
  · simpa [lcells, waiL] using k1
  · simpa [waiL, tks_snoc] using k2
  · rintro i hi0 hi1 hp
    match i, hi0, hi1, hp with
    | 1, _, _, hp => exact hp
    | 2, _, _, hp => exact hp
    | 4, _, _, hp => exact hp
    | 5, _, _, hp => exact hp
    | 6, _, _, hp => exact hp
    | 7, _, _, hp => exact hp
    | i + 8, _, _, hp => exact hp
end
end Go.Proofs.YtipbimbnpikbcaaGreat
