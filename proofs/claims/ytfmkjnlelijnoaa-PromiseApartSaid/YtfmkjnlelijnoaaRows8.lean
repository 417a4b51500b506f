/- Eight rows of integers in one array; a table beside them. -/
import Derived.Test.YtfmkjnlelijnoaaPromiseNews
namespace Go.Proofs.Ytfmkjnlelijnoaa
open Go.RowKit

def upd {α : Type} (f : Nat → α) (q : Nat) (v : α) (i : Nat) : α := if i = q then v else f i
theorem upd_same {α : Type} (f : Nat → α) (q : Nat) (v : α) : upd f q v q = v := by simp [upd]
theorem upd_ne {α : Type} (f : Nat → α) (q i : Nat) (v : α) (h : i ≠ q) : upd f q v i = f i := by simp [upd, h]
theorem range_set {α : Type} (f : Nat → α) (n q : Nat) (v : α) : ((List.range n).map f).set q v = (List.range n).map (upd f q v) := by
  apply List.ext_getElem?
  intro i
  by_cases hi : i < n
  · by_cases hq : q = i
    · subst hq
      rw [List.getElem?_set_self (by simpa using hi)]
      simp [hi, upd]
    · rw [List.getElem?_set_ne hq]
      simp [hi, upd, Ne.symm hq]
  · rw [List.getElem?_eq_none (by simpa using hi), List.getElem?_eq_none (by simpa using hi)]

structure R8At (w : World) (p : Nat) (W : Nat → List Int) (A : Nat → Option Addr) (c : Nat → Nat) (G : Nat → Option Nat) : Prop where
  blk : Blk w p 50 ((List.range 8).map fun i => .slice (A i) (W i).length (c i))
  sl : ∀ i, i < 8 → Sl w 3 1 (A i) (W i).length (c i) (ints (W i)) (G i)
  np : ∀ i, i < 8 → G i ≠ some p
  nn : ∀ i j, i < 8 → j < 8 → i ≠ j → ∀ g, G i = some g → G j ≠ some g
def R8Q (w : World) (p : Nat) (W : Nat → List Int) (F : Nat → Prop) : Prop := ∃ A c G, R8At w p W A c G ∧ ∀ k, F k ↔ k = p ∨ ∃ i, i < 8 ∧ G i = some k

section
variable {w w' w2 : World} {p : Nat} {W : Nat → List Int} {F S : Nat → Prop} {A : Nat → Option Addr} {c : Nat → Nat} {G : Nat → Option Nat}
theorem R8At.cell (h : R8At w p W A c G) (q : Nat) (hq : q < 8) : w.cell? ⟨p, q, none⟩ = some (.slice (A q) (W q).length (c q)) := h.blk.cellOf q _ (by simp [hq])
theorem R8Q.keep (h : R8Q w p W F) (ht : Tch S w w') (hS : ∀ k, F k → ¬ S k) : R8Q w' p W F := by
  obtain ⟨A, c, G, h, hF⟩ := h
  exact ⟨A, c, G, ⟨h.blk.keep ht (hS _ ((hF _).2 (.inl rfl))), fun i hi => (h.sl i hi).keep ht (fun g e => hS _ ((hF _).2 (.inr ⟨i, hi, e⟩))), h.np, h.nn⟩, hF⟩
theorem R8Q.lt (h : R8Q w p W F) : ∀ k, F k → k < w.heap.size := by
  obtain ⟨A, c, G, h, hF⟩ := h
  intro k hk
  rcases (hF k).1 hk with rfl | ⟨i, hi, e⟩
  · exact h.blk.lt
  · exact (h.sl i hi).lt k e
theorem r8_new (w : World) : ∃ F, R8Q (w.alloc (.cells #[.slice none 0 0, .slice none 0 0, .slice none 0 0, .slice none 0 0, .slice none 0 0, .slice none 0 0, .slice none 0 0, .slice none 0 0] 50)) w.heap.size (fun _ => []) F ∧ ∀ k, F k → w.heap.size ≤ k := by
  refine ⟨fun k => k = w.heap.size ∨ ∃ i, i < 8 ∧ (none : Option Nat) = some k, ⟨fun _ => none, fun _ => 0, fun _ => none, ⟨Blk.new w _ [.slice none 0 0, .slice none 0 0, .slice none 0 0, .slice none 0 0, .slice none 0 0, .slice none 0 0, .slice none 0 0, .slice none 0 0], fun _ _ => Sl.nil _ _ _, by simp, by simp⟩, fun _ => Iff.rfl⟩, fun k hk => ?_⟩
  rcases hk with rfl | ⟨i, hi, e⟩
  · exact Nat.le_refl _
  · cases e

def R8Grown (w w' : World) (p : Nat) (W : Nat → List Int) (F : Nat → Prop) : Prop := Tch F w w' ∧ ∃ F', R8Q w' p W F' ∧ ∀ k, F' k → F k ∨ w.heap.size ≤ k
theorem R8At.app (h : R8At w p W A c G) (hF : ∀ k, F k ↔ k = p ∨ ∃ i, i < 8 ∧ G i = some k) (q : Nat) (hq : q < 8) (T : Tch (fun k => G q = some k) w w2) {l : List Int} {A' : Option Addr} {c' : Nat} {G' : Option Nat} (hs : Sl w2 3 1 A' l.length c' (ints l) G') (hG : G' = G q ∨ ∃ g, G' = some g ∧ w.heap.size ≤ g) :
    R8Grown w (w2.setCell ⟨p, q, none⟩ (.slice A' l.length c')) p (upd W q l) F := by
  have hS : Tch (· = p) w2 (w2.setCell ⟨p, q, none⟩ (.slice A' l.length c')) := (Tch.refl (· = p) w2).setCell (p := ⟨p, q, none⟩) (fun _ => rfl) _
  have hlb := h.blk.lt
  have hn : ∀ k, k < w.heap.size → G q ≠ some k → G' ≠ some k := by
    intro k hk hne e
    rcases hG with e2 | ⟨g, e2, hg⟩
    · exact hne (e2 ▸ e)
    · rw [e2] at e
      injection e with e
      omega
  have hfun : (upd (fun i => Value.slice (A i) (W i).length (c i)) q (.slice A' l.length c')) = fun i => .slice (upd A q A' i) (upd W q l i).length (upd c q c' i) := by
    funext i
    by_cases hi : i = q
    · simp [upd, hi]
    · simp [upd, hi]
  have hblk : Blk (w2.setCell ⟨p, q, none⟩ (.slice A' l.length c')) p 50 ((List.range 8).map fun i => .slice (upd A q A' i) (upd W q l i).length (upd c q c' i)) := by
    rw [← hfun, ← range_set]
    exact (h.blk.keep T (h.np q hq)).set q _
  refine ⟨(T.mono (fun k _ e => (hF k).2 (.inr ⟨q, hq, e⟩))).trans (hS.mono (fun k _ e => (hF k).2 (.inl e))), fun k => k = p ∨ ∃ i, i < 8 ∧ upd G q G' i = some k, ⟨upd A q A', upd c q c', upd G q G', ⟨hblk, fun i hi => ?_, fun i hi => ?_, fun i j hi hj hij g e1 e2 => ?_⟩, fun _ => Iff.rfl⟩, fun k hk => ?_⟩
  · by_cases he : i = q
    · subst he
      rw [upd_same, upd_same, upd_same, upd_same]
      exact hs.keep hS (fun g hg e => hn p hlb (h.np i hi) (e ▸ hg))
    · rw [upd_ne _ _ _ _ he, upd_ne _ _ _ _ he, upd_ne _ _ _ _ he, upd_ne _ _ _ _ he]
      exact ((h.sl i hi).keep T (fun g hg e => h.nn q i hq hi (Ne.symm he) g e hg)).keep hS (fun g hg e => h.np i hi (e ▸ hg))
  · by_cases he : i = q
    · subst he
      rw [upd_same]
      exact hn p hlb (h.np i hi)
    · rw [upd_ne _ _ _ _ he]
      exact h.np i hi
  · by_cases he : i = q
    · subst he
      rw [upd_same] at e1
      rw [upd_ne _ _ _ _ (Ne.symm hij)] at e2
      exact hn g ((h.sl j hj).lt g e2) (fun e3 => h.nn i j hi hj hij g e3 e2) e1
    · rw [upd_ne _ _ _ _ he] at e1
      by_cases hj2 : j = q
      · subst hj2
        rw [upd_same] at e2
        exact hn g ((h.sl i hi).lt g e1) (fun e3 => h.nn i j hi hj hij g e1 e3) e2
      · rw [upd_ne _ _ _ _ hj2] at e2
        exact h.nn i j hi hj hij g e1 e2
  · rcases hk with hk | ⟨i, hi, e⟩
    · exact .inl ((hF k).2 (.inl hk))
    · by_cases he : i = q
      · subst he
        rw [upd_same] at e
        rcases hG with e2 | ⟨g, e2, hg⟩
        · exact .inl ((hF k).2 (.inr ⟨i, hi, e2 ▸ e⟩))
        · rw [e2] at e
          injection e with e
          exact .inr (by omega)
      · rw [upd_ne _ _ _ _ he] at e
        exact .inl ((hF k).2 (.inr ⟨i, hi, e⟩))
end

/-- Eight promises: who waits for each, what each was told. -/
def tabOf (W : Nat → List Int) (T : Nat → Option Int) : List Pr := (List.range 8).map fun i => match T i with | none => ⟨false, 0, W i⟩ | some v => ⟨true, v, []⟩
theorem tab_at (W : Nat → List Int) (T : Nat → Option Int) (q : Nat) (hq : q < 8) : (tabOf W T)[q]? = some (match T q with | none => ⟨false, 0, W q⟩ | some v => ⟨true, v, []⟩) := by simp [tabOf, hq]
theorem tab_then (W : Nat → List Int) (T : Nat → Option Int) (q : Nat) (r : Int) (hq : q < 8) (hT : T q = none) (hl : (W q).length < 256) : thenM (tabOf W T) (q : Int) r = (tabOf (upd W q (W q ++ [r])) T, 0, false, 0) := by
  have h := tab_at W T q hq
  rw [hT] at h
  rw [then_at _ _ _ _ h rfl hl]
  refine Prod.ext ?_ rfl
  simp only [tabOf]
  rw [range_set]
  apply List.map_congr_left
  intro i _
  by_cases hi : i = q
  · subst hi
    simp only [upd_same, hT]
  · rw [upd_ne _ _ _ _ hi]
    simp only [upd_ne _ _ _ _ hi]
theorem tab_settle (W : Nat → List Int) (T : Nat → Option Int) (q : Nat) (v : Int) (hq : q < 8) (hT : T q = none) : settleM (tabOf W T) (q : Int) v = (tabOf W (upd T q (some v)), W q, 0) := by
  have h := tab_at W T q hq
  rw [hT] at h
  rw [settle_at _ _ _ _ h rfl]
  refine Prod.ext ?_ rfl
  simp only [tabOf]
  rw [range_set]
  apply List.map_congr_left
  intro i _
  by_cases hi : i = q
  · subst hi
    simp only [upd_same]
  · rw [upd_ne _ _ _ _ hi]
    simp only [upd_ne _ _ _ _ hi]
theorem tab_again (W : Nat → List Int) (T : Nat → Option Int) (q : Nat) (v u : Int) (hq : q < 8) (hT : T q = some u) : settleM (tabOf W T) (q : Int) v = (tabOf W T, [], 160) := by
  have h := tab_at W T q hq
  rw [hT] at h
  exact settle_told _ _ _ _ h rfl
theorem tab_value (W : Nat → List Int) (T : Nat → Option Int) (q : Nat) (hq : q < 8) : valueM (tabOf W T) (q : Int) = ((T q).getD 0, (T q).isSome, 0) := by
  rw [value_at _ _ _ (tab_at W T q hq)]
  cases T q <;> rfl
theorem tab_waits (W : Nat → List Int) (T : Nat → Option Int) (q : Nat) (hq : q < 8) : waitsM (tabOf W T) (q : Int) = if (T q).isSome then 0 else (W q).length := by
  rw [waits_at _ _ _ (tab_at W T q hq)]
  cases T q <;> rfl
theorem tab_new : news 8 = tabOf (fun _ => []) (fun _ => none) := rfl

/-- A table and the rows beside it, each in blocks of its own. -/
structure AptI (w0 w : World) (b : Nat) (l : List Pr) (F : Nat → Prop) (p : Nat) (W : Nat → List Int) (P : Nat → Prop) : Prop where
  pr : PrsI w0 w b l F
  r8 : R8Q w p W P
  ne : ∀ k, P k → ¬ F k
  base : ∀ k, P k → w0.heap.size ≤ k
section
variable {w0 w w' : World} {b : Nat} {l l' : List Pr} {F : Nat → Prop} {p : Nat} {W : Nat → List Int} {P : Nat → Prop}
theorem AptI.keep {S : Nat → Prop} (h : AptI w0 w b l F p W P) (ht : Tch S w w') (h1 : ∀ k, S k → ¬ F k ∧ ¬ P k) (hB : ∀ i, S i → w0.heap.size ≤ i) : AptI w0 w' b l F p W P :=
  ⟨h.pr.keep ht (fun i hi hs => (h1 i hs).1 hi) hB, h.r8.keep ht (fun i hi hs => (h1 i hs).2 hi), h.ne, h.base⟩
theorem AptI.none (h : AptI w0 w b l F p W P) (ht : Tch NoBlk w w') : AptI w0 w' b l F p W P := h.keep ht (fun _ h => h.elim) (fun _ h => h.elim)
theorem apt_then (h : AptI w0 w b l F p W P) (id react : Int) (l' : List Pr) (x : Int) (t : Bool) (y : Nat) (hm : thenM l id react = (l', x, t, y)) :
    Calls Try.prog 14 #[.pointer (some ⟨b, 0, none⟩), .int .i64 id, .int .i64 react] w fun e w' => e = .returned (.tuple #[.int .i64 x, .bool t, .int .i64 y]) ∧ AptI w0 w' b l' F p W P ∧ Tch F w w' := by
  refine (prs_then h.pr id react l' x t y hm).mono ?_
  rintro e w' ⟨rfl, h1, hT⟩
  exact ⟨rfl, ⟨h1, h.r8.keep hT (fun k hk => h.ne k hk), h.ne, h.base⟩, hT⟩
theorem apt_settle (h : AptI w0 w b l F p W P) (id value : Int) (l' : List Pr) (x : List Int) (y : Nat) (hm : settleM l id value = (l', x, y)) :
    Calls Try.prog 12 #[.pointer (some ⟨b, 0, none⟩), .int .i64 id, .int .i64 value] w fun e w' => ∃ A cap G, e = .returned (.tuple #[.slice A x.length cap, .int .i64 y]) ∧ Sl w' 3 1 A x.length cap (ints x) G ∧ (∀ g, G = some g → w.heap.size ≤ g) ∧ AptI w0 w' b l' F p W P ∧ Tch F w w' := by
  refine (prs_settle h.pr id value l' x y hm).mono ?_
  rintro e w' ⟨A, c, G, rfl, h1, h2, h3, hT⟩
  exact ⟨A, c, G, rfl, h1, h2, ⟨h3, h.r8.keep hT (fun k hk => h.ne k hk), h.ne, h.base⟩, hT⟩
theorem AptI.grown {W' : Nat → List Int} (h : AptI w0 w b l F p W P) (hg : R8Grown w w' p W' P) : ∃ P', AptI w0 w' b l F p W' P' := by
  obtain ⟨hT, P', hP, hP'⟩ := hg
  refine ⟨P', h.pr.keep hT (fun i hi hs => h.ne i hs hi) h.base, hP, fun k hk hf => ?_, fun k hk => ?_⟩
  · rcases hP' k hk with z | z
    · exact h.ne k z hf
    · have := h.pr.q.lt k hf
      omega
  · rcases hP' k hk with z | z
    · exact h.base k z
    · exact Nat.le_trans h.pr.below.size z
end
end Go.Proofs.Ytfmkjnlelijnoaa
