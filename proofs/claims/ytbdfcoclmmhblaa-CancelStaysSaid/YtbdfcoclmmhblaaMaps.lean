/- Maps that the program makes itself: their entries in the order in which they came. -/
import Derived.Test.YtbdfcoclmmhblaaBase
import Derived.Maps.OwnOps
import Derived.Carry
namespace Go.Proofs.Ytbdfcoclmmhblaa
open Go.RowKit

/-- Block r is a map; its entries, in the order in which they came, are D. -/
def MapAt (w : World) (r : Nat) (D : List (Value × Value)) : Prop :=
  ∃ es, w.heap[r]? = some (.map es es.size) ∧ es.toList.map (fun e : MapEntry => (e.key, e.val)) = D ∧ ∀ (i : Nat) (e : MapEntry), es.toList[i]? = some e → e.born = i

theorem MapAt.lt {w : World} {r : Nat} {D : List (Value × Value)} (h : MapAt w r D) : r < w.heap.size := by
  obtain ⟨es, hh, _⟩ := h
  exact (Array.getElem?_eq_some_iff.1 hh).1

theorem MapAt.keep {S : Nat → Prop} {w w' : World} {r : Nat} {D : List (Value × Value)} (h : MapAt w r D) (ht : Tch S w w') (hr : ¬ S r) : MapAt w' r D := by
  have hl := h.lt
  obtain ⟨es, hh, rest⟩ := h
  exact ⟨es, (ht.block r hl hr).trans hh, rest⟩

theorem MapAt.new (w : World) : MapAt (w.alloc (.map #[] 0)) w.heap.size [] :=
  ⟨#[], heap_alloc_new w _, rfl, fun i e h => by simp at h⟩

/-- The place and the element of a key. -/
def seek {α : Type} [DecidableEq α] (k : α) : List (α × Value) → Nat → Option (Nat × Value)
  | [], _ => none
  | p :: r, i => if k = p.1 then some (i, p.2) else seek k r (i + 1)

def lk {α : Type} [DecidableEq α] (D : List (α × Value)) (k : α) : Option Value := (seek k D 0).map (·.2)

/-- What a store leaves. -/
def upd {α : Type} [DecidableEq α] (D : List (α × Value)) (k : α) (v : Value) : List (α × Value) :=
  match seek k D 0 with
  | some (i, _) => D.set i (k, v)
  | none => D ++ [(k, v)]

theorem seek_spec {α : Type} [DecidableEq α] (k : α) : ∀ (D : List (α × Value)) (i j : Nat) (v : Value), seek k D i = some (j, v) → i ≤ j ∧ D[j - i]? = some (k, v)
  | [], i, j, v, h => by simp [seek] at h
  | p :: r, i, j, v, h => by
    unfold seek at h
    split at h
    · rename_i he
      injection h with h
      injection h with h1 h2
      subst h1 h2
      exact ⟨Nat.le_refl _, by simp [he]⟩
    · obtain ⟨h1, h2⟩ := seek_spec k r (i + 1) j v h
      refine ⟨by omega, ?_⟩
      rw [show j - i = (j - (i + 1)) + 1 from by omega, List.getElem?_cons_succ]
      exact h2

theorem seek_none {α : Type} [DecidableEq α] (k : α) : ∀ (D : List (α × Value)) (i : Nat), seek k D i = none ↔ ∀ p ∈ D, p.1 ≠ k
  | [], i => by simp [seek]
  | p :: r, i => by
    unfold seek
    split
    · rename_i he
      simp [he]
    · rename_i he
      rw [seek_none k r (i + 1)]
      constructor
      · intro h q hq
        rcases List.mem_cons.1 hq with rfl | hq
        · exact fun e => he e.symm
        · exact h q hq
      · exact fun h q hq => h q (List.mem_cons_of_mem _ hq)

theorem seek_shift {α : Type} [DecidableEq α] (k : α) : ∀ (D : List (α × Value)) (i j : Nat), (seek k D (i + j)) = (seek k D i).map (fun p => (p.1 + j, p.2))
  | [], i, j => rfl
  | p :: r, i, j => by
    unfold seek
    split
    · rfl
    · rw [show i + j + 1 = (i + 1) + j from by omega]
      exact seek_shift k r (i + 1) j

theorem lk_nil {α : Type} [DecidableEq α] (k : α) : lk ([] : List (α × Value)) k = none := rfl
theorem lk_cons {α : Type} [DecidableEq α] (p : α × Value) (r : List (α × Value)) (k : α) : lk (p :: r) k = if k = p.1 then some p.2 else lk r k := by
  unfold lk
  rw [seek]
  split
  · rfl
  · rw [seek_shift k r 0 1, Option.map_map]
    rfl
theorem lk_append {α : Type} [DecidableEq α] (k : α) : ∀ (D E : List (α × Value)), lk (D ++ E) k = (lk D k).or (lk E k)
  | [], E => by simp [lk_nil]
  | p :: r, E => by
    rw [List.cons_append, lk_cons, lk_cons]
    split
    · rfl
    · exact lk_append k r E

theorem lk_none {α : Type} [DecidableEq α] (D : List (α × Value)) (k : α) : lk D k = none ↔ ∀ p ∈ D, p.1 ≠ k := by
  unfold lk
  rw [Option.map_eq_none_iff, seek_none]

theorem lk_set {α : Type} [DecidableEq α] (k : α) (v : Value) : ∀ (D : List (α × Value)) (i j : Nat) (u : Value), seek k D i = some (j, u) → ∀ k', lk (D.set (j - i) (k, v)) k' = if k' = k then some v else lk D k'
  | [], i, j, u, h => by simp [seek] at h
  | p :: r, i, j, u, h => by
    intro k'
    unfold seek at h
    split at h
    · rename_i he
      injection h with h
      injection h with h1 h2
      subst h1
      rw [Nat.sub_self, List.set_cons_zero, lk_cons, lk_cons]
      by_cases hk : k' = k
      · simp [hk]
      · simp [hk, he ▸ hk]
    · rename_i he
      obtain ⟨h1, _⟩ := seek_spec k r (i + 1) j u h
      rw [show j - i = (j - (i + 1)) + 1 from by omega, List.set_cons_succ, lk_cons, lk_cons, lk_set k v r (i + 1) j u h k']
      by_cases hk : k' = k
      · subst hk
        simp [he]
      · simp [hk]

theorem lk_upd {α : Type} [DecidableEq α] (D : List (α × Value)) (k : α) (v : Value) (k' : α) : lk (upd D k v) k' = if k' = k then some v else lk D k' := by
  unfold upd
  split
  · rename_i i u h
    exact lk_set k v D 0 i u h k'
  · rename_i h
    rw [lk_append, lk_cons, lk_nil]
    by_cases hk : k' = k
    · subst hk
      have : lk D k' = none := by unfold lk; rw [h]; rfl
      simp [this]
    · simp [hk]

theorem upd_length {α : Type} [DecidableEq α] (D : List (α × Value)) (k : α) (v : Value) : (upd D k v).length = if (lk D k).isSome then D.length else D.length + 1 := by
  unfold upd lk
  split
  · rename_i h
    simp [h]
  · rename_i h
    simp [h]

/-- The keys of a kind: strings, ints. -/
structure KeyKind (P : Program) (K : TypeId) (α : Type) [DecidableEq α] where
  val : α → Value
  desc : TypeDesc
  und : P.underlying K = some desc
  same : ∀ a b : α, Instr.sameNow desc (val a) (val b) = some (decide (a = b))
  check : ∀ (e : Bool) (a : α) (w : World), (Instr.checkKey e 10000 K (val a)).run P w = .ok () w
  bits : ∀ a : α, Instr.sameBits 10000 (val a) (val a) = true

theorem checkKey_str {P : Program} {K : TypeId} (h : P.underlying K = some .string) (n : Nat) (e : Bool) (a : ByteArray) (w : World) : (Instr.checkKey e (n + 1) K (.string a)).run P w = .ok () w := by
  simp [Instr.checkKey, run_underlying h]
theorem checkKey_int {P : Program} {K : TypeId} (h : P.underlying K = some (.int .i64)) (n : Nat) (e : Bool) (a : Int) (w : World) : (Instr.checkKey e (n + 1) K (.int .i64 a)).run P w = .ok () w := by
  simp [Instr.checkKey, run_underlying h]

def strKeys {P : Program} {K : TypeId} (h : P.underlying K = some .string) : KeyKind P K ByteArray where
  val := .string
  desc := .string
  und := h
  same := fun a b => by
    simp only [Instr.sameNow]
    congr 1
    show ByteArray.beq a b = _
    unfold ByteArray.beq
    rw [Bool.eq_iff_iff]
    simp [ByteArray.ext_iff]
  check := fun e a w => checkKey_str h 9999 e a w
  bits := fun a => by
    simp only [Instr.sameBits]
    show ByteArray.beq a a = _
    simp [ByteArray.beq]

def intKeys {P : Program} {K : TypeId} (h : P.underlying K = some (.int .i64)) : KeyKind P K Int where
  val := fun n => .int .i64 n
  desc := .int .i64
  und := h
  same := fun a b => by
    simp only [Instr.sameNow, if_true]
    congr 1
  check := fun e a w => checkKey_int h 9999 e a w
  bits := fun a => by simp [Instr.sameBits]

section
variable {P : Program} {K : TypeId} {α : Type} [DecidableEq α] (kk : KeyKind P K α)

/-- The entries, keys as values. -/
def ents (D : List (α × Value)) : List (Value × Value) := D.map fun p => (kk.val p.1, p.2)

theorem findNow_ents (k : α) : ∀ (es : List MapEntry) (D : List (α × Value)) (i : Nat), es.map (fun e : MapEntry => (e.key, e.val)) = ents kk D → Instr.findNow kk.desc (kk.val k) es i = some (seek k D i)
  | [], D, i, h => by
    cases D with
    | nil => rfl
    | cons p r => simp [ents] at h
  | e :: es, D, i, h => by
    cases D with
    | nil => simp [ents] at h
    | cons p r =>
      simp only [ents, List.map_cons, List.cons.injEq, Prod.mk.injEq] at h
      obtain ⟨⟨h1, h2⟩, h3⟩ := h
      unfold Instr.findNow seek
      rw [h1, kk.same]
      by_cases hk : k = p.1
      · simp [hk, h2]
      · simp [hk]
        exact findNow_ents k es r (i + 1) h3

theorem lookup_run (T E : TypeId) (z : Value) (hT : P.underlying T = some (.map K E)) (hz : ∀ w, (zeroValue E).run P w = .ok z w) {w : World} {r : Nat} {D : List (α × Value)} (h : MapAt w r (ents kk D)) (k : α) :
    (Instr.lookup T (.map (some r)) (kk.val k) true).run P w = .ok (.tuple #[(lk D k).getD z, .bool (lk D k).isSome]) w := by
  obtain ⟨es, hh, he, _⟩ := h
  have hf := findNow_ents kk k es.toList D 0 he
  have hs : Sem.run P (Instr.findKey K (kk.val k) es.toList) w = .ok (seek k D 0) w := by
    simp [Instr.findKey, run_underlying kk.und, hf]
  simp [Instr.lookup, run_underlying hT, getObj, Sem.run, hh, kk.check, hs]
  unfold lk
  cases seek k D 0 with
  | none => simp [hz]
  | some p => simp

theorem lookup_run1 (T E : TypeId) (z : Value) (hT : P.underlying T = some (.map K E)) (hz : ∀ w, (zeroValue E).run P w = .ok z w) {w : World} {r : Nat} {D : List (α × Value)} (h : MapAt w r (ents kk D)) (k : α) :
    (Instr.lookup T (.map (some r)) (kk.val k) false).run P w = .ok ((lk D k).getD z) w := by
  obtain ⟨es, hh, he, _⟩ := h
  have hf := findNow_ents kk k es.toList D 0 he
  have hs : Sem.run P (Instr.findKey K (kk.val k) es.toList) w = .ok (seek k D 0) w := by
    simp [Instr.findKey, run_underlying kk.und, hf]
  simp [Instr.lookup, run_underlying hT, getObj, Sem.run, hh, kk.check, hs]
  unfold lk
  cases seek k D 0 with
  | none => simp [hz]
  | some p => simp

theorem ents_getElem (D : List (α × Value)) (i : Nat) : (ents kk D)[i]? = (D[i]?).map fun p => (kk.val p.1, p.2) := by simp [ents]

theorem update_run (T E : TypeId) (hT : P.underlying T = some (.map K E)) {w : World} {r : Nat} {D : List (α × Value)} (h : MapAt w r (ents kk D)) (k : α) (v : Value) :
    ∃ w', (Instr.mapUpdate T (.map (some r)) (kk.val k) v).run P w = .ok () w' ∧ MapAt w' r (ents kk (upd D k v)) ∧ Tch (· = r) w w' := by
  obtain ⟨es, hh, he, hb⟩ := h
  have hlt : r < w.heap.size := (Array.getElem?_eq_some_iff.1 hh).1
  have hf := findNow_ents kk k es.toList D 0 he
  have hs : Sem.run P (Instr.findKey K (kk.val k) es.toList) w = .ok (seek k D 0) w := by
    simp [Instr.findKey, run_underlying kk.und, hf]
  have ht : ∀ o : Obj, Tch (· = r) w { w with heap := w.heap.setIfInBounds r o } := fun o => ⟨rfl, rfl, rfl, by simp, fun j hj hne => by
    show (w.heap.setIfInBounds r o)[j]? = _
    rw [Array.getElem?_setIfInBounds]
    simp [Ne.symm hne]⟩
  have hset : ∀ o : Obj, ({ w with heap := w.heap.setIfInBounds r o } : World).heap[r]? = some o := fun o => by
    show (w.heap.setIfInBounds r o)[r]? = _
    rw [Array.getElem?_setIfInBounds]
    simp [hlt]
  cases hk : seek k D 0 with
  | none =>
    refine ⟨_, by simp [Instr.mapUpdate, run_underlying hT, getObj, setObj, Sem.run, hh, kk.check, hs, hk]; rfl, ⟨es.push { key := kk.val k, val := v, born := es.size }, ?_, ?_, ?_⟩, ht _⟩
    · rw [hset]
      simp
    · simp [upd, hk, ents] at he ⊢
      exact he
    · intro i e hi
      simp only [Array.toList_push, List.getElem?_append] at hi
      split at hi
      · exact hb i e hi
      · rename_i hge
        simp only [Array.length_toList] at hge hi
        rcases Nat.lt_or_ge (i - es.size) 1 with h1 | h1
        · have : i - es.size = 0 := by omega
          rw [this] at hi
          simp at hi
          subst hi
          show es.size = i
          omega
        · rw [List.getElem?_eq_none (by simpa using h1)] at hi
          cases hi
  | some p =>
    obtain ⟨i, u⟩ := p
    obtain ⟨_, hD⟩ := seek_spec k D 0 i u hk
    rw [Nat.sub_zero] at hD
    have hkey : (((es[i]?).map (·.key)).getD (kk.val k)) = kk.val k := by
      have h1 : (es.toList.map (fun e : MapEntry => (e.key, e.val)))[i]? = some (kk.val k, u) := by rw [he, ents_getElem, hD]; rfl
      rw [List.getElem?_map] at h1
      cases h2 : es.toList[i]? with
      | none => rw [h2] at h1; cases h1
      | some e =>
        rw [h2] at h1
        simp only [Option.map_some, Option.some.injEq, Prod.mk.injEq] at h1
        rw [Array.getElem?_toList] at h2
        rw [h2]
        exact h1.1
    refine ⟨_, by simp [Instr.mapUpdate, run_underlying hT, getObj, setObj, Sem.run, hh, kk.check, hs, hk, Instr.keyThatStays, hkey, kk.bits]; rfl, ⟨es.modify i fun e => { e with key := kk.val k, val := v }, ?_, ?_, ?_⟩, ht _⟩
    · rw [hset]
      simp
    · simp only [upd, hk]
      apply List.ext_getElem?
      intro j
      have hj : (es.toList.map (fun e : MapEntry => (e.key, e.val)))[j]? = (ents kk D)[j]? := by rw [he]
      rw [List.getElem?_map, ents_getElem] at hj
      rw [List.getElem?_map, ents_getElem, Array.toList_modify, List.getElem?_modify, List.getElem?_set]
      by_cases hij : i = j
      · subst hij
        have hil : i < D.length := by
          rcases Nat.lt_or_ge i D.length with h | h
          · exact h
          · rw [List.getElem?_eq_none h] at hD; cases hD
        rw [hD] at hj
        cases h2 : es.toList[i]? with
        | none => rw [h2] at hj; cases hj
        | some e => simp [hil]
      · simp [hij] at hj ⊢
        exact hj
    · intro j e hj
      rw [Array.toList_modify, List.getElem?_modify] at hj
      split at hj
      · cases h2 : es.toList[j]? with
        | none => rw [h2] at hj; cases hj
        | some e' =>
          rw [h2] at hj
          injection hj with hj
          have := hb j e' h2
          rw [← hj]
          exact this
      · exact hb j e (by simpa using hj)

theorem wpList_upd {ops : Array Oper} {rest : List Oper} {o : Oper} {a : Act} {Q : Exit → Act → World → Prop} {w : World} (hg : o.guard = none) (m x y : Operand) (T E : TypeId) (hop : o.op = Op.mapUpdate T m x y)
    (hT : P.underlying T = some (.map K E)) (r : Nat) (D : List (α × Value)) (k : α) (v : Value) (hm : a.eval m = .map (some r)) (hx : a.eval x = kk.val k) (hv : a.eval y = v) (h : MapAt w r (ents kk D))
    (hK : ∀ w', MapAt w' r (ents kk (upd D k v)) → Tch (· = r) w w' → wpList P ops Q rest (a.put o.dst undef) w') : wpList P ops Q (o :: rest) a w := by
  refine wpList_plain hg fun K' hK' => ?_
  obtain ⟨w', hrun, r1, r2⟩ := update_run kk T E hT h k v
  unfold Oper.wp
  simp [execOp, hop, hm, hx, hv, hrun, Result.andThen]
  exact hK' _ _ (hK w' r1 r2)

theorem wpList_lk {ops : Array Oper} {rest : List Oper} {o : Oper} {a : Act} {Q : Exit → Act → World → Prop} {w : World} (hg : o.guard = none) (m x : Operand) (T E : TypeId) (hop : o.op = Op.lookup T m x true)
    (hT : P.underlying T = some (.map K E)) (z : Value) (hz : ∀ w, (zeroValue E).run P w = .ok z w) (r : Nat) (D : List (α × Value)) (k : α) (hm : a.eval m = .map (some r)) (hx : a.eval x = kk.val k) (h : MapAt w r (ents kk D))
    (u : Option Value) (hu : lk D k = u) (hK : wpList P ops Q rest (a.put o.dst (.tuple #[u.getD z, .bool u.isSome])) w) : wpList P ops Q (o :: rest) a w := by
  refine wpList_plain hg fun K' hK' => ?_
  unfold Oper.wp
  simp [execOp, hop, hm, hx, lookup_run kk T E z hT hz h k, Result.andThen, hu]
  exact hK' _ _ hK

theorem wpList_want {ops : Array Oper} {rest : List Oper} {o : Oper} {a : Act} {Q : Exit → Act → World → Prop} {w : World} (hg : Region.wanted o (yielded ops a.tmps) = true)
    (h : ∀ K : Act → World → Prop, (∀ a w, wpList P ops Q rest a w → K a w) → o.wp P a w K Q) : wpList P ops Q (o :: rest) a w :=
  wpList_step fun K hK => by rw [if_pos hg]; exact h K hK

/-- 'm[k]' alone; the operation may be guarded. -/
theorem wpList_lk1 {ops : Array Oper} {rest : List Oper} {o : Oper} {a : Act} {Q : Exit → Act → World → Prop} {w : World} (hg : Region.wanted o (yielded ops a.tmps) = true) (m x : Operand) (T E : TypeId) (hop : o.op = Op.lookup T m x false)
    (hT : P.underlying T = some (.map K E)) (z : Value) (hz : ∀ w, (zeroValue E).run P w = .ok z w) (r : Nat) (D : List (α × Value)) (k : α) (hm : a.eval m = .map (some r)) (hx : a.eval x = kk.val k) (h : MapAt w r (ents kk D))
    (v : Value) (hu : (lk D k).getD z = v) (hK : wpList P ops Q rest (a.put o.dst v) w) : wpList P ops Q (o :: rest) a w := by
  refine wpList_want hg fun K' hK' => ?_
  unfold Oper.wp
  simp [execOp, hop, hm, hx, lookup_run1 kk T E z hT hz h k, Result.andThen, hu]
  exact hK' _ _ hK

/-- 'len(m)'; the operation may be guarded. -/
theorem wpList_mlen {ops : Array Oper} {rest : List Oper} {o : Oper} {a : Act} {Q : Exit → Act → World → Prop} {w : World} (hg : Region.wanted o (yielded ops a.tmps) = true) (m : Operand) (T E : TypeId)
    (hop : o.op = Op.call { callee := Callee.builtin Builtin.len, args := #[m], argTypes := #[T] })
    (hT : P.underlying T = some (.map K E)) (r : Nat) (D : List (α × Value)) (hm : a.eval m = .map (some r)) (h : MapAt w r (ents kk D))
    (hK : wpList P ops Q rest (a.put o.dst (.int .i64 D.length)) w) : wpList P ops Q (o :: rest) a w := by
  obtain ⟨es, hh, he, _⟩ := h
  have hl : es.size = D.length := by
    have := congrArg List.length he
    simpa [ents] using this
  refine wpList_want hg fun K' hK' => ?_
  unfold Oper.wp
  simp [execOp, hop, resolve, invoke, builtin, hm, Builtin.len_, run_underlying hT, getObj, Sem.run, hh, Result.andThen, goInt, hl]
  exact hK' _ _ hK

end
end Go.Proofs.Ytbdfcoclmmhblaa
