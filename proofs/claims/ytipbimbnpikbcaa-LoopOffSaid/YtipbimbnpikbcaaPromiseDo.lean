/- Make, Value, Then, Waits of promises. -/
import Derived.Test.YtipbimbnpikbcaaPromise
import Derived.Test.YtipbimbnpikbcaaInts
namespace Go.Proofs.Ytipbimbnpikbcaa
open Go.RowKit

/-- The promise of a number. -/
def prOf (l : List Pr) (id : Int) : Option Pr := if id < 0 then none else l[id.toNat]?
theorem prOf_none {l : List Pr} {id : Int} (h : prOf l id = none) : id < 0 ∨ (l.length : Int) ≤ id := by
  unfold prOf at h
  split at h
  · omega
  · have := List.getElem?_eq_none_iff.1 h
    omega
theorem prOf_some {l : List Pr} {id : Int} {x : Pr} (h : prOf l id = some x) : ∃ i : Nat, id = i ∧ l[i]? = some x := by
  unfold prOf at h
  split at h
  · cases h
  · exact ⟨id.toNat, by omega, h⟩

def makeM (l : List Pr) : List Pr × Nat × Nat := if 512 ≤ l.length then (l, 0, 3) else (l ++ [⟨false, 0, []⟩], l.length, 0)
def valueM (l : List Pr) (id : Int) : Int × Bool × Nat := match prOf l id with | none => (0, false, 2) | some x => (x.value, x.told, 0)
def thenM (l : List Pr) (id react : Int) : List Pr × Int × Bool × Nat :=
  match prOf l id with
  | none => (l, 0, false, 2)
  | some x => if x.told then (l, x.value, true, 0) else if x.q.length < 256 then (l.set id.toNat ⟨x.told, x.value, x.q ++ [react]⟩, 0, false, 0) else (l, 0, false, 140)
def settleM (l : List Pr) (id value : Int) : List Pr × List Int × Nat :=
  match prOf l id with
  | none => (l, [], 2)
  | some x => if x.told then (l, [], 160) else (l.set id.toNat ⟨true, value, []⟩, x.q, 0)
def waitsM (l : List Pr) (id : Int) : Nat := match prOf l id with | none => 0 | some x => x.q.length

theorem PrsAt.set {w w' : World} {b : Nat} {l : List Pr} {os : List (Nat × Nat)} {A : Option Addr} {cap : Nat} {G : Option Nat} (h : PrsAt w b l os A cap G) (i : Nat) (o : Nat × Nat) (ho : os[i]? = some o) (x : Pr) (hx : PrAt w' o.1 o.2 x) (ht : Tch (fun k => k = o.1 ∨ k = o.2) w w') : PrsAt w' b (l.set i x) os A cap G := by
  obtain ⟨n1, n2, n3, n4⟩ := h.ne i o ho
  have hsl := h.sl.keep ht (fun g hg e => by rcases e with rfl | rfl <;> contradiction)
  have hbl := h.blk.keep ht (fun e => by rcases e with e | e; exact n1 e.symm; exact n2 e.symm)
  refine ⟨by rw [List.length_set]; exact hbl, by rw [List.length_set]; exact hsl, by rw [List.length_set]; exact h.len, fun j u y hu hy => ?_, h.apart, h.ne, h.gb, by rw [List.length_set]; exact h.le⟩
  by_cases hij : i = j
  · subst hij
    rw [ho] at hu
    injection hu with hu
    subst hu
    rw [List.getElem?_set_self (by have := (List.getElem?_eq_some_iff.1 ho).1; rw [h.len] at this; exact this)] at hy
    injection hy with hy
    subst hy
    exact hx
  · rw [List.getElem?_set_ne hij] at hy
    obtain ⟨m1, m2, m3, m4⟩ := h.apart i j o u ho hu hij
    exact (h.at_ j u y hu hy).keep ht (fun e => by rcases e with e | e; exact m1 e.symm; exact m3 e.symm) (fun e => by rcases e with e | e; exact m2 e.symm; exact m4 e.symm)

theorem PrsAt.get {w : World} {b : Nat} {l : List Pr} {os : List (Nat × Nat)} {A : Option Addr} {cap : Nat} {G : Option Nat} (h : PrsAt w b l os A cap G) {i : Nat} {x : Pr} (hx : l[i]? = some x) : ∃ o, os[i]? = some o ∧ PrAt w o.1 o.2 x := by
  have hi := (List.getElem?_eq_some_iff.1 hx).1
  rw [← h.len] at hi
  exact ⟨_, List.getElem?_eq_getElem hi, h.at_ i _ x (List.getElem?_eq_getElem hi) hx⟩

theorem promise_value (b : Nat) (l : List Pr) (F : Nat → Prop) (id : Int) (w : World) (h : PrsQ w b l F) :
    Calls Try.prog 36 #[.pointer (some ⟨b, 0, none⟩), .int .i64 id] w fun e w' => e = .returned (.tuple #[.int .i64 (valueM l id).1, .bool (valueM l id).2.1, .int .i64 (valueM l id).2.2]) ∧ ∃ n, w' = w.drewN n := by
  unfold valueM
  cases hp : prOf l id with
  | none =>
    have hid := prOf_none hp
    clear hp
    go_enter Try.func36, Try.ntmps36
    go_wp2_with fail
    refine (promise_find_no b l F id w h hid).mono ?_
    clear hid
    rintro e w' ⟨rfl, rfl⟩
    go_wp2
    go_ret3
    exact ⟨rfl, 0, rfl⟩
  | some x =>
    obtain ⟨i, rfl, hx⟩ := prOf_some hp
    obtain ⟨os, A, cap, G, hP, hF⟩ := h
    obtain ⟨o, ho, hpr⟩ := hP.get hx
    have hc1 := hpr.blk.cellOf 1 _ rfl
    have hc2 := hpr.blk.cellOf 2 _ rfl
    have hfind := promise_find_yes b l os A cap G i o w hP ho
    clear hp hx hP hF hpr ho
    generalize o.1 = p at *
    go_enter Try.func36, Try.ntmps36
    go_wp2_with fail
    refine hfind.mono ?_
    clear hfind
    rintro e w' ⟨rfl, rfl⟩
    go_wp2_with fail
    go_quiet (fail)
    go_wp2
    go_ret3
    exact ⟨rfl, _, rfl⟩

theorem promise_waits (b : Nat) (l : List Pr) (F : Nat → Prop) (id : Int) (w : World) (h : PrsQ w b l F) :
    Calls Try.prog 37 #[.pointer (some ⟨b, 0, none⟩), .int .i64 id] w fun e w' => e = .returned (.int .i64 (waitsM l id)) ∧ w' = w := by
  unfold waitsM
  cases hp : prOf l id with
  | none =>
    have hid := prOf_none hp
    clear hp
    go_enter Try.func37, Try.ntmps37
    go_wp2_with fail
    refine (promise_find_no b l F id w h hid).mono ?_
    clear hid
    rintro e w' ⟨rfl, rfl⟩
    go_wp2
    go_ret
    exact ⟨rfl, rfl⟩
  | some x =>
    obtain ⟨i, rfl, hx⟩ := prOf_some hp
    obtain ⟨os, A, cap, G, hP, hF⟩ := h
    obtain ⟨o, ho, hpr⟩ := hP.get hx
    have hc0 := hpr.blk.cellOf 0 _ rfl
    have hq := hpr.ring
    have hfind := promise_find_yes b l os A cap G i o w hP ho
    clear hp hx hP hF hpr ho
    generalize o.1 = p at *
    generalize o.2 = r at *
    go_enter Try.func37, Try.ntmps37
    go_wp2_with fail
    refine hfind.mono ?_
    clear hfind
    rintro e w' ⟨rfl, rfl⟩
    go_wp2_with fail
    refine (ring_len r 256 _ _ hq).mono ?_
    rintro e w' ⟨rfl, rfl⟩
    go_wp2
    go_ret
    exact ⟨rfl, rfl⟩

theorem promise_then (b : Nat) (l : List Pr) (F : Nat → Prop) (id react : Int) (w : World) (h : PrsQ w b l F) :
    Calls Try.prog 39 #[.pointer (some ⟨b, 0, none⟩), .int .i64 id, .int .i64 react] w fun e w' => e = .returned (.tuple #[.int .i64 (thenM l id react).2.1, .bool (thenM l id react).2.2.1, .int .i64 (thenM l id react).2.2.2]) ∧ PrsQ w' b (thenM l id react).1 F ∧ Tch F w w' := by
  unfold thenM
  cases hp : prOf l id with
  | none =>
    have hid := prOf_none hp
    clear hp
    go_enter Try.func39, Try.ntmps39
    go_wp2_with fail
    refine (promise_find_no b l F id w h hid).mono ?_
    clear hid
    rintro e w' ⟨rfl, rfl⟩
    go_wp2
    go_ret3
    exact ⟨rfl, h, Tch.refl _ _⟩
  | some x =>
    obtain ⟨i, rfl, hx⟩ := prOf_some hp
    obtain ⟨os, A, cap, G, hP, hF⟩ := h
    obtain ⟨o, ho, hpr⟩ := hP.get hx
    have hc0 := hpr.blk.cellOf 0 _ rfl
    have hc1 := hpr.blk.cellOf 1 _ rfl
    have hc2 := hpr.blk.cellOf 2 _ rfl
    have hq := hpr.ring
    have hle := hq.le
    have hfind := promise_find_yes b l os A cap G i o w hP ho
    have HO := Lib.hid ho
    have HF := Lib.hid hF
    obtain ⟨told, value, q⟩ := x
    clear hp hx ho hF
    dsimp only at *
    cases told with
    | true =>
      clear hpr
      go_enter Try.func39, Try.ntmps39
      go_wp2_with fail
      refine hfind.mono ?_
      clear hfind
      rintro e w' ⟨rfl, rfl⟩
      go_wp2
      go_ret3
      exact ⟨rfl, ⟨os, A, cap, G, hP, HF.out⟩, Tch.refl _ _⟩
    | false =>
      by_cases hl : q.length < 256
      · simp only [if_pos hl, Int.toNat_natCast]
        have HP := Lib.hid hP
        have HPR := Lib.hid hpr
        clear hP hpr
        obtain ⟨p, r⟩ := o
        dsimp only at *
        go_enter Try.func39, Try.ntmps39
        go_wp2_with fail
        refine hfind.mono ?_
        clear hfind
        rintro e w0 ⟨rfl, h0⟩
        subst w0
        go_wp2_with fail
        refine (ring_put_yes r 256 q react _ hq hl).mono ?_
        rintro e w1 ⟨rfl, hq1, hT1⟩
        go_wp2
        go_ret3
        have hpr1 : PrAt w1 p r ⟨false, value, q ++ [react]⟩ := ⟨HPR.out.blk.keep hT1 HPR.out.ne, hq1, HPR.out.ne⟩
        exact ⟨rfl, ⟨os, A, cap, G, HP.out.set i (p, r) HO.out _ hpr1 (hT1.mono (fun _ _ h => .inr h)), HF.out⟩, hT1.mono (fun k _ e => (HF.out k).2 (.inr (.inr ⟨i, (p, r), HO.out, .inr e⟩)))⟩
      · simp only [if_neg hl]
        have HP := Lib.hid hP
        clear hP hpr
        obtain ⟨p, r⟩ := o
        dsimp only at *
        go_enter Try.func39, Try.ntmps39
        go_wp2_with fail
        refine hfind.mono ?_
        clear hfind
        rintro e w0 ⟨rfl, h0⟩
        subst w0
        go_wp2_with fail
        refine (ring_put_no r 256 q react _ hq (by omega)).mono ?_
        rintro e w1 ⟨rfl, hq1, hT1⟩
        go_wp2
        go_ret3
        exact ⟨rfl, ⟨os, A, cap, G, HP.out.keep hT1 (fun _ _ h => h), HF.out⟩, hT1.mono (fun _ _ h => h.elim)⟩
end Go.Proofs.Ytipbimbnpikbcaa
