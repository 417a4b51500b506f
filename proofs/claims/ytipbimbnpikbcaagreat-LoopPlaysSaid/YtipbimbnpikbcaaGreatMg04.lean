import Derived.Test.YtipbimbnpikbcaaGreatMg03
import Derived.Test.YtipbimbnpikbcaaGreatMg02
import Derived.BigRegion
/- Make, Value, Then, Waits of promises. -/
namespace Go.Proofs.YtipbimbnpikbcaaGreat
open Go.RowKit

/-- The promise of a number. -/
def prOf (l : List Pr) (id : Int) : Option Pr := if id < 0 then none else l[id.toNat]?
theorem prOf_none {l : List Pr} {id : Int} (h : prOf l id = none) : id < 0 ∨ (l.length : Int) ≤ id := by
  unfold prOf at h
  split at h
  · omega
  · have := List.getElem?_eq_none_iff.1 h
    omega
theorem prOf_some {l : List Pr} {id : Int} {x : Pr} (h : prOf l id = some x) : ∃ i : Nat, id = i ∧ l[i]? = some x := by
  unfold prOf at h
  split at h
  · cases h
  · exact ⟨id.toNat, by omega, h⟩

def makeM (l : List Pr) : List Pr × Nat × Nat := if 512 ≤ l.length then (l, 0, 3) else (l ++ [⟨false, 0, []⟩], l.length, 0)
def valueM (l : List Pr) (id : Int) : Int × Bool × Nat := match prOf l id with | none => (0, false, 2) | some x => (x.value, x.told, 0)
def thenM (l : List Pr) (id react : Int) : List Pr × Int × Bool × Nat :=
  match prOf l id with
  | none => (l, 0, false, 2)
  | some x => if x.told then (l, x.value, true, 0) else if x.q.length < 256 then (l.set id.toNat ⟨x.told, x.value, x.q ++ [react]⟩, 0, false, 0) else (l, 0, false, 140)
def settleM (l : List Pr) (id value : Int) : List Pr × List Int × Nat :=
  match prOf l id with
  | none => (l, [], 2)
  | some x => if x.told then (l, [], 160) else (l.set id.toNat ⟨true, value, []⟩, x.q, 0)
def waitsM (l : List Pr) (id : Int) : Nat := match prOf l id with | none => 0 | some x => x.q.length

theorem PrsAt.set {w w' : World} {b : Nat} {l : List Pr} {os : List (Nat × Nat)} {A : Option Addr} {cap : Nat} {G : Option Nat} (h : PrsAt w b l os A cap G) (i : Nat) (o : Nat × Nat) (ho : os[i]? = some o) (x : Pr) (hx : PrAt w' o.1 o.2 x) (ht : Tch (fun k => k = o.1 ∨ k = o.2) w w') : PrsAt w' b (l.set i x) os A cap G := by
  obtain ⟨n1, n2, n3, n4⟩ := h.ne i o ho
  have hsl := h.sl.keep ht (fun g hg e => by rcases e with rfl | rfl <;> contradiction)
  have hbl := h.blk.keep ht (fun e => by rcases e with e | e; exact n1 e.symm; exact n2 e.symm)
  refine ⟨by rw [List.length_set]; exact hbl, by rw [List.length_set]; exact hsl, by rw [List.length_set]; exact h.len, fun j u y hu hy => ?_, h.apart, h.ne, h.gb, by rw [List.length_set]; exact h.le⟩
  by_cases hij : i = j
  · subst hij
    rw [ho] at hu
    injection hu with hu
    subst hu
    rw [List.getElem?_set_self (by have := (List.getElem?_eq_some_iff.1 ho).1; rw [h.len] at this; exact this)] at hy
    injection hy with hy
    subst hy
    exact hx
  · rw [List.getElem?_set_ne hij] at hy
    obtain ⟨m1, m2, m3, m4⟩ := h.apart i j o u ho hu hij
    exact (h.at_ j u y hu hy).keep ht (fun e => by rcases e with e | e; exact m1 e.symm; exact m3 e.symm) (fun e => by rcases e with e | e; exact m2 e.symm; exact m4 e.symm)

theorem PrsAt.get {w : World} {b : Nat} {l : List Pr} {os : List (Nat × Nat)} {A : Option Addr} {cap : Nat} {G : Option Nat} (h : PrsAt w b l os A cap G) {i : Nat} {x : Pr} (hx : l[i]? = some x) : ∃ o, os[i]? = some o ∧ PrAt w o.1 o.2 x := by
  have hi := (List.getElem?_eq_some_iff.1 hx).1
  rw [← h.len] at hi
  exact ⟨_, List.getElem?_eq_getElem hi, h.at_ i _ x (List.getElem?_eq_getElem hi) hx⟩

theorem promise_value (b : Nat) (l : List Pr) (F : Nat → Prop) (id : Int) (w : World) (h : PrsQ w b l F) :
    Calls Tryz.prog 58 #[.pointer (some ⟨b, 0, none⟩), .int .i64 id] w fun e w' => e = .returned (.tuple #[.int .i64 (valueM l id).1, .bool (valueM l id).2.1, .int .i64 (valueM l id).2.2]) ∧ ∃ n, w' = w.drewN n := by
  unfold valueM
  cases hp : prOf l id with
  | none =>
    have hid := prOf_none hp
    clear hp
    go_enter Tryz.func58, Tryz.ntmps58
    go_wp2_with fail
    refine (promise_find_no b l F id w h hid).mono ?_
    clear hid
    rintro e w' ⟨rfl, rfl⟩
    go_wp2
    go_ret3
    exact ⟨rfl, 0, rfl⟩
  | some x =>
    obtain ⟨i, rfl, hx⟩ := prOf_some hp
    obtain ⟨os, A, cap, G, hP, hF⟩ := h
    obtain ⟨o, ho, hpr⟩ := hP.get hx
    have hc1 := hpr.blk.cellOf 1 _ rfl
    have hc2 := hpr.blk.cellOf 2 _ rfl
    have hfind := promise_find_yes b l os A cap G i o w hP ho
    clear hp hx hP hF hpr ho
    generalize o.1 = p at *
    go_enter Tryz.func58, Tryz.ntmps58
    go_wp2_with fail
    refine hfind.mono ?_
    clear hfind
    rintro e w' ⟨rfl, rfl⟩
    go_wp2_with fail
    go_quiet (fail)
    go_wp2
    go_ret3
    exact ⟨rfl, _, rfl⟩

theorem promise_waits (b : Nat) (l : List Pr) (F : Nat → Prop) (id : Int) (w : World) (h : PrsQ w b l F) :
    Calls Tryz.prog 59 #[.pointer (some ⟨b, 0, none⟩), .int .i64 id] w fun e w' => e = .returned (.int .i64 (waitsM l id)) ∧ w' = w := by
  unfold waitsM
  cases hp : prOf l id with
  | none =>
    have hid := prOf_none hp
    clear hp
    go_enter Tryz.func59, Tryz.ntmps59
    go_wp2_with fail
    refine (promise_find_no b l F id w h hid).mono ?_
    clear hid
    rintro e w' ⟨rfl, rfl⟩
    go_wp2
    go_ret
    exact ⟨rfl, rfl⟩
  | some x =>
    obtain ⟨i, rfl, hx⟩ := prOf_some hp
    obtain ⟨os, A, cap, G, hP, hF⟩ := h
    obtain ⟨o, ho, hpr⟩ := hP.get hx
    have hc0 := hpr.blk.cellOf 0 _ rfl
    have hq := hpr.ring
    have hfind := promise_find_yes b l os A cap G i o w hP ho
    clear hp hx hP hF hpr ho
    generalize o.1 = p at *
    generalize o.2 = r at *
    go_enter Tryz.func59, Tryz.ntmps59
    go_wp2_with fail
    refine hfind.mono ?_
    clear hfind
    rintro e w' ⟨rfl, rfl⟩
    go_wp2_with fail
    refine (ring_len r 256 _ _ hq).mono ?_
    rintro e w' ⟨rfl, rfl⟩
    go_wp2
    go_ret
    exact ⟨rfl, rfl⟩

theorem promise_then (b : Nat) (l : List Pr) (F : Nat → Prop) (id react : Int) (w : World) (h : PrsQ w b l F) :
    Calls Tryz.prog 61 #[.pointer (some ⟨b, 0, none⟩), .int .i64 id, .int .i64 react] w fun e w' => e = .returned (.tuple #[.int .i64 (thenM l id react).2.1, .bool (thenM l id react).2.2.1, .int .i64 (thenM l id react).2.2.2]) ∧ PrsQ w' b (thenM l id react).1 F ∧ Tch F w w' := by
  unfold thenM
  cases hp : prOf l id with
  | none =>
    have hid := prOf_none hp
    clear hp
    go_enter Tryz.func61, Tryz.ntmps61
    go_wp2_with fail
    refine (promise_find_no b l F id w h hid).mono ?_
    clear hid
    rintro e w' ⟨rfl, rfl⟩
    go_wp2
    go_ret3
    exact ⟨rfl, h, Tch.refl _ _⟩
  | some x =>
    obtain ⟨i, rfl, hx⟩ := prOf_some hp
    obtain ⟨os, A, cap, G, hP, hF⟩ := h
    obtain ⟨o, ho, hpr⟩ := hP.get hx
    have hc0 := hpr.blk.cellOf 0 _ rfl
    have hc1 := hpr.blk.cellOf 1 _ rfl
    have hc2 := hpr.blk.cellOf 2 _ rfl
    have hq := hpr.ring
    have hle := hq.le
    have hfind := promise_find_yes b l os A cap G i o w hP ho
    have HO := Lib.hid ho
    have HF := Lib.hid hF
    obtain ⟨told, value, q⟩ := x
    clear hp hx ho hF
    dsimp only at *
    cases told with
    | true =>
      clear hpr
      go_enter Tryz.func61, Tryz.ntmps61
      go_wp2_with fail
      refine hfind.mono ?_
      clear hfind
      rintro e w' ⟨rfl, rfl⟩
      go_wp2
      go_ret3
      exact ⟨rfl, ⟨os, A, cap, G, hP, HF.out⟩, Tch.refl _ _⟩
    | false =>
      by_cases hl : q.length < 256
      · simp only [if_pos hl, Int.toNat_natCast]
        have HP := Lib.hid hP
        have HPR := Lib.hid hpr
        clear hP hpr
        obtain ⟨p, r⟩ := o
        dsimp only at *
        go_enter Tryz.func61, Tryz.ntmps61
        go_wp2_with fail
        refine hfind.mono ?_
        clear hfind
        rintro e w0 ⟨rfl, h0⟩
        subst w0
        go_wp2_with fail
        refine (ring_put_yes r 256 q react _ hq hl).mono ?_
        rintro e w1 ⟨rfl, hq1, hT1⟩
        go_wp2
        go_ret3
        have hpr1 : PrAt w1 p r ⟨false, value, q ++ [react]⟩ := ⟨HPR.out.blk.keep hT1 HPR.out.ne, hq1, HPR.out.ne⟩
        exact ⟨rfl, ⟨os, A, cap, G, HP.out.set i (p, r) HO.out _ hpr1 (hT1.mono (fun _ _ h => .inr h)), HF.out⟩, hT1.mono (fun k _ e => (HF.out k).2 (.inr (.inr ⟨i, (p, r), HO.out, .inr e⟩)))⟩
      · simp only [if_neg hl]
        have HP := Lib.hid hP
        clear hP hpr
        obtain ⟨p, r⟩ := o
        dsimp only at *
        go_enter Tryz.func61, Tryz.ntmps61
        go_wp2_with fail
        refine hfind.mono ?_
        clear hfind
        rintro e w0 ⟨rfl, h0⟩
        subst w0
        go_wp2_with fail
        refine (ring_put_no r 256 q react _ hq (by omega)).mono ?_
        rintro e w1 ⟨rfl, hq1, hT1⟩
        go_wp2
        go_ret3
        exact ⟨rfl, ⟨os, A, cap, G, HP.out.keep hT1 (fun _ _ h => h), HF.out⟩, hT1.mono (fun _ _ h => h.elim)⟩
end Go.Proofs.YtipbimbnpikbcaaGreat

/- Stream: values, who waits to read, who to write: what its functions do, said of three lists. -/
namespace Go.Proofs.YtipbimbnpikbcaaGreat
open Go.RowKit

/-- Values, who waits to read, who waits to write and what. -/
structure St where
  bf : List Int
  rd : List Int
  wr : List (Int × Int)

def writeM (room : Nat) (s : St) (value who : Int) : St × List (Int × Int) × Int :=
  match s.rd with
  | r :: rd => (⟨s.bf, rd, s.wr⟩, [(r, value), (who, value)], 0)
  | [] =>
    if s.bf.length < room then (⟨s.bf ++ [value], [], s.wr⟩, [(who, value)], 0) else
    if s.wr.length < 64 then (⟨s.bf, [], s.wr ++ [(who, value)]⟩, [], 0) else (s, [], 140)

def readM (s : St) (who : Int) : St × List (Int × Int) × Int :=
  match s.bf with
  | [] => if s.rd.length < 64 then (⟨[], s.rd ++ [who], s.wr⟩, [], 0) else (s, [], 140)
  | v :: bf =>
    match s.wr with
    | [] => (⟨bf, s.rd, []⟩, [(who, v)], 0)
    | p :: wr => (⟨bf ++ [p.2], s.rd, wr⟩, [(who, v), p], 0)

def gots (l : List (Int × Int)) : List Value := l.flatMap fun p => [.int .i64 p.1, .int .i64 p.2]
theorem gots_cons (p : Int × Int) (l : List (Int × Int)) : gots (p :: l) = .int .i64 p.1 :: .int .i64 p.2 :: gots l := rfl
theorem gots_app (l m : List (Int × Int)) : gots (l ++ m) = gots l ++ gots m := by simp [gots]
theorem gots_length (l : List (Int × Int)) : (gots l).length = l.length * 2 := by
  induction l with
  | nil => rfl
  | cons p l ih => rw [gots_cons, List.length_cons, List.length_cons, ih, List.length_cons]; omega
theorem gots_one (l : List (Int × Int)) : ∀ u ∈ gots l, u.oneCell' = true := by
  intro u hu
  simp only [gots, List.mem_flatMap, List.mem_cons, List.not_mem_nil, or_false] at hu
  obtain ⟨p, _, rfl | rfl⟩ := hu <;> rfl

theorem infoGot : (Tryz.prog.info? 144).map (fun i => (i.zero, i.size, i.bytes)) = some (some (.agg #[.int .i64 0, .int .i64 0]), 2, 16) := by kernel_rfl

def ptr (b : Nat) : Value := .pointer (some ⟨b, 0, none⟩)

structure StreamAt (w : World) (b room : Nat) (s : St) (v r k t : Nat) : Prop where
  blk : Blk w b 139 [.pointer (some ⟨v, 0, none⟩), .pointer (some ⟨r, 0, none⟩), .pointer (some ⟨k, 0, none⟩), .pointer (some ⟨t, 0, none⟩)]
  vq : RingQ w v room s.bf
  rq : RingQ w r 64 s.rd
  kq : RingQ w k 64 (s.wr.map (·.1))
  tq : RingQ w t 64 (s.wr.map (·.2))
  nd : b ≠ v ∧ b ≠ r ∧ b ≠ k ∧ b ≠ t ∧ v ≠ r ∧ v ≠ k ∧ v ≠ t ∧ r ≠ k ∧ r ≠ t ∧ k ≠ t

/-- The stream at block b has room for so many, and is s; it lies in the blocks of F alone. -/
def StreamQ (w : World) (b room : Nat) (s : St) (F : Nat → Prop) : Prop :=
  ∃ v r k t, StreamAt w b room s v r k t ∧ ∀ i, F i ↔ i = b ∨ i = v ∨ i = r ∨ i = k ∨ i = t

theorem StreamQ.keep {w w' : World} {b room : Nat} {s : St} {F S : Nat → Prop} (h : StreamQ w b room s F) (ht : Tch S w w') (hS : ∀ i, F i → ¬ S i) : StreamQ w' b room s F := by
  obtain ⟨v, r, k, t, h, hF⟩ := h
  exact ⟨v, r, k, t, ⟨h.blk.keep ht (hS _ ((hF _).2 (.inl rfl))), h.vq.keep ht (hS _ ((hF _).2 (.inr (.inl rfl)))), h.rq.keep ht (hS _ ((hF _).2 (.inr (.inr (.inl rfl))))), h.kq.keep ht (hS _ ((hF _).2 (.inr (.inr (.inr (.inl rfl)))))), h.tq.keep ht (hS _ ((hF _).2 (.inr (.inr (.inr (.inr rfl))))))  , h.nd⟩, hF⟩
theorem StreamQ.lt {w : World} {b room : Nat} {s : St} {F : Nat → Prop} (h : StreamQ w b room s F) : ∀ i, F i → i < w.heap.size := by
  obtain ⟨v, r, k, t, h, hF⟩ := h
  intro i hi
  rcases (hF i).1 hi with rfl | rfl | rfl | rfl | rfl
  · exact h.blk.lt
  · exact h.vq.lt
  · exact h.rq.lt
  · exact h.kq.lt
  · exact h.tq.lt
theorem StreamQ.bounds {w : World} {b room : Nat} {s : St} {F : Nat → Prop} (h : StreamQ w b room s F) : s.bf.length ≤ room ∧ s.rd.length ≤ 64 ∧ s.wr.length ≤ 64 := by
  obtain ⟨v, r, k, t, h, hF⟩ := h
  have := h.kq.le
  simp at this
  exact ⟨h.vq.le, h.rq.le, this⟩

/-- What was told: a row of its own, laid since w; and the error. -/
def Told (w w' : World) (e : Ending) (l : List (Int × Int)) (en : Int) : Prop :=
  ∃ A cap G, e = .returned (.tuple #[.slice A l.length cap, .int .i64 en]) ∧ Sl w' 144 2 A l.length cap (gots l) G ∧ ∀ g, G = some g → w.heap.size ≤ g

theorem Told.no (w w' : World) (en : Int) : Told w w' (.returned (.tuple #[.slice none 0 0, .int .i64 en])) [] en := ⟨_, _, _, rfl, Sl.nil _ _ _, own_none⟩
theorem Told.one (w w1 : World) (a v : Int) (h : w.heap.size ≤ w1.heap.size) : Told w (w1.alloc (.cells #[.int .i64 a, .int .i64 v] 144)) (.returned (.tuple #[.slice (some ⟨w1.heap.size, 0, none⟩) 1 1, .int .i64 0])) [(a, v)] 0 :=
  ⟨_, _, _, rfl, Sl.made w1 144 #[.int .i64 a, .int .i64 v] 1 rfl (by omega), own_some h⟩
theorem Told.two (w w1 : World) (a v c u : Int) (h : w.heap.size ≤ w1.heap.size) : Told w (w1.alloc (.cells #[.int .i64 a, .int .i64 v, .int .i64 c, .int .i64 u] 144)) (.returned (.tuple #[.slice (some ⟨w1.heap.size, 0, none⟩) 2 2, .int .i64 0])) [(a, v), (c, u)] 0 :=
  ⟨_, _, _, rfl, Sl.made w1 144 #[.int .i64 a, .int .i64 v, .int .i64 c, .int .i64 u] 2 rfl (by omega), own_some h⟩

theorem stream_write (b room : Nat) (s : St) (F : Nat → Prop) (value who : Int) (w : World) (h : StreamQ w b room s F) :
    Calls Tryz.prog 65 #[.pointer (some ⟨b, 0, none⟩), .int .i64 value, .int .i64 who] w fun e w' =>
      Told w w' e (writeM room s value who).2.1 (writeM room s value who).2.2 ∧ StreamQ w' b room (writeM room s value who).1 F ∧ Tch F w w' := by
  obtain ⟨v, r, k, t, h, hF⟩ := h
  obtain ⟨bf, rd, wr⟩ := s
  have hc0 := h.blk.cellOf 0 _ rfl
  have hc1 := h.blk.cellOf 1 _ rfl
  have hc2 := h.blk.cellOf 2 _ rfl
  have hc3 := h.blk.cellOf 3 _ rfl
  obtain ⟨hb, hv, hr, hk, ht, n1, n2, n3, n4, n5, n6, n7, n8, n9, n10⟩ := h
  dsimp only at hv hr hk ht
  cases rd with
  | cons x rd =>
    have hF' := Lib.hid hF
    clear hF
    go_enter Tryz.func65, Tryz.ntmps65
    go_wp2_with fail
    refine (ring_take_yes r 64 x rd _ hr).mono ?_
    rintro e w1 ⟨rfl, hr1, hT1⟩
    go_wp2
    go_ret2
    have hT := hT1.alloc (.cells #[.int .i64 x, .int .i64 value, .int .i64 who, .int .i64 value] 144)
    have hN := (Tch.refl NoBlk w1).alloc (.cells #[.int .i64 x, .int .i64 value, .int .i64 who, .int .i64 value] 144)
    refine ⟨Told.two w w1 x value who value hT1.size, ⟨v, r, k, t, ⟨hb.keep hT n2, hv.keep hT n5, hr1.keep hN (fun h => h), hk.keep hT (Ne.symm n8), ht.keep hT (Ne.symm n9), n1, n2, n3, n4, n5, n6, n7, n8, n9, n10⟩, hF'.out⟩, hT.mono (fun i _ e => (hF'.out i).2 (.inr (.inr (.inl e))))⟩
  | nil =>
    by_cases hl : bf.length < room
    · have HM : Hid (writeM room ⟨bf, [], wr⟩ value who = (⟨bf ++ [value], [], wr⟩, [(who, value)], 0)) := Lib.hid (by simp only [writeM]; rw [if_pos hl])
      have hF' := Lib.hid hF
      clear hF
      rw [HM.out]
      go_enter Tryz.func65, Tryz.ntmps65
      go_wp2_with fail
      refine (ring_take_no r 64 _ hr).mono ?_
      rintro e w0 ⟨rfl, h0⟩; subst w0
      go_wp2_with fail
      refine (ring_put_yes v room bf value _ hv hl).mono ?_
      rintro e w1 ⟨rfl, hv1, hT1⟩
      go_wp2
      go_ret2
      have hT := hT1.alloc (.cells #[.int .i64 who, .int .i64 value] 144)
      have hN := (Tch.refl NoBlk w1).alloc (.cells #[.int .i64 who, .int .i64 value] 144)
      refine ⟨Told.one w w1 who value hT1.size, ⟨v, r, k, t, ⟨hb.keep hT n1, hv1.keep hN (fun h => h), hr.keep hT (Ne.symm n5), hk.keep hT (Ne.symm n6), ht.keep hT (Ne.symm n7), n1, n2, n3, n4, n5, n6, n7, n8, n9, n10⟩, hF'.out⟩, hT.mono (fun i _ e => (hF'.out i).2 (.inr (.inl e)))⟩
    · have hle := hv.le
      have hlk := hk.le
      simp at hlk
      by_cases hw : wr.length < 64
      · have HM : Hid (writeM room ⟨bf, [], wr⟩ value who = (⟨bf, [], wr ++ [(who, value)]⟩, [], 0)) := Lib.hid (by simp only [writeM]; rw [if_neg hl, if_pos hw])
        have hF' := Lib.hid hF
        clear hF
        rw [HM.out]
        have hlk1 : (wr.map (·.1)).length < 64 := by simpa using hw
        have hlk2 : (wr.map (·.2)).length < 64 := by simpa using hw
        go_enter Tryz.func65, Tryz.ntmps65
        go_wp2_with fail
        refine (ring_take_no r 64 _ hr).mono ?_
        rintro e w0 ⟨rfl, h0⟩; subst w0
        go_wp2_with fail
        refine (ring_put_no v room bf value _ hv (by omega)).mono ?_
        rintro e w1 ⟨rfl, hv1, hT1⟩
        have hk1 := hk.keep hT1 (fun h => h)
        have h31 := hT1.cell' hc3 (fun h => h)
        have h21 := hT1.cell' hc2 (fun h => h)
        go_wp2_with fail
        refine (ring_put_yes k 64 _ who _ hk1 hlk1).mono ?_
        rintro e w2 ⟨rfl, hk2, hT2⟩
        have h32 := hT2.cell' h31 n3
        have ht2 := (ht.keep hT1 (fun h => h)).keep hT2 (Ne.symm n10)
        go_wp2_with fail
        refine (ring_put_yes t 64 _ value _ ht2 hlk2).mono ?_
        rintro e w3 ⟨rfl, ht3, hT3⟩
        go_wp2
        go_ret2
        have hT : Tch (fun i => i = k ∨ i = t) w w3 := ((hT1.mono (fun _ _ h => h.elim)).trans (hT2.mono (fun _ _ h => .inl h))).trans (hT3.mono (fun _ _ h => .inr h))
        have hT23 : Tch (fun i => i = k ∨ i = t) w1 w3 := (hT2.mono (fun _ _ h => .inl h)).trans (hT3.mono (fun _ _ h => .inr h))
        refine ⟨Told.no w w3 0, ⟨v, r, k, t, ⟨hb.keep hT (fun h => h.elim n3 n4), hv1.keep hT23 (fun h => h.elim n6 n7), hr.keep hT (fun h => h.elim n8 n9), ?_, ?_, n1, n2, n3, n4, n5, n6, n7, n8, n9, n10⟩, hF'.out⟩, hT.mono (fun i _ e => (hF'.out i).2 (.inr (.inr (.inr e))))⟩
        · have := hk2.keep hT3 n10
          simpa using this
        · simpa using ht3
      · have HM : Hid (writeM room ⟨bf, [], wr⟩ value who = (⟨bf, [], wr⟩, [], 140)) := Lib.hid (by simp only [writeM]; rw [if_neg hl, if_neg hw])
        have hF' := Lib.hid hF
        clear hF
        rw [HM.out]
        have hlk1 : (wr.map (·.1)).length = 64 := by simp; omega
        go_enter Tryz.func65, Tryz.ntmps65
        go_wp2_with fail
        refine (ring_take_no r 64 _ hr).mono ?_
        rintro e w0 ⟨rfl, h0⟩; subst w0
        go_wp2_with fail
        refine (ring_put_no v room bf value _ hv (by omega)).mono ?_
        rintro e w1 ⟨rfl, hv1, hT1⟩
        have hk1 := hk.keep hT1 (fun h => h)
        have h21 := hT1.cell' hc2 (fun h => h)
        go_wp2_with fail
        refine (ring_put_no k 64 _ who _ hk1 hlk1).mono ?_
        rintro e w2 ⟨rfl, hk2, hT2⟩
        go_wp2
        go_ret2
        have hT : Tch NoBlk w w2 := hT1.trans hT2
        refine ⟨Told.no w w2 140, ⟨v, r, k, t, ⟨hb.keep hT (fun h => h), hv1.keep hT2 (fun h => h), hr.keep hT (fun h => h), hk2, ht.keep hT (fun h => h), n1, n2, n3, n4, n5, n6, n7, n8, n9, n10⟩, hF'.out⟩, hT.mono (fun i _ e => e.elim)⟩

theorem stream_read (b room : Nat) (s : St) (F : Nat → Prop) (who : Int) (w : World) (h : StreamQ w b room s F) :
    Calls Tryz.prog 66 #[.pointer (some ⟨b, 0, none⟩), .int .i64 who] w fun e w' =>
      Told w w' e (readM s who).2.1 (readM s who).2.2 ∧ StreamQ w' b room (readM s who).1 F ∧ Tch F w w' := by
  obtain ⟨v, r, k, t, h, hF⟩ := h
  obtain ⟨bf, rd, wr⟩ := s
  have hc0 := h.blk.cellOf 0 _ rfl
  have hc1 := h.blk.cellOf 1 _ rfl
  have hc2 := h.blk.cellOf 2 _ rfl
  have hc3 := h.blk.cellOf 3 _ rfl
  obtain ⟨hb, hv, hr, hk, ht, n1, n2, n3, n4, n5, n6, n7, n8, n9, n10⟩ := h
  dsimp only at hv hr hk ht
  have hF' := Lib.hid hF
  clear hF
  cases bf with
  | nil =>
    by_cases hl : rd.length < 64
    · have HM : Hid (readM ⟨[], rd, wr⟩ who = (⟨[], rd ++ [who], wr⟩, [], 0)) := Lib.hid (by simp only [readM]; rw [if_pos hl])
      rw [HM.out]
      go_enter Tryz.func66, Tryz.ntmps66
      go_wp2_with fail
      refine (ring_take_no v room _ hv).mono ?_
      rintro e w0 ⟨rfl, h0⟩; subst w0
      go_wp2_with fail
      refine (ring_put_yes r 64 rd who _ hr hl).mono ?_
      rintro e w1 ⟨rfl, hr1, hT⟩
      go_wp2
      go_ret2
      exact ⟨Told.no w w1 0, ⟨v, r, k, t, ⟨hb.keep hT n2, hv.keep hT n5, hr1, hk.keep hT (Ne.symm n8), ht.keep hT (Ne.symm n9), n1, n2, n3, n4, n5, n6, n7, n8, n9, n10⟩, hF'.out⟩, hT.mono (fun i _ e => (hF'.out i).2 (.inr (.inr (.inl e))))⟩
    · have HM : Hid (readM ⟨[], rd, wr⟩ who = (⟨[], rd, wr⟩, [], 140)) := Lib.hid (by simp only [readM]; rw [if_neg hl])
      have hle := hr.le
      rw [HM.out]
      go_enter Tryz.func66, Tryz.ntmps66
      go_wp2_with fail
      refine (ring_take_no v room _ hv).mono ?_
      rintro e w0 ⟨rfl, h0⟩; subst w0
      go_wp2_with fail
      refine (ring_put_no r 64 rd who _ hr (by omega)).mono ?_
      rintro e w1 ⟨rfl, hr1, hT⟩
      go_wp2
      go_ret2
      exact ⟨Told.no w w1 140, ⟨v, r, k, t, ⟨hb.keep hT (fun h => h), hv.keep hT (fun h => h), hr1, hk.keep hT (fun h => h), ht.keep hT (fun h => h), n1, n2, n3, n4, n5, n6, n7, n8, n9, n10⟩, hF'.out⟩, hT.mono (fun i _ e => e.elim)⟩
  | cons x bf =>
    have hvl := hv.le
    simp at hvl
    cases wr with
    | nil =>
      go_enter Tryz.func66, Tryz.ntmps66
      go_wp2_with fail
      refine (ring_take_yes v room x bf _ hv).mono ?_
      rintro e w1 ⟨rfl, hv1, hT1⟩
      have hT := hT1.alloc (.cells #[.int .i64 who, .int .i64 x] 144)
      have hN := (Tch.refl NoBlk w1).alloc (.cells #[.int .i64 who, .int .i64 x] 144)
      have hkA := hk.keep hT (Ne.symm n6)
      have h2A := hT.cell' hc2 n1
      go_wp2_with fail
      refine (ring_take_no k 64 _ hkA).mono ?_
      rintro e w0 ⟨rfl, h0⟩; subst w0
      go_wp2
      go_ret2
      exact ⟨Told.one w w1 who x hT1.size, ⟨v, r, k, t, ⟨hb.keep hT n1, hv1.keep hN (fun h => h), hr.keep hT (Ne.symm n5), hkA, ht.keep hT (Ne.symm n7), n1, n2, n3, n4, n5, n6, n7, n8, n9, n10⟩, hF'.out⟩, hT.mono (fun i _ e => (hF'.out i).2 (.inr (.inl e)))⟩
    | cons p wr =>
      obtain ⟨p1, p2⟩ := p
      have hlk := hk.le
      simp at hlk
      go_enter Tryz.func66, Tryz.ntmps66
      go_wp2_with fail
      refine (ring_take_yes v room x bf _ hv).mono ?_
      rintro e w1 ⟨rfl, hv1, hT1⟩
      have hN := (Tch.refl NoBlk w1).alloc (.cells #[.int .i64 who, .int .i64 x] 144)
      have hTA := hT1.alloc (.cells #[.int .i64 who, .int .i64 x] 144)
      have hvA := hv1.keep hN (fun h => h)
      have hkA := hk.keep hTA (Ne.symm n6)
      have htA := ht.keep hTA (Ne.symm n7)
      have h2A := hTA.cell' hc2 n1
      have h3A := hTA.cell' hc3 n1
      have h0A := hTA.cell' hc0 n1
      have hS1 := Sl.made w1 144 #[.int .i64 who, .int .i64 x] 1 (sz := 2) rfl (by omega)
      have hs1 := hT1.size
      have lb := hb.lt
      have lv := hv.lt
      have lr := hr.lt
      have lk' := hk.lt
      have lt' := ht.lt
      go_wp2_with fail
      refine (ring_take_yes k 64 p1 (wr.map (·.1)) _ hkA).mono ?_
      rintro e w2 ⟨rfl, hk2, hT2⟩
      have ht2 := htA.keep hT2 (Ne.symm n10)
      have hv2 := hvA.keep hT2 n6
      have h32 := hT2.cell' h3A n3
      have h02 := hT2.cell' h0A n3
      have hS2 := hS1.keep hT2 (fun g hg e => by injection hg with hg; omega)
      go_wp2_with fail
      refine (ring_take_yes t 64 p2 (wr.map (·.2)) _ ht2).mono ?_
      rintro e w3 ⟨rfl, ht3, hT3⟩
      have hv3 := hv2.keep hT3 n7
      have hk3 := hk2.keep hT3 n10
      have h03 := hT3.cell' h02 n4
      have hS3 := hS2.keep hT3 (fun g hg e => by injection hg with hg; omega)
      go_wp2_with fail
      refine (ring_put_yes v room bf p2 _ hv3 (by omega)).mono ?_
      rintro e w4 ⟨rfl, hv4, hT4⟩
      have hS4 := hS3.keep hT4 (fun g hg e => by injection hg with hg; omega)
      have hT : Tch (fun i => i = v ∨ i = k ∨ i = t) w w4 := (((hTA.mono (fun _ _ h => .inl h)).trans (hT2.mono (fun _ _ h => .inr (.inl h)))).trans (hT3.mono (fun _ _ h => .inr (.inr h)))).trans (hT4.mono (fun _ _ h => .inl h))
      have HT := Lib.hid hT
      have h4s := hT4.size
      have h3s := hT3.size
      have h2s := hT2.size
      simp only [World.size_alloc] at h2s
      have hk4 := hk3.keep hT4 (Ne.symm n6)
      have ht4 := ht3.keep hT4 (Ne.symm n7)
      clear hT1 hTA hT2 hT3 hT4 hN hT hS1 hS2 hS3
      go_wp2_with (at_builtin; refine wpList_app _ rfl (.tmp 65) (.tmp 69) 111 rfl 144 (.agg #[.int .i64 0, .int .i64 0]) 2 16 Tryz.underlying111 infoGot rfl (by decide) (by decide) _ _ _ _ _ _ _ _ _ rfl rfl (hS4.alloc _) (Src.made w4 144 #[.int .i64 p1, .int .i64 p2] 1 rfl) (gots_one [(p1, p2)]) (by omega) ?_; intro A2 c2 w5 G2 hs5 ht5 hg5; have HS := Lib.hid hs5; have HT5 := Lib.hid ht5; have HG := Lib.hid hg5; clear hs5 ht5 hg5)
      go_ret2
      have hT45 : Tch (fun i => some (w1.heap.size) = some i) w4 w5 := Tch.then ((Tch.refl _ w4).alloc _) HT5.out (fun i _ h => h)
      have hne : ∀ i, i < w1.heap.size → ¬ (some w1.heap.size = some i) := fun i hi e => by injection e with e; omega
      have hTf : Tch (fun i => i = v ∨ i = k ∨ i = t) w w5 := HT.out.then hT45 (fun i hi e => by injection e with e; omega)
      refine ⟨⟨A2, c2, G2, rfl, HS.out, ?_⟩, ⟨v, r, k, t, ⟨hb.keep hTf ?_, hv4.keep hT45 (hne _ (by omega)), hr.keep hTf ?_, hk4.keep hT45 (hne _ (by omega)), ht4.keep hT45 (hne _ (by omega)), n1, n2, n3, n4, n5, n6, n7, n8, n9, n10⟩, hF'.out⟩, hTf.mono (fun i _ e => (hF'.out i).2 ?_)⟩
      · intro g hg
        rcases HG.out with e | ⟨g', e, hlt⟩
        · rw [e] at hg
          injection hg with hg
          omega
        · rw [e] at hg
          injection hg with hg
          simp at hlt
          omega
      · rintro (h | h | h) <;> contradiction
      · rintro (h | h | h)
        · exact n5 h.symm
        · contradiction
        · contradiction
      · rcases e with e | e | e
        · exact .inr (.inl e)
        · exact .inr (.inr (.inr (.inl e)))
        · exact .inr (.inr (.inr (.inr e)))

theorem stream_write_nil (value who : Int) (w : World) :
    Calls Tryz.prog 65 #[.pointer none, .int .i64 value, .int .i64 who] w fun e w' => e = .returned (.tuple #[.slice none 0 0, .int .i64 2]) ∧ w' = w := by
  go_enter Tryz.func65, Tryz.ntmps65
  go_wp2
  go_ret2
  exact ⟨rfl, rfl⟩
theorem stream_read_nil (who : Int) (w : World) :
    Calls Tryz.prog 66 #[.pointer none, .int .i64 who] w fun e w' => e = .returned (.tuple #[.slice none 0 0, .int .i64 2]) ∧ w' = w := by
  go_enter Tryz.func66, Tryz.ntmps66
  go_wp2
  go_ret2
  exact ⟨rfl, rfl⟩
end Go.Proofs.YtipbimbnpikbcaaGreat
