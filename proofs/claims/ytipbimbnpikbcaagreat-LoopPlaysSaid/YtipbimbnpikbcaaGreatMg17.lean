import Derived.Test.YtipbimbnpikbcaaGreatMg16
/- The first of a row that is not off is taken. -/
namespace Go.Proofs.YtipbimbnpikbcaaGreat
open Go.RowKit

/-- The function that tells whether a task is off. -/
def offV (b : Nat) : Value := .func (.func 22) #[.pointer (some ⟨b, 0, none⟩)] #[]
/-- The cell q of the loop at b is the row l of R l. -/
structure RowAt (b q : Nat) (R : List Tk → Lp) : Prop where
  nil : ∀ w F, LoopQ w b (R []) F → ∃ A c, w.cell? ⟨b, q, none⟩ = some (.slice A 0 c)
  cons : ∀ w F x l, LoopQ w b (R (x :: l)) F → ∃ g off c, w.cell? ⟨b, q, none⟩ = some (.slice (some ⟨g, off, none⟩) (l.length + 1) c) ∧ l.length + 1 ≤ c ∧ c ≤ 9223372036854775807 ∧ w.frozen? ⟨b, q, none⟩ = false ∧
    w.cell? ⟨g, off, none⟩ = some (.int .i64 x.kind) ∧ w.cell? ⟨g, off + 1, none⟩ = some (.int .i64 x.fn) ∧ w.cell? ⟨g, off + 2, none⟩ = some (.int .i64 x.arg) ∧ w.cell? ⟨g, off + 3, none⟩ = some (.int .i64 x.tok) ∧
    LoopLeft w (w.setCell ⟨b, q, none⟩ (.slice (if c = 1 then some ⟨g, off, none⟩ else some ⟨g, off + 4, none⟩) l.length (c - 1))) b F (R l)
  off : ∀ l l', (R l).off = (R l').off

def rowLen (w : World) (b q : Nat) : Nat := match w.cell? ⟨b, q, none⟩ with
  | some (.slice _ n _) => n
  | _ => 0
theorem RowAt.len {b q : Nat} {R : List Tk → Lp} (H : RowAt b q R) {w : World} {F : Nat → Prop} {l : List Tk} (h : LoopQ w b (R l) F) : rowLen w b q = l.length := by
  unfold rowLen
  cases l with
  | nil =>
    obtain ⟨A, c, e⟩ := H.nil w F h
    rw [e]
    rfl
  | cons x l =>
    obtain ⟨g, off, c, e, _⟩ := H.cons w F x l h
    rw [e]
    rfl
theorem row_mac (b : Nat) (s : Lp) : RowAt b 3 (fun l => { s with mac := l }) := by
  refine ⟨fun w F h => ?_, fun w F x l h => ?_, fun _ _ => rfl⟩
  · obtain ⟨o, P, H, hF⟩ := h
    exact ⟨_, _, (H.part 0).1.cellOf 3 _ rfl⟩
  · obtain ⟨o, P, H, hF⟩ := h
    have hb := (H.part 0).1
    have hr := (H.part 1).1
    have hG := (H.part 1).2
    have hcap := hr.cap_le
    have hA : ∃ g off, o.A1 = some ⟨g, off, none⟩ ∧ o.G1 = some g ∧ ∀ j u, (tks (x :: l))[j]? = some u → w.cell? ⟨g, off + j, none⟩ = some u := hr.cells (by simp)
    obtain ⟨g, off, eA, eG, hc⟩ := hA
    have hr2 := hr
    rw [eA] at hr2
    have ht := Rw.tail (n := l.length) hr2
    have c3 := hb.cellOf 3 _ rfl
    rw [eA] at c3
    have hT : Tch (· = b) w (w.setCell ⟨b, 3, none⟩ (.slice (if o.c1 = 1 then some ⟨g, off, none⟩ else some ⟨g, off + 4, none⟩) l.length (o.c1 - 1))) := (Tch.refl (· = b) w).setCell (p := ⟨b, 3, none⟩) (fun _ => rfl) _
    have h00 := (H.part 0).2
    refine ⟨g, off, o.c1, c3, hcap.1, hcap.2, hb.free 3, hc 0 _ rfl, hc 1 _ rfl, hc 2 _ rfl, hc 3 _ rfl, ?_⟩
    have T : Tch (fun k => P 0 k ∨ P 1 k) w (w.setCell ⟨b, 3, none⟩ (.slice (if o.c1 = 1 then some ⟨g, off, none⟩ else some ⟨g, off + 4, none⟩) l.length (o.c1 - 1))) := hT.mono (fun k _ e => .inl ((h00 k).2 e))
    refine H.left hF 1 T (F' := P 1) (o' := { o with A1 := if o.c1 = 1 then some ⟨g, off, none⟩ else some ⟨g, off + 4, none⟩, c1 := o.c1 - 1 }) (fun k hk => .inl hk) (H.upd 1 (by decide) T ⟨hb.set 3 _, h00⟩ ⟨?_, hG⟩ (fun k hk => .inl hk) ?_ H.sb (H.ok.lessMac (fun t ht => List.mem_cons_of_mem _ ht)))
    · refine Rw.keep (G := o.G1) ?_ hT (fun g' e e2 => absurd (H.dis 0 1 b ((h00 b).2 rfl) ((hG b).2 (by rw [e, e2]))) (by omega))
      exact ht
    · rintro i hi0 hi1 hp
      match i, hi0, hi1, hp with
      | 2, _, _, hp => exact hp
      | 3, _, _, hp => exact hp
      | 4, _, _, hp => exact hp
      | 5, _, _, hp => exact hp
      | 6, _, _, hp => exact hp
      | 7, _, _, hp => exact hp
      | i + 8, _, _, hp => exact hp
theorem row_mic (b : Nat) (s : Lp) : RowAt b 4 (fun l => { s with mic := l }) := by
  refine ⟨fun w F h => ?_, fun w F x l h => ?_, fun _ _ => rfl⟩
  · obtain ⟨o, P, H, hF⟩ := h
    exact ⟨_, _, (H.part 0).1.cellOf 4 _ rfl⟩
  · obtain ⟨o, P, H, hF⟩ := h
    have hb := (H.part 0).1
    have hr := (H.part 2).1
    have hG := (H.part 2).2
    have hcap := hr.cap_le
    have hA : ∃ g off, o.A2 = some ⟨g, off, none⟩ ∧ o.G2 = some g ∧ ∀ j u, (tks (x :: l))[j]? = some u → w.cell? ⟨g, off + j, none⟩ = some u := hr.cells (by simp)
    obtain ⟨g, off, eA, eG, hc⟩ := hA
    have hr2 := hr
    rw [eA] at hr2
    have ht := Rw.tail (n := l.length) hr2
    have c3 := hb.cellOf 4 _ rfl
    rw [eA] at c3
    have hT : Tch (· = b) w (w.setCell ⟨b, 4, none⟩ (.slice (if o.c2 = 1 then some ⟨g, off, none⟩ else some ⟨g, off + 4, none⟩) l.length (o.c2 - 1))) := (Tch.refl (· = b) w).setCell (p := ⟨b, 4, none⟩) (fun _ => rfl) _
    have h00 := (H.part 0).2
    refine ⟨g, off, o.c2, c3, hcap.1, hcap.2, hb.free 4, hc 0 _ rfl, hc 1 _ rfl, hc 2 _ rfl, hc 3 _ rfl, ?_⟩
    have T : Tch (fun k => P 0 k ∨ P 2 k) w (w.setCell ⟨b, 4, none⟩ (.slice (if o.c2 = 1 then some ⟨g, off, none⟩ else some ⟨g, off + 4, none⟩) l.length (o.c2 - 1))) := hT.mono (fun k _ e => .inl ((h00 k).2 e))
    refine H.left hF 2 T (F' := P 2) (o' := { o with A2 := if o.c2 = 1 then some ⟨g, off, none⟩ else some ⟨g, off + 4, none⟩, c2 := o.c2 - 1 }) (fun k hk => .inl hk) (H.upd 2 (by decide) T ⟨hb.set 4 _, h00⟩ ⟨?_, hG⟩ (fun k hk => .inl hk) ?_ H.sb (H.ok.lessMic (fun t ht => List.mem_cons_of_mem _ ht)))
    · refine Rw.keep (G := o.G2) ?_ hT (fun g' e e2 => absurd (H.dis 0 2 b ((h00 b).2 rfl) ((hG b).2 (by rw [e, e2]))) (by omega))
      exact ht
    · rintro i hi0 hi1 hp
      match i, hi0, hi1, hp with
      | 1, _, _, hp => exact hp
      | 3, _, _, hp => exact hp
      | 4, _, _, hp => exact hp
      | 5, _, _, hp => exact hp
      | 6, _, _, hp => exact hp
      | 7, _, _, hp => exact hp
      | i + 8, _, _, hp => exact hp

/-- While it looks for one. -/
structure TakeK (w1 w : World) (b z : Nat) (F : Nat → Prop) (R : List Tk → Lp) (off : List Bool) (l l' : List Tk) : Prop where
  left : LoopLeft w1 w b F (R l')
  same : takeM off l' = takeM off l
  blk : Blk w z 35 [.int .i64 0, .int .i64 0, .int .i64 0, .int .i64 0]

set_option maxHeartbeats 4000000 in
theorem row_take (b q : Nat) (R : List Tk → Lp) (hR : RowAt b q R) (l : List Tk) (w : World) (F : Nat → Prop) (h : LoopQ w b (R l) F) :
    Calls Tryz.prog 21 #[.pointer (some ⟨b, q, none⟩), offV b] w fun e w' => e = .returned (.tuple #[tkv ((takeM (R []).off l).1.getD tk0), .bool (takeM (R []).off l).1.isSome]) ∧ LoopLeft w w' b F (R (takeM (R []).off l).2) := by
  have TA := (Tch.refl NoBlk w).alloc (.cells #[.int .i64 0, .int .i64 0, .int .i64 0, .int .i64 0] 35)
  have hb1 : Blk (w.alloc (.cells #[.int .i64 0, .int .i64 0, .int .i64 0, .int .i64 0] 35)) w.heap.size 35 [.int .i64 0, .int .i64 0, .int .i64 0, .int .i64 0] := heap_alloc_new w _
  have hlt := h.lt
  have h1 := h.keep TA (fun _ _ h => h)
  have HR := Lib.hid hR
  clear h hR
  unfold offV
  obtain ⟨of, hof⟩ : ∃ of, of = (R []).off := ⟨_, rfl⟩
  rw [← hof]
  have HOF := Lib.hid hof
  clear hof
  go_enter Tryz.func21, Tryz.ntmps21
  go_wp2_with fail
  generalize w.alloc (.cells #[.int .i64 0, .int .i64 0, .int .i64 0, .int .i64 0] 35) = w1 at *
  have hz1 := hb1.lt
  generalize hz : w.heap.size = z at *
  have HZ := Lib.hid hz
  have HT := Lib.hid TA
  have HLT := Lib.hid hlt
  have HZ1 := Lib.hid hz1
  have HK : Hid (TakeK w1 w1 b z F R of l l) := Lib.hid ⟨LoopLeft.same h1, rfl, hb1⟩
  clear hz TA hlt hz1 h1 hb1
  go_loopw [5] (fun y wr => ∃ l', y = .bool false ∧ TakeK w1 wr b z F R of l l') (fun _ wr => rowLen wr b q)
  case atStart => exact ⟨l, rfl, HK.out⟩
  case round =>
    obtain ⟨l', rfl, hK⟩ := hrel
    obtain ⟨t1, F2, q2, l2⟩ := hK.left
    have hlen := HR.out.len q2
    have hbz := hK.blk
    have HS := Lib.hid hK.same
    have T1 := Lib.hid t1
    have Q2 := Lib.hid q2
    have L2 := Lib.hid l2
    have HLEN := Lib.hid hlen
    have hF2 : ∀ k, F2 k → k ≠ z := fun k hk e => by
      rcases l2 k hk with e2 | e2
      · have := HLT.out k e2
        omega
      · have := HZ1.out
        omega
    have HF2 := Lib.hid hF2
    have HFB : Hid (F2 b) := Lib.hid Q2.out.own
    clear hK t1 q2 l2 hlen HK hF2
    cases l' with
    | nil =>
      obtain ⟨A, c, hc⟩ := HR.out.nil wr F2 Q2.out
      have E1 := Lib.hid (show takeM of l = (none, []) by rw [← HS.out]; rfl)
      have hb2 := hbz.alloc (.cells #[.int .i64 0, .int .i64 0, .int .i64 0, .int .i64 0] 35)
      have g0 := hb2.cellOf 0 _ rfl
      have g1 := hb2.cellOf 1 _ rfl
      have g2 := hb2.cellOf 2 _ rfl
      have g3 := hb2.cellOf 3 _ rfl
      have e0 := hb2.free 0
      have e1 := hb2.free 1
      have e2 := hb2.free 2
      have e3 := hb2.free 3
      have HB2 := Lib.hid hb2
      clear hbz hb2
      go_wp2
      (try simp only [Exit.inBlock, Exit.then])
      refine bodyPost_ret (ret_tk rfl _ _ z tk0 rfl (blk_put4 HB2.out 0 0 0 0)) rfl ?_
      have hz := HZ.out
      rw [E1.out]
      refine ⟨rfl, left_put4 (w1 := w1) (LoopLeft.comp T1.out L2.out ((LoopLeft.same Q2.out).then ((Tch.refl NoBlk wr).alloc _))) HT.out (by omega) HZ1.out (fun k hk => by have := HLT.out k hk; omega) 0 0 0 0⟩
    | cons x r =>
      obtain ⟨kd, f, a, tok⟩ := x
      obtain ⟨g, off, c, hc, hc1, hc2, hfz, k0, k1, k2, k3, _⟩ := HR.out.cons wr F2 _ r Q2.out
      dsimp only at k0 k1 k2 k3
      have TB := (Tch.refl NoBlk wr).alloc (.cells #[.int .i64 kd, .int .i64 f, .int .i64 a, .int .i64 tok] 35)
      have q3 := Q2.out.keep TB (fun _ _ h => h)
      have hx := heap_alloc_new wr (.cells #[.int .i64 kd, .int .i64 f, .int .i64 a, .int .i64 tok] 35)
      have hcB : (wr.alloc (.cells #[.int .i64 kd, .int .i64 f, .int .i64 a, .int .i64 tok] 35)).cell? ⟨b, q, none⟩ = some (.slice (some ⟨g, off, none⟩) (r.length + 1) c) := TB.cell' hc (fun h => h)
      have d1 : decide ((0 : Int) < (r.length : Int) + 1) = true := by simp
      have i1 : (1 : Int) ≤ (r.length : Int) + 1 := by omega
      have hfB : (wr.alloc (.cells #[.int .i64 kd, .int .i64 f, .int .i64 a, .int .i64 tok] 35)).frozen? ⟨b, q, none⟩ = false := by
        have hlb := World.block_lt_of_cell? wr _ hc
        have e := Below.heap_alloc wr (.cells #[.int .i64 kd, .int .i64 f, .int .i64 a, .int .i64 tok] 35) b hlb
        unfold World.frozen? at hfz ⊢
        rw [e]
        exact hfz
      have hne : wr.heap.size ≠ b := by have := World.block_lt_of_cell? wr _ hc; simp at this; omega
      have hzb : z ≠ b := fun e => HF2.out b HFB.out e.symm
      have hxS : ∀ v, Blk ((wr.alloc (.cells #[.int .i64 kd, .int .i64 f, .int .i64 a, .int .i64 tok] 35)).setCell ⟨b, q, none⟩ v) wr.heap.size 35 [.int .i64 kd, .int .i64 f, .int .i64 a, .int .i64 tok] := fun v =>
        Blk.keep (S := (· = b)) (T := 35) hx ((Tch.refl (· = b) _).setCell (p := ⟨b, q, none⟩) (fun _ => rfl) _) hne
      have s0 := fun v => (hxS v).cellOf 0 _ rfl
      have s1 := fun v => (hxS v).cellOf 1 _ rfl
      have s2 := fun v => (hxS v).cellOf 2 _ rfl
      have s3 := fun v => (hxS v).cellOf 3 _ rfl
      have HC := Lib.hid (HR.out.cons _ F2 _ r q3)
      have HX := Lib.hid hxS
      have HCB := Lib.hid hcB
      have HBZ := Lib.hid hbz
      have HTB := Lib.hid TB
      have HZB := Lib.hid hzb
      clear hzb
      by_cases ec : c = 1
      · subst ec
        obtain rfl : r = [] := List.eq_nil_of_length_eq_zero (by omega)
        simp only [List.length_nil] at *
        go_wp2_with fail
        try clear s0 s1 s2 s3
        try clear hxS
        try clear hcB
        try clear hbz TB q3 hx hfB hfz hc k0 k1 k2 k3
        have hL : Hid (LoopLeft w1 ((wr.alloc (.cells #[.int .i64 kd, .int .i64 f, .int .i64 a, .int .i64 tok] 35)).setCell ⟨b, q, none⟩ (.slice (some ⟨g, off, none⟩) 0 (1 - 1))) b F (R ([]))) := Lib.hid (by
          obtain ⟨g', off', c', hc', _, _, _, _, _, _, _, hLL⟩ := HC.out
          have e := hc'.symm.trans HCB.out
          injection e with e
          injection e with e1 e2 e3
          injection e1 with e1
          injection e1 with e1 e4
          rw [e1, e3, e4] at hLL
          have e5 : (if 1 = 1 then some (⟨g, off, none⟩ : Addr) else some ⟨g, off + 4, none⟩) = some ⟨g, off, none⟩ := rfl
          rw [e5] at hLL
          exact LoopLeft.comp T1.out L2.out (hLL.ahead HTB.out))
        have hX := HX.out (.slice (some ⟨g, off, none⟩) 0 (1 - 1))
        have hBZ : Blk ((wr.alloc (.cells #[.int .i64 kd, .int .i64 f, .int .i64 a, .int .i64 tok] 35)).setCell ⟨b, q, none⟩ (.slice (some ⟨g, off, none⟩) 0 (1 - 1))) z 35 [.int .i64 0, .int .i64 0, .int .i64 0, .int .i64 0] :=
          (HBZ.out.alloc _).keep ((Tch.refl (· = b) _).setCell (p := ⟨b, q, none⟩) (fun _ => rfl) _) HZB.out
        clear HC HX HBZ HTB HCB
        generalize (wr.alloc (.cells #[.int .i64 kd, .int .i64 f, .int .i64 a, .int .i64 tok] 35)).setCell ⟨b, q, none⟩ (.slice (some ⟨g, off, none⟩) 0 (1 - 1)) = w5 at *
        obtain ⟨l1, F3, q5, l3⟩ := hL.out
        have hz3 : ∀ k, F3 k → k ≠ z := fun k hk e => by
          rcases l3 k hk with e2 | e2
          · have := HLT.out k e2
            omega
          · have := HZ1.out
            omega
        have HOFR : Hid ((R ([])).off = of) := Lib.hid ((HR.out.off _ _).trans HOF.out.symm)
        clear hL
        have hoff := loop_off q5 ⟨kd, f, a, tok⟩
        rw [HOFR.out] at hoff
        have HOFF := Lib.hid hoff
        have HL1 := Lib.hid l1
        have HQ5 := Lib.hid q5
        have HL3 := Lib.hid l3
        clear hoff l1 q5 l3
        unfold tkv at *
        refine HOFF.out.mono ?_
        rintro e w6 ⟨rfl, hT6⟩
        have hX6 := hX.keep hT6 (fun h => h)
        have hZ6 := hBZ.keep hT6 (fun h => h)
        have HL6 : Hid (LoopLeft w1 w6 b F (R ([]))) := Lib.hid ((show LoopLeft w1 w5 b F (R ([])) from ⟨HL1.out, F3, HQ5.out, HL3.out⟩).then hT6)
        have hlen6 : rowLen w6 b q = ([] : List Tk).length := HR.out.len (HQ5.out.keep hT6 (fun _ _ h => h))
        have hlen0 := HLEN.out
        clear HOFF hT6 hX hBZ HL1 HQ5 HL3 hz3
        cases ho : toffM of tok with
        | true =>
          go_wp2
          refine ⟨⟨[], rfl, HL6.out, by rw [← HS.out]; simp [takeM, ho], hZ6⟩, ?_⟩
          rw [hlen6, hlen0]
          simp
        | false =>
          have p0 := hX6.cellOf 0 _ rfl
          have p1 := hX6.cellOf 1 _ rfl
          have p2 := hX6.cellOf 2 _ rfl
          have p3 := hX6.cellOf 3 _ rfl
          have g0 := hZ6.cellOf 0 _ rfl
          have g1 := hZ6.cellOf 1 _ rfl
          have g2 := hZ6.cellOf 2 _ rfl
          have g3 := hZ6.cellOf 3 _ rfl
          have e0 := hZ6.free 0
          have e1 := hZ6.free 1
          have e2 := hZ6.free 2
          have e3 := hZ6.free 3
          have HZ6 := Lib.hid hZ6
          have E1 := Lib.hid (show takeM of l = (some ⟨kd, f, a, tok⟩, []) by rw [← HS.out, takeM, if_neg (by rw [ho]; simp)])
          clear hX6 hZ6
          go_wp2
          (try simp only [Exit.inBlock, Exit.then])
          refine bodyPost_ret (ret_tk rfl _ _ z ⟨kd, f, a, tok⟩ rfl (blk_put4 HZ6.out kd f a tok)) rfl ?_
          have hz := HZ.out
          rw [E1.out]
          exact ⟨rfl, left_put4 HL6.out HT.out (by omega) HZ1.out (fun k hk => by have := HLT.out k hk; omega) kd f a tok⟩
      · skip
        go_wp2_with fail
        try clear s0 s1 s2 s3
        try clear hxS
        try clear hcB
        try clear hbz TB q3 hx hfB hfz hc k0 k1 k2 k3
        have hL : Hid (LoopLeft w1 ((wr.alloc (.cells #[.int .i64 kd, .int .i64 f, .int .i64 a, .int .i64 tok] 35)).setCell ⟨b, q, none⟩ (.slice (some ⟨g, off + 4, none⟩) r.length (c - 1))) b F (R (r))) := Lib.hid (by
          obtain ⟨g', off', c', hc', _, _, _, _, _, _, _, hLL⟩ := HC.out
          have e := hc'.symm.trans HCB.out
          injection e with e
          injection e with e1 e2 e3
          injection e1 with e1
          injection e1 with e1 e4
          rw [e1, e3, e4] at hLL
          have e5 : (if c = 1 then some (⟨g, off, none⟩ : Addr) else some ⟨g, off + 4, none⟩) = some ⟨g, off + 4, none⟩ := (by rw [if_neg ec])
          rw [e5] at hLL
          exact LoopLeft.comp T1.out L2.out (hLL.ahead HTB.out))
        have hX := HX.out (.slice (some ⟨g, off + 4, none⟩) r.length (c - 1))
        have hBZ : Blk ((wr.alloc (.cells #[.int .i64 kd, .int .i64 f, .int .i64 a, .int .i64 tok] 35)).setCell ⟨b, q, none⟩ (.slice (some ⟨g, off + 4, none⟩) r.length (c - 1))) z 35 [.int .i64 0, .int .i64 0, .int .i64 0, .int .i64 0] :=
          (HBZ.out.alloc _).keep ((Tch.refl (· = b) _).setCell (p := ⟨b, q, none⟩) (fun _ => rfl) _) HZB.out
        clear HC HX HBZ HTB HCB
        generalize (wr.alloc (.cells #[.int .i64 kd, .int .i64 f, .int .i64 a, .int .i64 tok] 35)).setCell ⟨b, q, none⟩ (.slice (some ⟨g, off + 4, none⟩) r.length (c - 1)) = w5 at *
        obtain ⟨l1, F3, q5, l3⟩ := hL.out
        have hz3 : ∀ k, F3 k → k ≠ z := fun k hk e => by
          rcases l3 k hk with e2 | e2
          · have := HLT.out k e2
            omega
          · have := HZ1.out
            omega
        have HOFR : Hid ((R (r)).off = of) := Lib.hid ((HR.out.off _ _).trans HOF.out.symm)
        clear hL
        have hoff := loop_off q5 ⟨kd, f, a, tok⟩
        rw [HOFR.out] at hoff
        have HOFF := Lib.hid hoff
        have HL1 := Lib.hid l1
        have HQ5 := Lib.hid q5
        have HL3 := Lib.hid l3
        clear hoff l1 q5 l3
        unfold tkv at *
        refine HOFF.out.mono ?_
        rintro e w6 ⟨rfl, hT6⟩
        have hX6 := hX.keep hT6 (fun h => h)
        have hZ6 := hBZ.keep hT6 (fun h => h)
        have HL6 : Hid (LoopLeft w1 w6 b F (R (r))) := Lib.hid ((show LoopLeft w1 w5 b F (R (r)) from ⟨HL1.out, F3, HQ5.out, HL3.out⟩).then hT6)
        have hlen6 : rowLen w6 b q = (r : List Tk).length := HR.out.len (HQ5.out.keep hT6 (fun _ _ h => h))
        have hlen0 := HLEN.out
        clear HOFF hT6 hX hBZ HL1 HQ5 HL3 hz3
        cases ho : toffM of tok with
        | true =>
          go_wp2
          refine ⟨⟨r, rfl, HL6.out, by rw [← HS.out]; simp [takeM, ho], hZ6⟩, ?_⟩
          rw [hlen6, hlen0]
          simp
        | false =>
          have p0 := hX6.cellOf 0 _ rfl
          have p1 := hX6.cellOf 1 _ rfl
          have p2 := hX6.cellOf 2 _ rfl
          have p3 := hX6.cellOf 3 _ rfl
          have g0 := hZ6.cellOf 0 _ rfl
          have g1 := hZ6.cellOf 1 _ rfl
          have g2 := hZ6.cellOf 2 _ rfl
          have g3 := hZ6.cellOf 3 _ rfl
          have e0 := hZ6.free 0
          have e1 := hZ6.free 1
          have e2 := hZ6.free 2
          have e3 := hZ6.free 3
          have HZ6 := Lib.hid hZ6
          have E1 := Lib.hid (show takeM of l = (some ⟨kd, f, a, tok⟩, r) by rw [← HS.out, takeM, if_neg (by rw [ho]; simp)])
          clear hX6 hZ6
          go_wp2
          (try simp only [Exit.inBlock, Exit.then])
          refine bodyPost_ret (ret_tk rfl _ _ z ⟨kd, f, a, tok⟩ rfl (blk_put4 HZ6.out kd f a tok)) rfl ?_
          have hz := HZ.out
          rw [E1.out]
          exact ⟨rfl, left_put4 HL6.out HT.out (by omega) HZ1.out (fun k hk => by have := HLT.out k hk; omega) kd f a tok⟩
end Go.Proofs.YtipbimbnpikbcaaGreat
