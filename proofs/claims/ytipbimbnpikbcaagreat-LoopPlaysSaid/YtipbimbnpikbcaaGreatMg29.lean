import Derived.Test.YtipbimbnpikbcaaGreatMg28
/- The document's loop: rows are cut; micro. -/
namespace Go.Proofs.YtipbimbnpikbcaaGreat
open Go.RowKit

/-- A task told: it lies in a block of its own. -/
theorem ret_tk1 {fn : Func} {p : Tmp} (h : fn.results = #[.cell p 35]) (tmps : Array Value) (w : World) (z : Nat) (x : Tk) (hp : tmps.getD p undef = .pointer (some ⟨z, 0, none⟩)) (hB : Blk w z 35 (tkl x)) :
    (results fn tmps).run Tryz.prog w = .ok (tkv x) w := by
  have e := run_loadVar_row (P := Tryz.prog) w z 35 35 (tkl x).toArray (0, 0) _ hB Tryz.underlying35 rfl (by kernel_rfl)
  have e2 : (results fn tmps).run Tryz.prog w = ((asAddr (tmps.getD p undef)).run Tryz.prog w).andThen fun a w₁ => (loadVar 35 a).run Tryz.prog w₁ := by
    simp only [results, h]
    simp [Sem.run_bind, Result.andThen]
  rw [e2, hp]
  simp only [asAddr, Sem.run_pure, Result.andThen_ok, e]
  rfl
section
variable {w w' w6 : World} {b : Nat} {s s' : Lp} {o : RPl} {F : Nat → Prop} {P : Nat → Nat → Prop} {A6 : Option Addr} {c6 : Nat} {G6 : Option Nat}
/-- A row is another one. -/
theorem RLoopAt.set_mac (H : RLoopAt w b s o P) (hF0 : ∀ k, F k ↔ ∃ i, P i k) {l' : List Tk} (hl : ∀ x ∈ l', x ∈ s.mac) (T : Tch NoBlk w w6) (hs : Rw w6 35 4 A6 l'.length c6 (tks l') G6) (hG : ∀ g, G6 = some g → w.heap.size ≤ g) :
    RLeft w (w6.setCell ⟨b, 3, none⟩ (.slice A6 l'.length c6)) b F { s with mac := l' } := by
  have h00 := H.part 0
  have hS : Tch (· = b) w6 (w6.setCell ⟨b, 3, none⟩ (.slice A6 l'.length c6)) := (Tch.refl (· = b) w6).setCell (p := ⟨b, 3, none⟩) (fun _ => rfl) _
  have hb6 := (h00.1.keep T (fun e => e)).set 3 (.slice A6 l'.length c6)
  refine H.upd hF0 1 (by decide) (F' := fun k => G6 = some k) (s' := { s with mac := l' }) (o' := { o with A1 := A6, c1 := c6, G1 := G6 }) ((T.mono (fun k _ e => e.elim)).trans (hS.mono (fun k _ e => .inl ((h00.2 k).2 e)))) ?_ ⟨?_, fun _ => Iff.rfl⟩ (fun k hk => .inr (hG k hk)) (fun i h0 hj => ?_) H.sb (H.ok.lessMac hl)
  · simpa [rcells] using hb6
  · exact hs.keep hS (fun g hg e => by
      subst e
      have := hG g hg
      have := h00.1.lt
      omega)
  · match i, h0, hj with
    | 2, _, _ => exact ⟨rfl, rfl, rfl, rfl⟩
    | 3, _, _ => exact ⟨rfl, rfl, rfl, rfl⟩
    | 4, _, _ => exact ⟨rfl, rfl, rfl, rfl⟩
    | 5, _, _ => exact ⟨rfl, rfl⟩
    | 6, _, _ => exact ⟨rfl, rfl, rfl, rfl⟩
    | 7, _, _ => exact ⟨rfl, rfl, rfl, rfl, rfl⟩
    | i + 8, _, _ => exact ⟨rfl, rfl⟩
/-- The first of a row is gone, and goes on. -/
theorem RLoopAt.turn_mac (H : RLoopAt w b s o P) (hF0 : ∀ k, F k ↔ ∃ i, P i k) {t : Tk} {r : List Tk} (hm : s.mac = t :: r) {k : Nat} (hk : k ≤ 64) (T : Tch (· = b) w w') {g off : Nat} (hA : o.A1 = some ⟨g, off, none⟩)
    (hb : Blk w' b 58 (rcells (turnL { s with mac := r } t k) { o with A1 := (if o.c1 = 1 then some ⟨g, off, none⟩ else some ⟨g, off + 4, none⟩), c1 := o.c1 - 1 })) : RLeft w w' b F (turnL { s with mac := r } t k) := by
  have h00 := H.part 0
  obtain ⟨hr, hG⟩ := H.part 1
  rw [hm, hA] at hr
  have ht := Rw.tail (n := r.length) hr
  have hnb : o.G1 ≠ some b := fun e => H.nb (by decide) ((hG b).2 e)
  refine H.upd hF0 1 (by decide) (F' := fun k => o.G1 = some k) (s' := turnL { s with mac := r } t k) (o' := { o with A1 := (if o.c1 = 1 then some ⟨g, off, none⟩ else some ⟨g, off + 4, none⟩), c1 := o.c1 - 1 }) (T.mono (fun k _ e => .inl ((h00.2 k).2 e))) hb ⟨?_, fun _ => Iff.rfl⟩ (fun k hk => .inl ((hG k).2 hk)) (fun i h0 hj => ?_) H.sb ((H.ok.lessMac (l := r) (fun x hx => by rw [hm]; exact List.mem_cons_of_mem _ hx)).turn (H.ok.mac t (by rw [hm]; simp)) hk)
  · exact Rw.keep (G := o.G1) ht T (fun g' e e2 => hnb (by rw [e, e2]))
  · match i, h0, hj with
    | 2, _, _ => exact ⟨rfl, rfl, rfl, rfl⟩
    | 3, _, _ => exact ⟨rfl, rfl, rfl, rfl⟩
    | 4, _, _ => exact ⟨rfl, rfl, rfl, rfl⟩
    | 5, _, _ => exact ⟨rfl, rfl⟩
    | 6, _, _ => exact ⟨rfl, rfl, rfl, rfl⟩
    | 7, _, _ => exact ⟨rfl, rfl, rfl, rfl, rfl⟩
    | i + 8, _, _ => exact ⟨rfl, rfl⟩
/-- A row is another one. -/
theorem RLoopAt.set_mic (H : RLoopAt w b s o P) (hF0 : ∀ k, F k ↔ ∃ i, P i k) {l' : List Tk} (hl : ∀ x ∈ l', x ∈ s.mic) (T : Tch NoBlk w w6) (hs : Rw w6 35 4 A6 l'.length c6 (tks l') G6) (hG : ∀ g, G6 = some g → w.heap.size ≤ g) :
    RLeft w (w6.setCell ⟨b, 4, none⟩ (.slice A6 l'.length c6)) b F { s with mic := l' } := by
  have h00 := H.part 0
  have hS : Tch (· = b) w6 (w6.setCell ⟨b, 4, none⟩ (.slice A6 l'.length c6)) := (Tch.refl (· = b) w6).setCell (p := ⟨b, 4, none⟩) (fun _ => rfl) _
  have hb6 := (h00.1.keep T (fun e => e)).set 4 (.slice A6 l'.length c6)
  refine H.upd hF0 2 (by decide) (F' := fun k => G6 = some k) (s' := { s with mic := l' }) (o' := { o with A2 := A6, c2 := c6, G2 := G6 }) ((T.mono (fun k _ e => e.elim)).trans (hS.mono (fun k _ e => .inl ((h00.2 k).2 e)))) ?_ ⟨?_, fun _ => Iff.rfl⟩ (fun k hk => .inr (hG k hk)) (fun i h0 hj => ?_) H.sb (H.ok.lessMic hl)
  · simpa [rcells] using hb6
  · exact hs.keep hS (fun g hg e => by
      subst e
      have := hG g hg
      have := h00.1.lt
      omega)
  · match i, h0, hj with
    | 1, _, _ => exact ⟨rfl, rfl, rfl, rfl⟩
    | 3, _, _ => exact ⟨rfl, rfl, rfl, rfl⟩
    | 4, _, _ => exact ⟨rfl, rfl, rfl, rfl⟩
    | 5, _, _ => exact ⟨rfl, rfl⟩
    | 6, _, _ => exact ⟨rfl, rfl, rfl, rfl⟩
    | 7, _, _ => exact ⟨rfl, rfl, rfl, rfl, rfl⟩
    | i + 8, _, _ => exact ⟨rfl, rfl⟩
/-- The first of a row is gone, and goes on. -/
theorem RLoopAt.turn_mic (H : RLoopAt w b s o P) (hF0 : ∀ k, F k ↔ ∃ i, P i k) {t : Tk} {r : List Tk} (hm : s.mic = t :: r) {k : Nat} (hk : k ≤ 64) (T : Tch (· = b) w w') {g off : Nat} (hA : o.A2 = some ⟨g, off, none⟩)
    (hb : Blk w' b 58 (rcells (turnL { s with mic := r } t k) { o with A2 := (if o.c2 = 1 then some ⟨g, off, none⟩ else some ⟨g, off + 4, none⟩), c2 := o.c2 - 1 })) : RLeft w w' b F (turnL { s with mic := r } t k) := by
  have h00 := H.part 0
  obtain ⟨hr, hG⟩ := H.part 2
  rw [hm, hA] at hr
  have ht := Rw.tail (n := r.length) hr
  have hnb : o.G2 ≠ some b := fun e => H.nb (by decide) ((hG b).2 e)
  refine H.upd hF0 2 (by decide) (F' := fun k => o.G2 = some k) (s' := turnL { s with mic := r } t k) (o' := { o with A2 := (if o.c2 = 1 then some ⟨g, off, none⟩ else some ⟨g, off + 4, none⟩), c2 := o.c2 - 1 }) (T.mono (fun k _ e => .inl ((h00.2 k).2 e))) hb ⟨?_, fun _ => Iff.rfl⟩ (fun k hk => .inl ((hG k).2 hk)) (fun i h0 hj => ?_) H.sb ((H.ok.lessMic (l := r) (fun x hx => by rw [hm]; exact List.mem_cons_of_mem _ hx)).turn (H.ok.mic t (by rw [hm]; simp)) hk)
  · exact Rw.keep (G := o.G2) ht T (fun g' e e2 => hnb (by rw [e, e2]))
  · match i, h0, hj with
    | 1, _, _ => exact ⟨rfl, rfl, rfl, rfl⟩
    | 3, _, _ => exact ⟨rfl, rfl, rfl, rfl⟩
    | 4, _, _ => exact ⟨rfl, rfl, rfl, rfl⟩
    | 5, _, _ => exact ⟨rfl, rfl⟩
    | 6, _, _ => exact ⟨rfl, rfl, rfl, rfl⟩
    | 7, _, _ => exact ⟨rfl, rfl, rfl, rfl, rfl⟩
    | i + 8, _, _ => exact ⟨rfl, rfl⟩
/-- Nothing was told since. -/
theorem RLoopAt.rest (H : RLoopAt w b s o P) (hF0 : ∀ k, F k ↔ ∃ i, P i k) : RLeft w (w.setCell ⟨b, 1, none⟩ (.int .i64 0)) b F { s with told := 0 } := by
  have h00 := H.part 0
  have hS : Tch (· = b) w (w.setCell ⟨b, 1, none⟩ (.int .i64 0)) := (Tch.refl (· = b) w).setCell (p := ⟨b, 1, none⟩) (fun _ => rfl) _
  have hb6 := h00.1.set 1 (.int .i64 0)
  have hnb : o.G1 ≠ some b := fun e => H.nb (by decide) (((H.part 1).2 b).2 e)
  refine H.upd hF0 1 (by decide) (F' := P 1) (s' := { s with told := 0 }) (o' := o) (hS.mono (fun k _ e => .inl ((h00.2 k).2 e))) hb6 ⟨(H.part 1).1.keep hS (fun g hg e => hnb (by rw [hg, e])), (H.part 1).2⟩ (fun k hk => .inl hk) (fun i h0 hj => ?_) H.sb H.ok.rest
  match i, h0, hj with
  | 2, _, _ => exact ⟨rfl, rfl, rfl, rfl⟩
  | 3, _, _ => exact ⟨rfl, rfl, rfl, rfl⟩
  | 4, _, _ => exact ⟨rfl, rfl, rfl, rfl⟩
  | 5, _, _ => exact ⟨rfl, rfl⟩
  | 6, _, _ => exact ⟨rfl, rfl, rfl, rfl⟩
  | 7, _, _ => exact ⟨rfl, rfl, rfl, rfl, rfl⟩
  | i + 8, _, _ => exact ⟨rfl, rfl⟩
end
section
variable {w : World} {b : Nat} {s : Lp} {F : Nat → Prop}
theorem rleft_put4 {w w1 w2 : World} {b z : Nat} {F : Nat → Prop} {s : Lp} (h : RLeft w1 w2 b F s) (hT : Tch NoBlk w w1) (hz : w.heap.size ≤ z) (hz1 : z < w1.heap.size) (hF : ∀ k, F k → k < w.heap.size) (k f a t : Int) : RLeft w (put4 w2 z k f a t) b F s := by
  obtain ⟨l1, F3, l2, l3⟩ := h
  have hn3 : ∀ k, F3 k → k ≠ z := fun k hk e => by
    rcases l3 k hk with e2 | e2
    · have := hF k e2
      omega
    · omega
  exact ⟨((hT.mono (fun _ _ e => e.elim)).trans l1).then (tch_put4 w2 z k f a t) (fun k hk e => by omega), F3, l2.keep (tch_put4 w2 z k f a t) hn3, fun k hk => (l3 k hk).imp_right (fun e => Nat.le_trans hT.size e)⟩
set_option maxHeartbeats 4000000 in
set_option maxRecDepth 100000 in
theorem rl_micro1 (h : RLoopQ w b s F) {t : Tk} {r : List Tk} (hm : s.mic = t :: r) (k : Nat) (hk : k ≤ 64) :
    Calls Tryz.prog 25 #[.pointer (some ⟨b, 0, none⟩), .int .i64 k] w fun e w' => e = .returned (tkv t) ∧ RLeft w w' b F (turnL { s with mic := r } t k) := by
  have TA := (Tch.refl NoBlk w).alloc (.cells #[.int .i64 0, .int .i64 0, .int .i64 0, .int .i64 0] 35)
  have hz : Blk (w.alloc (.cells #[.int .i64 0, .int .i64 0, .int .i64 0, .int .i64 0] 35)) w.heap.size 35 [.int .i64 0, .int .i64 0, .int .i64 0, .int .i64 0] := heap_alloc_new w _
  have hlt := h.lt
  obtain ⟨o, P, H, hF⟩ := h.keep TA (fun _ _ h => h)
  have hb := (H.part 0).1
  have hr := (H.part 2).1
  rw [hm] at hr
  have hcap := hr.cap_le
  have hA : ∃ g off, o.A2 = some ⟨g, off, none⟩ ∧ o.G2 = some g ∧ ∀ j u, (tks (t :: r))[j]? = some u → (w.alloc (.cells #[.int .i64 0, .int .i64 0, .int .i64 0, .int .i64 0] 35)).cell? ⟨g, off + j, none⟩ = some u := hr.cells (by simp)
  obtain ⟨g, off, eA, _, hcl⟩ := hA
  have c4 := hb.cellOf 4 _ rfl
  rw [eA, hm] at c4
  have l0 : (w.alloc (.cells #[.int .i64 0, .int .i64 0, .int .i64 0, .int .i64 0] 35)).cell? ⟨g, off, none⟩ = some (.int .i64 t.kind) := hcl 0 _ rfl
  have l1 : (w.alloc (.cells #[.int .i64 0, .int .i64 0, .int .i64 0, .int .i64 0] 35)).cell? ⟨g, off + 1, none⟩ = some (.int .i64 t.fn) := hcl 1 _ rfl
  have l2 : (w.alloc (.cells #[.int .i64 0, .int .i64 0, .int .i64 0, .int .i64 0] 35)).cell? ⟨g, off + 2, none⟩ = some (.int .i64 t.arg) := hcl 2 _ rfl
  have l3 : (w.alloc (.cells #[.int .i64 0, .int .i64 0, .int .i64 0, .int .i64 0] 35)).cell? ⟨g, off + 3, none⟩ = some (.int .i64 t.tok) := hcl 3 _ rfl
  obtain ⟨kd, fn, arg, tok⟩ := t
  dsimp only at l0 l1 l2 l3
  simp only [List.length_cons] at hcap c4
  have hzl := hz.lt
  have HM := Lib.hid hm
  have HLT := Lib.hid hlt
  have HT := Lib.hid TA
  have HEA := Lib.hid eA
  have HK := Lib.hid hk
  have hzn : w.heap.size ≠ b := fun e => by
    have := hlt b ((hF b).2 ⟨0, ((H.part 0).2 b).2 rfl⟩)
    omega
  clear h hlt TA eA hcl hr hm hk
  unfold tkv
  go_enter Tryz.func25, Tryz.ntmps25
  go_upto_region 1 with fail
  generalize w.alloc (.cells #[.int .i64 0, .int .i64 0, .int .i64 0, .int .i64 0] 35) = w1 at *
  obtain ⟨z, hzz⟩ : ∃ z, z = w.heap.size := ⟨_, rfl⟩
  rw [← hzz] at hz hzl hzn
  rw [← hzz]
  have HZS := Lib.hid (show w.heap.size ≤ z by omega)
  clear hzz
  have T2 := (Tch.refl NoBlk w1).alloc (.cells #[.int .i64 kd, .int .i64 fn, .int .i64 arg, .int .i64 tok] 35)
  have hy : Blk (w1.alloc (.cells #[.int .i64 kd, .int .i64 fn, .int .i64 arg, .int .i64 tok] 35)) w1.heap.size 35 [.int .i64 kd, .int .i64 fn, .int .i64 arg, .int .i64 tok] := heap_alloc_new w1 _
  have hz2 := hz.keep T2 (fun h => h)
  have hyb : w1.heap.size ≠ b := fun e => by have := hb.lt; omega
  have HT2 := Lib.hid (HT.out.trans T2)
  have HZL : Hid (z < (w1.alloc (.cells #[.int .i64 kd, .int .i64 fn, .int .i64 arg, .int .i64 tok] 35)).heap.size) := Lib.hid (by simp; omega)
  have H2 := H.keep T2 (fun _ _ _ h => h)
  have HF := Lib.hid hF
  go_upto_region 2 with fail
  clear l0 l1 l2 l3 c4
  generalize w1.alloc (.cells #[.int .i64 kd, .int .i64 fn, .int .i64 arg, .int .i64 tok] 35) = w2 at *
  generalize w1.heap.size = y at *
  have hb2 := (H2.part 0).1
  have c4 : w2.cell? ⟨b, 4, none⟩ = some (.slice o.A2 s.mic.length o.c2) := hb2.cellOf 4 _ rfl
  rw [HEA.out, HM.out] at c4
  simp only [List.length_cons] at c4
  have f4 := hb2.free 4
  have c2 := hb2.cellOf 2 _ rfl
  have c1 := hb2.cellOf 1 _ rfl
  have f2 := hb2.free 2
  have f1 := hb2.free 1
  have HB := Lib.hid hb2
  have HH := Lib.hid H2
  have HZB := Lib.hid hz2
  have HZN := Lib.hid hzn
  have HYN := Lib.hid hyb
  clear H2 hb2 hz2 hz hzl hzn hb H hF T2 HT
  have hc1 : (1 : Int) ≤ (r.length : Int) + 1 := by omega
  by_cases ec : o.c2 = 1
  · obtain rfl : r = [] := List.eq_nil_of_length_eq_zero (by omega)
    rw [ec] at c4 hcap
    simp only [List.length_nil] at *
    have hv : ∀ v, (w2.setCell ⟨b, 4, none⟩ v).cell? ⟨y, 3, none⟩ = some (.int .i64 tok) := fun v => (hy.keep ((Tch.refl (· = b) w2).setCell (p := ⟨b, 4, none⟩) (fun _ => rfl) v) hyb).cellOf 3 _ rfl
    have HY := Lib.hid hy
    clear hy
    go_upto_region 5 with fail
    clear hv c4 f4 f2 f1 c2 c1
    have hb3 := ((HB.out.set 4 (.slice (some ⟨g, off, none⟩) 0 0)).set 2 (.int .i64 tok)).set 1 (.int .i64 k)
    have T3 : Tch (· = b) w2 (((w2.setCell ⟨b, 4, none⟩ (.slice (some ⟨g, off, none⟩) 0 0)).setCell ⟨b, 2, none⟩ (.int .i64 tok)).setCell ⟨b, 1, none⟩ (.int .i64 k)) := (((Tch.refl (· = b) w2).setCell (p := ⟨b, 4, none⟩) (fun _ => rfl) _).setCell (p := ⟨b, 2, none⟩) (fun _ => rfl) _).setCell (p := ⟨b, 1, none⟩) (fun _ => rfl) _
    have hz3 := HZB.out.keep T3 HZN.out
    have hy3 := HY.out.keep T3 HYN.out
    have hturn := HH.out.turn_mic HF.out HM.out HK.out T3 HEA.out (by rw [if_pos ec]; simpa [rcells, turnL, ec] using hb3)
    have HTU := Lib.hid hturn
    clear hturn T3 hb3 HB
    generalize ((w2.setCell ⟨b, 4, none⟩ (.slice (some ⟨g, off, none⟩) 0 0)).setCell ⟨b, 2, none⟩ (.int .i64 tok)).setCell ⟨b, 1, none⟩ (.int .i64 k) = w3 at *
    have y0 := hy3.cellOf 0 _ rfl
    have y1 := hy3.cellOf 1 _ rfl
    have y2 := hy3.cellOf 2 _ rfl
    have y3 := hy3.cellOf 3 _ rfl
    have g0 := hz3.cellOf 0 _ rfl
    have g1 := hz3.cellOf 1 _ rfl
    have g2 := hz3.cellOf 2 _ rfl
    have g3 := hz3.cellOf 3 _ rfl
    have e0 := hz3.free 0
    have e1 := hz3.free 1
    have e2 := hz3.free 2
    have e3 := hz3.free 3
    have HZ3 := Lib.hid hz3
    clear hz3 hy3 HY HZB
    go_wp2
    (try simp only [Exit.inBlock, Exit.then])
    refine bodyPost_ret (ret_tk1 rfl _ _ z ⟨kd, fn, arg, tok⟩ rfl (blk_put4 HZ3.out kd fn arg tok)) rfl ?_
    exact ⟨rfl, rleft_put4 HTU.out HT2.out HZS.out HZL.out HLT.out kd fn arg tok⟩
  · skip
    have hv : ∀ v, (w2.setCell ⟨b, 4, none⟩ v).cell? ⟨y, 3, none⟩ = some (.int .i64 tok) := fun v => (hy.keep ((Tch.refl (· = b) w2).setCell (p := ⟨b, 4, none⟩) (fun _ => rfl) v) hyb).cellOf 3 _ rfl
    have HY := Lib.hid hy
    clear hy
    go_upto_region 5 with fail
    clear hv c4 f4 f2 f1 c2 c1
    have hb3 := ((HB.out.set 4 (.slice (some ⟨g, off + 4, none⟩) r.length (o.c2 - 1))).set 2 (.int .i64 tok)).set 1 (.int .i64 k)
    have T3 : Tch (· = b) w2 (((w2.setCell ⟨b, 4, none⟩ (.slice (some ⟨g, off + 4, none⟩) r.length (o.c2 - 1))).setCell ⟨b, 2, none⟩ (.int .i64 tok)).setCell ⟨b, 1, none⟩ (.int .i64 k)) := (((Tch.refl (· = b) w2).setCell (p := ⟨b, 4, none⟩) (fun _ => rfl) _).setCell (p := ⟨b, 2, none⟩) (fun _ => rfl) _).setCell (p := ⟨b, 1, none⟩) (fun _ => rfl) _
    have hz3 := HZB.out.keep T3 HZN.out
    have hy3 := HY.out.keep T3 HYN.out
    have hturn := HH.out.turn_mic HF.out HM.out HK.out T3 HEA.out (by rw [if_neg ec]; simpa [rcells, turnL] using hb3)
    have HTU := Lib.hid hturn
    clear hturn T3 hb3 HB
    generalize ((w2.setCell ⟨b, 4, none⟩ (.slice (some ⟨g, off + 4, none⟩) r.length (o.c2 - 1))).setCell ⟨b, 2, none⟩ (.int .i64 tok)).setCell ⟨b, 1, none⟩ (.int .i64 k) = w3 at *
    have y0 := hy3.cellOf 0 _ rfl
    have y1 := hy3.cellOf 1 _ rfl
    have y2 := hy3.cellOf 2 _ rfl
    have y3 := hy3.cellOf 3 _ rfl
    have g0 := hz3.cellOf 0 _ rfl
    have g1 := hz3.cellOf 1 _ rfl
    have g2 := hz3.cellOf 2 _ rfl
    have g3 := hz3.cellOf 3 _ rfl
    have e0 := hz3.free 0
    have e1 := hz3.free 1
    have e2 := hz3.free 2
    have e3 := hz3.free 3
    have HZ3 := Lib.hid hz3
    clear hz3 hy3 HY HZB
    go_wp2
    (try simp only [Exit.inBlock, Exit.then])
    refine bodyPost_ret (ret_tk1 rfl _ _ z ⟨kd, fn, arg, tok⟩ rfl (blk_put4 HZ3.out kd fn arg tok)) rfl ?_
    exact ⟨rfl, rleft_put4 HTU.out HT2.out HZS.out HZL.out HLT.out kd fn arg tok⟩
end
end Go.Proofs.YtipbimbnpikbcaaGreat
