/- A row of a loop: one more is put behind the others. -/
import Derived.Test.YtipbimbnpikbcaaLoop
import Derived.Laws.ResultCell
import Derived.Laws.Rows
namespace Go.Proofs.Ytipbimbnpikbcaa
open Go.RowKit

theorem Rw.drew1 {w : World} {e : TypeId} {sz n cap : Nat} {A : Option Addr} {xs : List Value} {G : Option Nat} (h : Rw w e sz A n cap xs G) : Rw w.drew e sz A n cap xs G := h.keep (Tch.refl NoBlk w).drew (fun _ _ h => h)
theorem Rw.alloc {w : World} {e : TypeId} {sz n cap : Nat} {A : Option Addr} {xs : List Value} {G : Option Nat} (h : Rw w e sz A n cap xs G) (ob : Obj) : Rw (w.alloc ob) e sz A n cap xs G := h.keep ((Tch.refl NoBlk w).alloc ob) (fun _ _ h => h)

/-- A task and one more word told: the task lies in a block of its own. -/
theorem ret_tk {fn : Func} {p u : Tmp} (h : fn.results = #[.cell p 31, .tmp u]) (tmps : Array Value) (w : World) (z : Nat) (x : Tk) (hp : tmps.getD p undef = .pointer (some ⟨z, 0, none⟩)) (hB : Blk w z 31 (tkl x)) :
    (results fn tmps).run Try.prog w = .ok (.tuple #[tkv x, tmps.getD u undef]) w := by
  rw [results_cell_tmp h, hp]
  have e := run_loadVar_row (P := Try.prog) w z 31 31 (tkl x).toArray (0, 0) _ hB Try.underlying31 rfl (by kernel_rfl)
  simp only [asAddr, Sem.run_pure, Result.andThen_ok, e]
  rfl

set_option maxHeartbeats 4000000 in
set_option maxRecDepth 100000 in
theorem row_put (b i : Nat) (cs : List Value) (A : Option Addr) (n cap : Nat) (xs : List Value) (G : Option Nat) (x : Tk) (w : World) (hb : Blk w b 62 cs) (hi : cs[i]? = some (.slice A n cap)) (hr : Rw w 31 4 A n cap xs G) (hG : G ≠ some b) (hn : n < 1000000) :
    Calls Try.prog 31 #[.pointer (some ⟨b, i, none⟩), tkv x] w fun e w' => e = .returned (.tuple #[]) ∧ ∃ A' c' G', Blk w' b 62 (cs.set i (.slice A' (n + 1) c')) ∧ Rw w' 31 4 A' (n + 1) c' (xs ++ tkl x) G' ∧ Tch (fun k => k = b ∨ G = some k) w w' ∧ ∀ k, G' = some k → G = some k ∨ w.heap.size ≤ k := by
  obtain ⟨k, f, a, t⟩ := x
  unfold tkv tkl
  have hcap := hr.cap_le
  go_enter Try.func31, Try.ntmps31
  go_wp2_with fail
  have hbW : Blk (w.alloc (.cells #[.int .i64 k, .int .i64 f, .int .i64 a, .int .i64 t] 31)) w.heap.size 31 [.int .i64 k, .int .i64 f, .int .i64 a, .int .i64 t] := heap_alloc_new w _
  have hb1 := hb.alloc (.cells #[.int .i64 k, .int .i64 f, .int .i64 a, .int .i64 t] 31)
  have hr1 := hr.alloc (.cells #[.int .i64 k, .int .i64 f, .int .i64 a, .int .i64 t] 31)
  have hT1 := (Tch.refl (fun k => k = b ∨ G = some k) w).alloc (.cells #[.int .i64 k, .int .i64 f, .int .i64 a, .int .i64 t] 31)
  have hsz : w.heap.size < (w.alloc (.cells #[.int .i64 k, .int .i64 f, .int .i64 a, .int .i64 t] 31)).heap.size := by simp
  generalize w.alloc (.cells #[.int .i64 k, .int .i64 f, .int .i64 a, .int .i64 t] 31) = w1 at *
  generalize w.heap.size = z at *
  clear hb hr
  have hc := hb1.cellOf i _ hi
  have l0 := hbW.cellOf 0 _ rfl
  have l1 := hbW.cellOf 1 _ rfl
  have l2 := hbW.cellOf 2 _ rfl
  have l3 := hbW.cellOf 3 _ rfl
  have hcA : ∀ ob, (w1.alloc ob).cell? ⟨b, i, none⟩ = some (.slice A n cap) := fun ob => ((Tch.refl NoBlk w1).alloc ob).cell' hc (fun h => h)
  have HB := Lib.hid hb1
  have HR := Lib.hid hr1
  have HT := Lib.hid hT1
  have HZ := Lib.hid hsz
  have HI := Lib.hid hi
  have HN := Lib.hid (show (n + 1) * 32 ≤ 140737488355328 by omega)
  clear hb1 hr1 hT1 hbW hsz hi hn
  go_region_law (refine step_rw_app _ rfl (.tmp 7) (.tmp 9) 56 rfl 31 (.agg #[.int .i64 0, .int .i64 0, .int .i64 0, .int .i64 0]) 4 32 Try.underlying56 infoTk rfl (by decide) (by decide) A n cap xs G (some ⟨w1.heap.size, 0, none⟩) 1 1 [.int .i64 k, .int .i64 f, .int .i64 a, .int .i64 t] (by simp [Act.eval]) (by simp [Act.eval]) (by decide) (by exact (HR.out.alloc _).drew1) (by exact (Src.made (sz := 4) w1 31 #[.int .i64 k, .int .i64 f, .int .i64 a, .int .i64 t] 1 rfl).keep (Tch.refl NoBlk _).drew (fun _ _ h => h)) (by simp [Value.oneCell']) HN.out ?_; intro A6 c6 w6 G6 hs6 ht6 hg6; have HS6 := Lib.hid hs6; have HT6 : Hid (Tch (fun k => G = some k) w1 w6) := Lib.hid (Tch.then ((Tch.refl _ w1).alloc _).drew ht6 (fun _ _ h => h)); have HG6 := Lib.hid hg6; have hb6 := HB.out.keep HT6.out hG; have hc6 := hb6.cellOf i _ HI.out; have hf6 := hb6.free i; clear hs6 ht6 hg6 hb6)
  all_goals
    have hS : Tch (· = b) w6 (w6.setCell ⟨b, i, none⟩ (.slice A6 (n + 1) c6)) := (Tch.refl (· = b) w6).setCell (p := ⟨b, i, none⟩) (fun _ => rfl) _
    have hG6 : ∀ g, G6 = some g → G = some g ∨ w1.heap.size ≤ g := fun g hg => by
      rcases HG6.out with e | ⟨g', e, hl⟩
      · exact .inl (e ▸ hg)
      · rw [e] at hg
        injection hg with hg
        subst hg
        simp at hl
        exact .inr (by omega)
    have HE : Hid (∃ A' c' G', Blk (w6.setCell ⟨b, i, none⟩ (.slice A6 (n + 1) c6)) b 62 (cs.set i (.slice A' (n + 1) c')) ∧ Rw (w6.setCell ⟨b, i, none⟩ (.slice A6 (n + 1) c6)) 31 4 A' (n + 1) c' (xs ++ [.int .i64 k, .int .i64 f, .int .i64 a, .int .i64 t]) G' ∧ Tch (fun k => k = b ∨ G = some k) w (w6.setCell ⟨b, i, none⟩ (.slice A6 (n + 1) c6)) ∧ ∀ k, G' = some k → G = some k ∨ w.heap.size ≤ k) :=
      Lib.hid ⟨A6, c6, G6, (HB.out.keep HT6.out hG).set i _, HS6.out.keep hS (fun g hg e => by
        subst e
        rcases hG6 g hg with e | e
        · exact hG e
        · have := HB.out.lt
          omega), (HT.out.trans (HT6.out.mono (fun _ _ e => .inr e))).trans (hS.mono (fun _ _ e => .inl e)), fun g hg => (hG6 g hg).imp_right (fun e => Nat.le_trans HT.out.size e)⟩
    clear HS6 HT6 HG6 hc6 hf6 hS hG6
    go_end0
    exact ⟨rfl, HE.out⟩

/-- A task is set into a cell of the law's own. -/
abbrev put4 (w : World) (z : Nat) (k f a t : Int) : World := (((w.setCell ⟨z, 0, none⟩ (.int .i64 k)).setCell ⟨z, 1, none⟩ (.int .i64 f)).setCell ⟨z, 2, none⟩ (.int .i64 a)).setCell ⟨z, 3, none⟩ (.int .i64 t)
theorem tch_put4 (w : World) (z : Nat) (k f a t : Int) : Tch (· = z) w (put4 w z k f a t) :=
  ((((Tch.refl (· = z) w).setCell (p := ⟨z, 0, none⟩) (fun _ => rfl) _).setCell (p := ⟨z, 1, none⟩) (fun _ => rfl) _).setCell (p := ⟨z, 2, none⟩) (fun _ => rfl) _).setCell (p := ⟨z, 3, none⟩) (fun _ => rfl) _
theorem blk_put4 {w : World} {z : Nat} {c0 c1 c2 c3 : Value} (h : Blk w z 31 [c0, c1, c2, c3]) (k f a t : Int) : Blk (put4 w z k f a t) z 31 (tkl ⟨k, f, a, t⟩) := (((h.set 0 _).set 1 _).set 2 _).set 3 _
theorem left_put4 {w w1 w2 : World} {b z : Nat} {F : Nat → Prop} {s : Lp} (h : LoopLeft w1 w2 b F s) (hT : Tch NoBlk w w1) (hz : w.heap.size ≤ z) (hz1 : z < w1.heap.size) (hF : ∀ k, F k → k < w.heap.size) (k f a t : Int) : LoopLeft w (put4 w2 z k f a t) b F s := by
  obtain ⟨l1, F3, l2, l3⟩ := h
  have hn3 : ∀ k, F3 k → k ≠ z := fun k hk e => by
    rcases l3 k hk with e2 | e2
    · have := hF k e2
      omega
    · omega
  exact ⟨((hT.mono (fun _ _ e => e.elim)).trans l1).then (tch_put4 w2 z k f a t) (fun k hk e => by omega), F3, l2.keep (tch_put4 w2 z k f a t) hn3, fun k hk => (l3 k hk).imp_right (fun e => Nat.le_trans hT.size e)⟩

section
variable {w : World} {b : Nat} {s : Lp} {F : Nat → Prop}
theorem loop_put_mac (h : LoopQ w b s F) (x : Tk) (hx : TokOk s.ab x.tok) (hn : s.mac.length < 1000000) :
    Calls Try.prog 31 #[.pointer (some ⟨b, 3, none⟩), tkv x] w fun e w' => e = .returned (.tuple #[]) ∧ LoopLeft w w' b F (macL s x) := by
  obtain ⟨o, P, H, hF⟩ := h
  have h0 := H.part 0
  have h1 := H.part 1
  refine (row_put b 3 _ _ _ _ _ _ x w h0.1 rfl h1.1 (fun e => absurd (H.dis 0 1 b ((h0.2 b).2 rfl) ((h1.2 b).2 e)) (by omega)) hn).mono ?_
  rintro e w' ⟨rfl, A', c', G', k1, k2, k3, k4⟩
  refine ⟨rfl, ?_⟩
  have T : Tch (fun k => P 0 k ∨ P 1 k) w w' := k3.mono (fun k _ e => e.imp (fun e => (h0.2 k).2 e) (fun e => (h1.2 k).2 e))
  refine H.left hF 1 T (F' := fun k => G' = some k) (o' := { o with A1 := A', c1 := c', G1 := G' }) (fun k hk => (k4 k hk).imp_left (fun e => (h1.2 k).2 e)) (H.upd 1 (by decide) T ⟨?_, h0.2⟩ ⟨?_, fun _ => Iff.rfl⟩ (fun k hk => (k4 k hk).imp_left (fun e => (h1.2 k).2 e)) ?_ H.sb (H.ok.putMac hx))
  · simpa [lcells, macL] using k1
  · simpa [macL, tks_snoc] using k2
  · rintro i hi0 hi1 hp
    match i, hi0, hi1, hp with
    | 2, _, _, hp => exact hp
    | 3, _, _, hp => exact hp
    | 4, _, _, hp => exact hp
    | 5, _, _, hp => exact hp
    | 6, _, _, hp => exact hp
    | 7, _, _, hp => exact hp
    | i + 8, _, _, hp => exact hp
theorem loop_put_mic (h : LoopQ w b s F) (x : Tk) (hx : TokOk s.ab x.tok) (hn : s.mic.length < 1000000) :
    Calls Try.prog 31 #[.pointer (some ⟨b, 4, none⟩), tkv x] w fun e w' => e = .returned (.tuple #[]) ∧ LoopLeft w w' b F (micL s x) := by
  obtain ⟨o, P, H, hF⟩ := h
  have h0 := H.part 0
  have h1 := H.part 2
  refine (row_put b 4 _ _ _ _ _ _ x w h0.1 rfl h1.1 (fun e => absurd (H.dis 0 2 b ((h0.2 b).2 rfl) ((h1.2 b).2 e)) (by omega)) hn).mono ?_
  rintro e w' ⟨rfl, A', c', G', k1, k2, k3, k4⟩
  refine ⟨rfl, ?_⟩
  have T : Tch (fun k => P 0 k ∨ P 2 k) w w' := k3.mono (fun k _ e => e.imp (fun e => (h0.2 k).2 e) (fun e => (h1.2 k).2 e))
  refine H.left hF 2 T (F' := fun k => G' = some k) (o' := { o with A2 := A', c2 := c', G2 := G' }) (fun k hk => (k4 k hk).imp_left (fun e => (h1.2 k).2 e)) (H.upd 2 (by decide) T ⟨?_, h0.2⟩ ⟨?_, fun _ => Iff.rfl⟩ (fun k hk => (k4 k hk).imp_left (fun e => (h1.2 k).2 e)) ?_ H.sb (H.ok.putMic hx))
  · simpa [lcells, micL] using k1
  · simpa [micL, tks_snoc] using k2
  · rintro i hi0 hi1 hp
    match i, hi0, hi1, hp with
    | 1, _, _, hp => exact hp
    | 3, _, _, hp => exact hp
    | 4, _, _, hp => exact hp
    | 5, _, _, hp => exact hp
    | 6, _, _, hp => exact hp
    | 7, _, _, hp => exact hp
    | i + 8, _, _, hp => exact hp
theorem loop_put_wai (h : LoopQ w b s F) (x : Tk) (hx : TokOk s.ab x.tok) (hn : s.wai.length < s.ab.length) :
    Calls Try.prog 31 #[.pointer (some ⟨b, 5, none⟩), tkv x] w fun e w' => e = .returned (.tuple #[]) ∧ LoopLeft w w' b F (waiL s x) := by
  obtain ⟨o, P, H, hF⟩ := h
  have h0 := H.part 0
  have h1 := H.part 3
  have hle := H.ok.tree.le
  refine (row_put b 5 _ _ _ _ _ _ x w h0.1 rfl h1.1 (fun e => absurd (H.dis 0 3 b ((h0.2 b).2 rfl) ((h1.2 b).2 e)) (by omega)) (by omega)).mono ?_
  rintro e w' ⟨rfl, A', c', G', k1, k2, k3, k4⟩
  refine ⟨rfl, ?_⟩
  have T : Tch (fun k => P 0 k ∨ P 3 k) w w' := k3.mono (fun k _ e => e.imp (fun e => (h0.2 k).2 e) (fun e => (h1.2 k).2 e))
  refine H.left hF 3 T (F' := fun k => G' = some k) (o' := { o with A3 := A', c3 := c', G3 := G' }) (fun k hk => (k4 k hk).imp_left (fun e => (h1.2 k).2 e)) (H.upd 3 (by decide) T ⟨?_, h0.2⟩ ⟨?_, fun _ => Iff.rfl⟩ (fun k hk => (k4 k hk).imp_left (fun e => (h1.2 k).2 e)) ?_ H.sb (H.ok.putWai hx hn))
  · simpa [lcells, waiL] using k1
  · simpa [waiL, tks_snoc] using k2
  · rintro i hi0 hi1 hp
    match i, hi0, hi1, hp with
    | 1, _, _, hp => exact hp
    | 2, _, _, hp => exact hp
    | 4, _, _, hp => exact hp
    | 5, _, _, hp => exact hp
    | 6, _, _, hp => exact hp
    | 7, _, _, hp => exact hp
    | i + 8, _, _, hp => exact hp
end
end Go.Proofs.Ytipbimbnpikbcaa
