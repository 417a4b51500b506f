import Derived.Test.YtipbimbnpikbcaaGreatProg
import Derived.Test.YtipbimbnpikbcaaGreatMg01
/- The ring: a row of numbers, first in, first out. What its functions do, said of the list of numbers that it holds. -/
namespace Go.Proofs.YtipbimbnpikbcaaGreat
open Go.RowKit

/-- The cells of a ring. -/
def ringCells (it : List Int) (f n m : Nat) : List Value := it.map (fun x => Value.int .i64 x) ++ [.int .i64 f, .int .i64 n, .int .i64 m]

structure RingAt (w : World) (b : Nat) (it : List Int) (f n m : Nat) : Prop where
  blk : Blk w b 154 (ringCells it f n m)
  len : it.length = 256
  hf : f < 256
  hn : n ≤ m
  hm : m ≤ 256

/-- The ring at block b has room for m, and holds q. -/
def RingQ (w : World) (b m : Nat) (q : List Int) : Prop :=
  ∃ it f, RingAt w b it f q.length m ∧ ∀ i, i < q.length → it.getD ((f + i) % 256) 0 = q.getD i 0

namespace RingAt
variable {w : World} {b : Nat} {it : List Int} {f n m : Nat}
theorem item (h : RingAt w b it f n m) (i : Nat) (hi : i < 256) : w.cell? ⟨b, i, none⟩ = some (.int .i64 (it.getD i 0)) := by
  refine h.blk.cellOf i _ ?_
  have := h.len
  unfold ringCells
  rw [List.getElem?_append_left (by simp; omega), List.getElem?_map, List.getElem?_eq_getElem (by omega)]
  simp [List.getD_eq_getElem?_getD, List.getElem?_eq_getElem (show i < it.length by omega)]
theorem cf (h : RingAt w b it f n m) : w.cell? ⟨b, 256, none⟩ = some (.int .i64 f) := by
  refine h.blk.cellOf _ _ ?_
  have := h.len
  unfold ringCells
  rw [List.getElem?_append_right (by simp; omega)]
  simp [this]
theorem cn (h : RingAt w b it f n m) : w.cell? ⟨b, 257, none⟩ = some (.int .i64 n) := by
  refine h.blk.cellOf _ _ ?_
  have := h.len
  unfold ringCells
  rw [List.getElem?_append_right (by simp; omega)]
  simp [this]
theorem cm (h : RingAt w b it f n m) : w.cell? ⟨b, 258, none⟩ = some (.int .i64 m) := by
  refine h.blk.cellOf _ _ ?_
  have := h.len
  unfold ringCells
  rw [List.getElem?_append_right (by simp; omega)]
  simp [this]
theorem put (h : RingAt w b it f n m) (i : Nat) (hi : i < 256) (x : Int) : RingAt (w.setCell ⟨b, i, none⟩ (.int .i64 x)) b (it.set i x) f n m := by
  refine ⟨?_, by simp [h.len], h.hf, h.hn, h.hm⟩
  have h1 := h.blk.set i (.int .i64 x)
  have e : (ringCells it f n m).set i (.int .i64 x) = ringCells (it.set i x) f n m := by
    unfold ringCells
    rw [List.set_append_left _ _ (by simp [h.len]; omega), List.map_set]
  rwa [e] at h1
theorem setF (h : RingAt w b it f n m) (g : Nat) (hg : g < 256) : RingAt (w.setCell ⟨b, 256, none⟩ (.int .i64 g)) b it g n m := by
  refine ⟨?_, h.len, hg, h.hn, h.hm⟩
  have h1 := h.blk.set 256 (.int .i64 g)
  have e : (ringCells it f n m).set 256 (.int .i64 g) = ringCells it g n m := by
    unfold ringCells
    rw [List.set_append_right _ _ (by simp [h.len])]
    simp [h.len]
  rwa [e] at h1
theorem setN (h : RingAt w b it f n m) (g : Nat) (hg : g ≤ m) : RingAt (w.setCell ⟨b, 257, none⟩ (.int .i64 g)) b it f g m := by
  refine ⟨?_, h.len, h.hf, hg, h.hm⟩
  have h1 := h.blk.set 257 (.int .i64 g)
  have e : (ringCells it f n m).set 257 (.int .i64 g) = ringCells it f g m := by
    unfold ringCells
    rw [List.set_append_right _ _ (by simp [h.len])]
    simp [h.len]
  rwa [e] at h1
theorem free (h : RingAt w b it f n m) (i : Nat) : w.frozen? ⟨b, i, none⟩ = false := h.blk.free i
theorem drewN (h : RingAt w b it f n m) (k : Nat) : RingAt (w.drewN k) b it f n m := ⟨h.blk, h.len, h.hf, h.hn, h.hm⟩
end RingAt

theorem RingQ.keep {S : Nat → Prop} {w w' : World} {b m : Nat} {q : List Int} (h : RingQ w b m q) (ht : Tch S w w') (hb : ¬ S b) : RingQ w' b m q := by
  obtain ⟨it, f, hr, hq⟩ := h
  exact ⟨it, f, ⟨hr.blk.keep ht hb, hr.len, hr.hf, hr.hn, hr.hm⟩, hq⟩
theorem RingQ.lt {w : World} {b m : Nat} {q : List Int} (h : RingQ w b m q) : b < w.heap.size := by
  obtain ⟨it, f, hr, hq⟩ := h
  exact hr.blk.lt
theorem RingQ.le {w : World} {b m : Nat} {q : List Int} (h : RingQ w b m q) : q.length ≤ m := by
  obtain ⟨it, f, hr, hq⟩ := h
  exact hr.hn
theorem RingQ.le256 {w : World} {b m : Nat} {q : List Int} (h : RingQ w b m q) : m ≤ 256 := by
  obtain ⟨it, f, hr, hq⟩ := h
  exact hr.hm

/-! ### The walks -/

theorem ring_place (b : Nat) (f i j : Nat) (hj : (f + i) % 256 = j) (w : World) (h1 : w.cell? ⟨b, 256, none⟩ = some (.int .i64 f)) (hf : f < 256) (hi : i ≤ 256) :
    Calls Tryz.prog 102 #[.pointer (some ⟨b, 0, none⟩), .int .i64 i] w fun e w' => e = .returned (.int .i64 j) ∧ w' = w := by
  subst hj
  go_enter Tryz.func102, Tryz.ntmps102
  go_wp2
  go_ret
  exact ⟨rfl, rfl⟩

theorem ring_len (b m : Nat) (q : List Int) (w : World) (h : RingQ w b m q) :
    Calls Tryz.prog 86 #[.pointer (some ⟨b, 0, none⟩)] w fun e w' => e = .returned (.int .i64 q.length) ∧ w' = w := by
  obtain ⟨it, f, hr, hq⟩ := h
  have h1 := hr.cn
  go_enter Tryz.func86, Tryz.ntmps86
  go_wp2
  go_ret
  exact ⟨rfl, rfl⟩

theorem ring_len_nil (w : World) :
    Calls Tryz.prog 86 #[.pointer none] w fun e w' => e = .returned (.int .i64 0) ∧ w' = w := by
  go_enter Tryz.func86, Tryz.ntmps86
  go_wp2
  go_ret
  exact ⟨rfl, rfl⟩

set_option maxRecDepth 100000 in
theorem ring_at_yes (b m : Nat) (q : List Int) (i : Int) (w : World) (h : RingQ w b m q) (h0 : 0 ≤ i) (h1 : i < q.length) :
    Calls Tryz.prog 101 #[.pointer (some ⟨b, 0, none⟩), .int .i64 i] w fun e w' => e = .returned (.tuple #[.int .i64 (q.getD i.toNat 0), .bool true]) ∧ ∃ k, w' = w.drewN k := by
  have hq0 := h
  obtain ⟨it, f, hr, hq⟩ := h
  obtain ⟨n, rfl⟩ := Int.eq_ofNat_of_zero_le h0
  have hn : n < q.length := by omega
  have hit := hr.item ((f + n) % 256) (by omega)
  have := hr.hn
  have := hr.hm
  have := hr.hf
  have hq' := hq n hn
  generalize hj : (f + n) % 256 = j at *
  have HJ := Lib.hid hj
  have hj0 : (0 : Int) ≤ (j : Int) := by omega
  have hj1 : (j : Int) < 256 := by omega
  clear hj
  generalize it.getD j 0 = v at *
  have HQ := Lib.hid hq'
  clear hq hq'
  go_enter Tryz.func101, Tryz.ntmps101
  go_wp2_with (go_at_call 86; refine (ring_len _ _ _ _ hq0).mono ?_; rintro e w' ⟨rfl, rfl⟩)
  go_quiet ((go_at_call 102; exact Calls.quiet_of_same (ring_place _ _ _ _ HJ.out _ hr.cf hr.hf (by omega))))
  go_wp2
  go_ret2
  refine ⟨?_, _, rfl⟩
  show Ending.returned (.tuple #[.int .i64 v, .bool true]) = _
  rw [HQ.out]; rfl

theorem ring_at_no (b m : Nat) (q : List Int) (i : Int) (w : World) (h : RingQ w b m q) (h1 : i < 0 ∨ q.length ≤ i) :
    Calls Tryz.prog 101 #[.pointer (some ⟨b, 0, none⟩), .int .i64 i] w fun e w' => e = .returned (.tuple #[.int .i64 0, .bool false]) ∧ w' = w := by
  by_cases h0 : i < 0
  · go_enter Tryz.func101, Tryz.ntmps101
    go_wp2
    go_ret2
    exact ⟨rfl, rfl⟩
  · have h2 : (q.length : Int) ≤ i := by omega
    clear h1
    go_enter Tryz.func101, Tryz.ntmps101
    go_wp2_with (go_at_call 86; refine (ring_len _ _ _ _ h).mono ?_; rintro e w' ⟨rfl, rfl⟩)
    go_ret2
    exact ⟨rfl, rfl⟩

theorem ring_at_nil (i : Int) (w : World) :
    Calls Tryz.prog 101 #[.pointer none, .int .i64 i] w fun e w' => e = .returned (.tuple #[.int .i64 0, .bool false]) ∧ w' = w := by
  by_cases h0 : i < 0
  · go_enter Tryz.func101, Tryz.ntmps101
    go_wp2
    go_ret2
    exact ⟨rfl, rfl⟩
  · have h2 : 0 ≤ i := by omega
    go_enter Tryz.func101, Tryz.ntmps101
    go_wp2_with (go_at_call 86; refine (ring_len_nil _).mono ?_; rintro e w' ⟨rfl, rfl⟩)
    go_ret2
    exact ⟨rfl, rfl⟩


theorem RingQ.drewN {w : World} {b m : Nat} {q : List Int} (h : RingQ w b m q) (k : Nat) : RingQ (w.drewN k) b m q := by
  obtain ⟨it, f, hr, hq⟩ := h
  exact ⟨it, f, hr.drewN k, hq⟩

theorem RingQ.pushed {w : World} {b m : Nat} {q it : List Int} {f j : Nat} (hr : RingAt w b it f q.length m) (hq : ∀ i, i < q.length → it.getD ((f + i) % 256) 0 = q.getD i 0)
    (hj : (f + q.length) % 256 = j) (hl : q.length < m) (x : Int) (c : Int) (hc : c = q.length + 1) :
    RingQ ((w.setCell ⟨b, j, none⟩ (.int .i64 x)).setCell ⟨b, 257, none⟩ (.int .i64 c)) b m (q ++ [x]) := by
  have hm := hr.hm
  have hlen := hr.len
  subst hc
  refine ⟨it.set j x, f, ?_, ?_⟩
  · rw [List.length_append]
    exact (hr.put _ (by omega) x).setN (q.length + 1) (by omega)
  · intro i hi
    simp only [List.length_append, List.length_cons, List.length_nil] at hi
    rcases Nat.lt_or_ge i q.length with hlt | hge
    · rw [List.getD_eq_getElem?_getD, List.getD_eq_getElem?_getD, List.getElem?_set_ne (by omega), List.getElem?_append_left hlt, ← List.getD_eq_getElem?_getD, ← List.getD_eq_getElem?_getD]
      exact hq i hlt
    · obtain rfl : i = q.length := by omega
      rw [List.getD_eq_getElem?_getD, List.getD_eq_getElem?_getD, hj, List.getElem?_set_self (by omega)]
      simp

theorem addr_ne {b i j : Nat} (h : i ≠ j) : (⟨b, i, none⟩ : Addr) ≠ ⟨b, j, none⟩ := fun e => h (congrArg Addr.off e)

set_option maxRecDepth 100000 in
theorem ring_put_yes (b m : Nat) (q : List Int) (x : Int) (w : World) (h : RingQ w b m q) (hl : q.length < m) :
    Calls Tryz.prog 88 #[.pointer (some ⟨b, 0, none⟩), .int .i64 x] w fun e w' => e = .returned (.bool true) ∧ RingQ w' b m (q ++ [x]) ∧ Tch (· = b) w w' := by
  obtain ⟨it, f, hr, hq⟩ := h
  have hm := hr.hm
  have hf := hr.hf
  obtain ⟨j, hj⟩ : ∃ j, (f + q.length) % 256 = j := ⟨_, rfl⟩
  have hj0 : (0 : Int) ≤ (j : Int) := by omega
  have hj1 : (j : Int) < 256 := by omega
  have HJ := Lib.hid hj
  have hit := hr.item j (by omega)
  have hcn := hr.cn
  have hcm := hr.cm
  have HQ := Lib.hid hq
  clear hq hj
  generalize it.getD j 0 = v at *
  have hd : decide (m ≤ q.length) = false := by simpa using hl
  go_enter Tryz.func88, Tryz.ntmps88
  go_wp2
  go_quiet (fail)
  go_wp2
  obtain ⟨w1, hw⟩ : ∃ w1, w.drewN nq = w1 := ⟨_, rfl⟩
  have hr1 := hr.drewN nq
  rw [hw] at hr1 ⊢
  have HT : Tch (· = b) w w1 := hw ▸ (Tch.refl _ w).drewN nq
  clear hw hcn hcm hit hr
  have hne1 : (⟨b, j, none⟩ : Addr) ≠ ⟨b, 256, none⟩ := addr_ne (by omega)
  have hne2 : (⟨b, j, none⟩ : Addr) ≠ ⟨b, 257, none⟩ := addr_ne (by omega)
  have hit1 := hr1.item j (by omega)
  have hfr1 := hr1.free j
  have hfn1 := hr1.free 257
  have hcf1 := hr1.cf
  have hcn1 := hr1.cn
  have hcm1 := hr1.cm
  have hk : ∀ v, (w1.setCell ⟨b, j, none⟩ (Value.int IntKind.i64 v)).drew.cell? ⟨b, 256, none⟩ = some (Value.int IntKind.i64 f) ∧ (w1.setCell ⟨b, j, none⟩ (Value.int IntKind.i64 v)).drew.cell? ⟨b, 257, none⟩ = some (Value.int IntKind.i64 q.length) :=
    fun v => ⟨(World.cell?_setCell_other _ _ _ _ hne1).trans hcf1, (World.cell?_setCell_other _ _ _ _ hne2).trans hcn1⟩
  go_region_held3 (fun w' => w'.cell? ⟨b, 256, none⟩ = some (.int .i64 f) ∧ w'.cell? ⟨b, 257, none⟩ = some (.int .i64 q.length)) (go_keep)
    (first | (go_at_call 102; refine (ring_place b f q.length j HJ.out _ ?_ hf (by omega)).mono ?_; (simp [*]); rintro e w' ⟨rfl, rfl⟩))
  clear hk
  go_wp2
  go_ret
  exact ⟨rfl, (RingQ.pushed hr1 HQ.out HJ.out hl x _ rfl).drewN 1, ((HT.setCell (fun _ => rfl) _).setCell (fun _ => rfl) _).drewN 1⟩

theorem ring_put_no (b m : Nat) (q : List Int) (x : Int) (w : World) (h : RingQ w b m q) (hl : q.length = m) :
    Calls Tryz.prog 88 #[.pointer (some ⟨b, 0, none⟩), .int .i64 x] w fun e w' => e = .returned (.bool false) ∧ RingQ w' b m q ∧ Tch NoBlk w w' := by
  have hq0 := h
  obtain ⟨it, f, hr, hq⟩ := h
  have hcn := hr.cn
  have hcm := hr.cm
  clear hq hr
  have hl' : m ≤ q.length := by omega
  have hd : decide (m ≤ q.length) = true := by simpa using hl'
  clear hl
  go_enter Tryz.func88, Tryz.ntmps88
  go_wp2
  go_quiet (fail)
  go_wp2
  go_ret
  exact ⟨rfl, hq0.drewN _, (Tch.refl _ _).drewN _⟩

theorem ring_put_nil (x : Int) (w : World) :
    Calls Tryz.prog 88 #[.pointer none, .int .i64 x] w fun e w' => e = .returned (.bool false) ∧ Tch NoBlk w w' := by
  go_enter Tryz.func88, Tryz.ntmps88
  go_wp2
  go_quiet (fail)
  go_wp2
  go_ret
  exact ⟨rfl, (Tch.refl _ _).drewN _⟩

theorem RingQ.popped {w : World} {b m : Nat} {x : Int} {q it : List Int} {f j : Nat} (hr : RingAt w b it f (x :: q).length m) (hq : ∀ i, i < (x :: q).length → it.getD ((f + i) % 256) 0 = (x :: q).getD i 0)
    (hj : (f + 1) % 256 = j) (c : Int) (hc : c = q.length) :
    RingQ ((w.setCell ⟨b, 256, none⟩ (.int .i64 j)).setCell ⟨b, 257, none⟩ (.int .i64 c)) b m q := by
  have hn := hr.hn
  subst hc
  simp only [List.length_cons] at hn hq
  refine ⟨it, j, (hr.setF j (by omega)).setN _ (by omega), fun i hi => ?_⟩
  have := hq (i + 1) (by omega)
  rw [List.getD_cons_succ] at this
  rw [← this]
  congr 1
  omega

theorem ring_take_yes (b m : Nat) (x : Int) (q : List Int) (w : World) (h : RingQ w b m (x :: q)) :
    Calls Tryz.prog 85 #[.pointer (some ⟨b, 0, none⟩)] w fun e w' => e = .returned (.tuple #[.int .i64 x, .bool true]) ∧ RingQ w' b m q ∧ Tch (· = b) w w' := by
  go_enter Tryz.func85, Tryz.ntmps85
  go_wp2_with fail
  refine (ring_at_yes b m (x :: q) 0 w h (by omega) (by simp)).mono ?_
  rintro e w1 ⟨rfl, k, hw⟩
  have h1 : RingQ w1 b m (x :: q) := hw ▸ h.drewN k
  have HT : Tch (· = b) w w1 := hw ▸ (Tch.refl _ w).drewN k
  clear hw h
  obtain ⟨it, f, hr, hq⟩ := h1
  have hf := hr.hf
  have hm := hr.hm
  have HQ := Lib.hid hq
  obtain ⟨j, hj⟩ : ∃ j, (f + 1) % 256 = j := ⟨_, rfl⟩
  have HJ := Lib.hid hj
  clear hq hj
  have hl1 : q.length + 1 ≤ m := by simpa using hr.hn
  have hcf := hr.cf
  have hcn := hr.cn
  have hff := hr.free 256
  have hfn := hr.free 257
  go_wp2_with fail
  refine (ring_place b f 1 j HJ.out _ hcf hf (by omega)).mono ?_
  rintro e w2 ⟨rfl, rfl⟩
  go_wp2
  go_ret2
  exact ⟨rfl, RingQ.popped hr HQ.out HJ.out _ rfl, ((HT.setCell (fun _ => rfl) _).setCell (fun _ => rfl) _)⟩

theorem ring_take_no (b m : Nat) (w : World) (h : RingQ w b m []) :
    Calls Tryz.prog 85 #[.pointer (some ⟨b, 0, none⟩)] w fun e w' => e = .returned (.tuple #[.int .i64 0, .bool false]) ∧ w' = w := by
  go_enter Tryz.func85, Tryz.ntmps85
  go_wp2_with fail
  refine (ring_at_no b m [] 0 w h (Or.inr (by simp))).mono ?_
  rintro e w1 ⟨rfl, rfl⟩
  go_wp2
  go_ret2
  exact ⟨rfl, rfl⟩

theorem ring_take_nil (w : World) :
    Calls Tryz.prog 85 #[.pointer none] w fun e w' => e = .returned (.tuple #[.int .i64 0, .bool false]) ∧ w' = w := by
  go_enter Tryz.func85, Tryz.ntmps85
  go_wp2_with fail
  refine (ring_at_nil 0 w).mono ?_
  rintro e w1 ⟨rfl, rfl⟩
  go_wp2
  go_ret2
  exact ⟨rfl, rfl⟩

theorem ring_new_no (m : Int) (w : World) (h : m < 1 ∨ 256 < m) :
    Calls Tryz.prog 83 #[.int .i64 m] w fun e w' => e = .returned (.tuple #[.pointer none, .int .i64 1]) ∧ w' = w := by
  by_cases h1 : m < 1
  · go_enter Tryz.func83, Tryz.ntmps83
    go_wp2
    go_ret2
    exact ⟨rfl, rfl⟩
  · have h2 : 256 < m := by omega
    clear h
    go_enter Tryz.func83, Tryz.ntmps83
    go_wp2
    go_ret2
    exact ⟨rfl, rfl⟩

def zeros256 : List Int := List.replicate 256 0
theorem zeros256_length : zeros256.length = 256 := List.length_replicate
def ringZero : Array Value := (ringCells zeros256 0 0 0).toArray
theorem ringZero_run (w : World) : (zeroValue 154).run Tryz.prog w = .ok (.agg ringZero) w := by kernel_rfl
theorem ringZero_size : ringZero.size = 259 := by kernel_rfl
theorem ringCells_set (it : List Int) (hl : it.length = 256) (f n m k : Nat) : (ringCells it f n k).set 258 (.int .i64 m) = ringCells it f n m := by
  unfold ringCells
  rw [List.set_append_right _ _ (by simp [hl])]
  simp [hl]
theorem ringZero_set (m : Nat) : ringZero.setIfInBounds 258 (.int .i64 m) = (ringCells zeros256 0 0 m).toArray := by
  unfold ringZero
  rw [List.setIfInBounds_toArray, ringCells_set _ zeros256_length]
theorem RingQ.fresh (w : World) (it : List Int) (hl : it.length = 256) (m : Nat) (h2 : m ≤ 256) : RingQ (w.alloc (.cells (ringCells it 0 0 m).toArray 154 (0, 0))) w.heap.size m [] :=
  ⟨it, 0, ⟨Blk.new w _ _, hl, by omega, Nat.zero_le _, h2⟩, fun i hi => absurd hi (Nat.not_lt_zero _)⟩

theorem ring_new_yes (m : Nat) (w : World) (h1 : 1 ≤ m) (h2 : m ≤ 256) :
    Calls Tryz.prog 83 #[.int .i64 m] w fun e w' => ∃ b, e = .returned (.tuple #[.pointer (some ⟨b, 0, none⟩), .int .i64 0]) ∧ w.heap.size ≤ b ∧ RingQ w' b m [] ∧ Tch NoBlk w w' := by
  obtain ⟨Z, hz, hs, hset⟩ : ∃ Z : Array Value, (∀ w, (zeroValue 154).run Tryz.prog w = .ok (.agg Z) w) ∧ Z.size = 259 ∧ Hid (Z.setIfInBounds 258 (.int .i64 m) = (ringCells zeros256 0 0 m).toArray) :=
    ⟨ringZero, ringZero_run, ringZero_size, ringZero_set m⟩
  go_enter Tryz.func83, Tryz.ntmps83
  go_wp2
  go_ret2
  refine ⟨w.heap.size, rfl, Nat.le_refl _, ?_, (Tch.refl _ _).alloc _⟩
  rw [hset.out]
  exact RingQ.fresh w _ zeros256_length _ h2

end Go.Proofs.YtipbimbnpikbcaaGreat
