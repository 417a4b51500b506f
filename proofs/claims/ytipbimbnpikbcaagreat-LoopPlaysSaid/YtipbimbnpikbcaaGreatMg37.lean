import Derived.Test.YtipbimbnpikbcaaGreatMg20
import Derived.Test.YtipbimbnpikbcaaGreatMg36
import Derived.Test.YtipbimbnpikbcaaGreatMg26
import Derived.Test.YtipbimbnpikbcaaGreatMg34
import Derived.Test.YtipbimbnpikbcaaGreatMg28
import Derived.Test.YtipbimbnpikbcaaGreatProg
import Derived.Test.YtipbimbnpikbcaaGreatMg01
/- One act, done to the document's loop. -/
namespace Go.Proofs.YtipbimbnpikbcaaGreat
open Go.RowKit

set_option maxHeartbeats 4000000 in
set_option maxRecDepth 100000 in
theorem means_act {w : World} {b : Nat} {s : Lp} {F : Nat → Prop} (h : RLoopQ w b s F) (k : Nat) (hk : k % 16 ≤ 11) (a c : Int) (hn : wgt s < 1000000) :
    Calls Tryz.prog 11 #[.pointer (some ⟨b, 0, none⟩), .agg #[.int .u8 (k : Int), .int .i64 a, .int .i64 c]] w fun e w' => e = .returned (.tuple #[.int .i64 (actL s (k % 16) a c).2.1, .int .i64 (actL s (k % 16) a c).2.2]) ∧ RLeft w w' b F (actL s (k % 16) a c).1 := by
  obtain ⟨R, hR⟩ : ∃ R, actL s (k % 16) a c = R := ⟨_, rfl⟩
  rw [hR]
  have HR := Lib.hid hR
  clear hR
  have HN := Lib.hid (wgt_le (Nat.le_refl (wgt s)) hn)
  have HS := Lib.hid (settle_le s a c)
  have T := (Tch.refl NoBlk w).alloc (.cells #[.int .u8 (k : Int), .int .i64 a, .int .i64 c] 33)
  have hA : Blk (w.alloc (.cells #[.int .u8 (k : Int), .int .i64 a, .int .i64 c] 33)) w.heap.size 33 [.int .u8 (k : Int), .int .i64 a, .int .i64 c] := heap_alloc_new w _
  have HQ := Lib.hid (h.keep T (fun _ _ h => h))
  have HT := Lib.hid T
  have x0 := hA.cellOf 0 _ rfl
  have x1 := hA.cellOf 1 _ rfl
  have x2 := hA.cellOf 2 _ rfl
  clear T hA h hn
  go_enter Tryz.func11, Tryz.ntmps11
  go_upto_region 1 with fail
  generalize w.alloc (.cells #[.int .u8 (k : Int), .int .i64 a, .int .i64 c] 33) = w1 at *
  generalize w.heap.size = z at *
  rcases (show k % 16 = 0 ∨ k % 16 = 1 ∨ k % 16 = 2 ∨ k % 16 = 3 ∨ k % 16 = 4 ∨ k % 16 = 5 ∨ k % 16 = 6 ∨ k % 16 = 7 ∨ k % 16 = 8 ∨ k % 16 = 9 ∨ k % 16 = 10 ∨ k % 16 = 11 by omega) with hq | hq | hq | hq | hq | hq | hq | hq | hq | hq | hq | hq
  · have hmq : (k : Int) % 16 = 0 := by omega
    have hmt : (k : Int).tmod 16 = 0 := by rw [Int.tmod_eq_emod_of_nonneg (by omega)]; omega
    have HE := Lib.hid hq
    have HC := Lib.hid (rl_spawn HQ.out a HN.out.1)
    clear hq
    go_wp2_with fail
    refine HC.out.mono ?_
    rintro e w2 ⟨rfl, h2⟩
    have H2 := Lib.hid (h2.ahead HT.out)
    clear h2 HC
    go_wp2
    go_ret2
    rw [← HR.out, HE.out]
    exact ⟨rfl, H2.out⟩
  · have hmq : (k : Int) % 16 = 1 := by omega
    have hmt : (k : Int).tmod 16 = 1 := by rw [Int.tmod_eq_emod_of_nonneg (by omega)]; omega
    have HE := Lib.hid hq
    have HC := Lib.hid (rl_micro HQ.out a HN.out.2.1)
    clear hq
    go_wp2_with fail
    refine HC.out.mono ?_
    rintro e w2 ⟨rfl, h2⟩
    have H2 := Lib.hid (h2.ahead HT.out)
    clear h2 HC
    go_wp2
    go_ret2
    rw [← HR.out, HE.out]
    exact ⟨rfl, H2.out⟩
  · have hmq : (k : Int) % 16 = 2 := by omega
    have hmt : (k : Int).tmod 16 = 2 := by rw [Int.tmod_eq_emod_of_nonneg (by omega)]; omega
    have HE := Lib.hid hq
    have HC := Lib.hid (rl_after HQ.out c a)
    clear hq
    go_wp2_with fail
    refine HC.out.mono ?_
    rintro e w2 ⟨rfl, h2⟩
    have H2 := Lib.hid (h2.ahead HT.out)
    clear h2 HC
    go_wp2
    go_ret2
    rw [← HR.out, HE.out]
    exact ⟨rfl, H2.out⟩
  · have hmq : (k : Int) % 16 = 3 := by omega
    have hmt : (k : Int).tmod 16 = 3 := by rw [Int.tmod_eq_emod_of_nonneg (by omega)]; omega
    have HE := Lib.hid hq
    have HC := Lib.hid (rl_resume HQ.out a HN.out.1)
    clear hq
    go_wp2_with fail
    refine HC.out.mono ?_
    rintro e w2 ⟨rfl, h2⟩
    have H2 := Lib.hid (h2.ahead HT.out)
    clear h2 HC
    go_wp2
    go_ret2
    rw [← HR.out, HE.out]
    exact ⟨rfl, H2.out⟩
  · have hmq : (k : Int) % 16 = 4 := by omega
    have hmt : (k : Int).tmod 16 = 4 := by rw [Int.tmod_eq_emod_of_nonneg (by omega)]; omega
    have HE := Lib.hid hq
    have HC := Lib.hid (rl_cancel HQ.out a)
    clear hq
    go_wp2_with fail
    refine HC.out.mono ?_
    rintro e w2 ⟨rfl, h2⟩
    have H2 := Lib.hid (h2.ahead HT.out)
    clear h2 HC
    go_wp2
    go_ret2
    rw [← HR.out, HE.out]
    exact ⟨rfl, H2.out⟩
  · have hmq : (k : Int) % 16 = 5 := by omega
    have hmt : (k : Int).tmod 16 = 5 := by rw [Int.tmod_eq_emod_of_nonneg (by omega)]; omega
    have HE := Lib.hid hq
    have HC := Lib.hid (rl_pmake HQ.out)
    clear hq
    go_wp2_with fail
    refine HC.out.mono ?_
    rintro e w2 ⟨rfl, h2⟩
    have H2 := Lib.hid (h2.ahead HT.out)
    clear h2 HC
    go_wp2
    go_ret2
    rw [← HR.out, HE.out]
    exact ⟨rfl, H2.out⟩
  · have hmq : (k : Int) % 16 = 6 := by omega
    have hmt : (k : Int).tmod 16 = 6 := by rw [Int.tmod_eq_emod_of_nonneg (by omega)]; omega
    have HE := Lib.hid hq
    have HC := Lib.hid (rl_settle HQ.out a c (by have := HS.out; have := HN.out; omega))
    clear hq
    go_wp2_with fail
    refine HC.out.mono ?_
    rintro e w2 ⟨rfl, h2⟩
    have H2 := Lib.hid (h2.ahead HT.out)
    clear h2 HC
    go_wp2
    go_ret2
    rw [← HR.out, HE.out]
    exact ⟨rfl, H2.out⟩
  · have hmq : (k : Int) % 16 = 7 := by omega
    have hmt : (k : Int).tmod 16 = 7 := by rw [Int.tmod_eq_emod_of_nonneg (by omega)]; omega
    have HE := Lib.hid hq
    have HC := Lib.hid (rl_then HQ.out a c HN.out.2.1)
    clear hq
    go_wp2_with fail
    refine HC.out.mono ?_
    rintro e w2 ⟨rfl, h2⟩
    have H2 := Lib.hid (h2.ahead HT.out)
    clear h2 HC
    go_wp2
    go_ret2
    rw [← HR.out, HE.out]
    exact ⟨rfl, H2.out⟩
  · have hmq : (k : Int) % 16 = 8 := by omega
    have hmt : (k : Int).tmod 16 = 8 := by rw [Int.tmod_eq_emod_of_nonneg (by omega)]; omega
    have HE := Lib.hid hq
    have HC := Lib.hid (rl_stream HQ.out a)
    clear hq
    go_wp2_with fail
    refine HC.out.mono ?_
    rintro e w2 ⟨rfl, h2⟩
    have H2 := Lib.hid (h2.ahead HT.out)
    clear h2 HC
    go_wp2
    go_ret2
    rw [← HR.out, HE.out]
    exact ⟨rfl, H2.out⟩
  · have hmq : (k : Int) % 16 = 9 := by omega
    have hmt : (k : Int).tmod 16 = 9 := by rw [Int.tmod_eq_emod_of_nonneg (by omega)]; omega
    have HE := Lib.hid hq
    have HC := Lib.hid (rl_write HQ.out a c HN.out.2.2.2)
    clear hq
    go_wp2_with fail
    refine HC.out.mono ?_
    rintro e w2 ⟨rfl, h2⟩
    have H2 := Lib.hid (h2.ahead HT.out)
    clear h2 HC
    go_wp2
    go_ret2
    rw [← HR.out, HE.out]
    exact ⟨rfl, H2.out⟩
  · have hmq : (k : Int) % 16 = 10 := by omega
    have hmt : (k : Int).tmod 16 = 10 := by rw [Int.tmod_eq_emod_of_nonneg (by omega)]; omega
    have HE := Lib.hid hq
    have HC := Lib.hid (rl_read HQ.out a HN.out.2.2.2)
    clear hq
    go_wp2_with fail
    refine HC.out.mono ?_
    rintro e w2 ⟨rfl, h2⟩
    have H2 := Lib.hid (h2.ahead HT.out)
    clear h2 HC
    go_wp2
    go_ret2
    rw [← HR.out, HE.out]
    exact ⟨rfl, H2.out⟩
  · have hmq : (k : Int) % 16 = 11 := by omega
    have hmt : (k : Int).tmod 16 = 11 := by rw [Int.tmod_eq_emod_of_nonneg (by omega)]; omega
    have HE := Lib.hid hq
    have HC := Lib.hid (rl_advance HQ.out a HN.out.2.2.1)
    clear hq
    go_wp2_with fail
    refine HC.out.mono ?_
    rintro e w2 ⟨rfl, h2⟩
    have H2 := Lib.hid (h2.ahead HT.out)
    clear h2 HC
    go_wp2
    go_ret2
    rw [← HR.out, HE.out]
    exact ⟨rfl, H2.out⟩
end Go.Proofs.YtipbimbnpikbcaaGreat

/- The document's loop is made; a loop is not made; the first acts. -/
namespace Go.Proofs.YtipbimbnpikbcaaGreat
open Go.RowKit

theorem rloop_new (w : World) {k : Nat} (h1 : 1 ≤ k) (h2 : k ≤ 64) :
    RLoopQ (w.alloc (.cells #[.int .i64 k, .int .i64 0, .int .i64 (-1), .slice none 0 0, .slice none 0 0, .slice none 0 0, .slice none 0 0, .int .i64 0, .slice none 0 0, .slice none 0 0, .slice none 0 0, .slice none 0 0] 58)) w.heap.size (newL k) (fun i => i = w.heap.size) := by
  refine ⟨⟨none, 0, none, none, 0, none, none, 0, none, none, 0, none, .slice none 0 0, .int .i64 0, .slice none 0 0, .slice none 0 0, .slice none 0 0, []⟩, fun i j => i = 0 ∧ j = w.heap.size, ⟨fun i => ?_, fun i j k hi hj => hi.1.trans hj.1.symm, rfl, newL_ok h1 h2⟩, fun j => by simp⟩
  match i with
  | 0 => exact ⟨Blk.new w _ _, by simp⟩
  | 1 => exact ⟨Rw.nil _ _ _, by simp⟩
  | 2 => exact ⟨Rw.nil _ _ _, by simp⟩
  | 3 => exact ⟨Rw.nil _ _ _, by simp⟩
  | 4 => exact ⟨none, 0, none, ⟨Blk.new w _ _, rfl, rfl, Sl.nil _ _ _, by simp, by simp [newL]⟩, by simp⟩
  | 5 => exact ⟨[], none, 0, none, ⟨Blk.new w _ _, rfl, Sl.nil _ _ _, by simp, by simp, by simp, by simp, by simp, by simp⟩, rfl, by simp⟩
  | 6 => exact ⟨[], none, 0, none, none, 0, none, ⟨Blk.new w _ _, rfl, rfl, Sl.nil _ _ _, Sl.nil _ _ _, by simp, by simp, by simp, rfl⟩, (newL_ok h1 h2).tree, fun j h => by simp [newL] at h, by simp⟩
  | 7 => exact ⟨Sl.nil _ _ _, by simp⟩
  | i + 8 =>
    unfold RPart
    simp [newL, RSPart]
theorem rl_new_yes (k : Nat) (w : World) (h1 : 1 ≤ k) (h2 : k ≤ 64) :
    Calls Tryz.prog 6 #[.int .i64 k] w fun e w' => ∃ b F, e = .returned (.tuple #[.pointer (some ⟨b, 0, none⟩), .int .i64 0]) ∧ RLoopQ w' b (newL k) F ∧ (∀ i, F i → w.heap.size ≤ i) ∧ Tch NoBlk w w' := by
  have d1 : decide ((k : Int) < 1) = false := by simp; omega
  have d2 : decide ((64 : Int) < (k : Int)) = false := by simp; omega
  have HQ := Lib.hid (rloop_new w h1 h2)
  go_enter Tryz.func6, Tryz.ntmps6
  go_wp2
  go_ret2
  exact ⟨w.heap.size, _, rfl, HQ.out, fun i hi => by omega, (Tch.refl NoBlk w).alloc _⟩
theorem rl_new_no (k : Int) (w : World) (h : k < 1 ∨ 64 < k) :
    Calls Tryz.prog 6 #[.int .i64 k] w fun e w' => e = .returned (.tuple #[.pointer none, .int .i64 1]) ∧ w' = w := by
  by_cases h1 : k < 1
  · have d1 : decide (k < 1) = true := by simpa using h1
    clear h
    go_enter Tryz.func6, Tryz.ntmps6
    go_wp2
    go_ret2
    exact ⟨rfl, rfl⟩
  · have d1 : decide (k < 1) = false := by simpa using h1
    have d2 : (64 : Int) < k := by omega
    have d3 : decide ((64 : Int) < k) = true := by simpa using d2
    clear h
    go_enter Tryz.func6, Tryz.ntmps6
    go_wp2
    go_ret2
    exact ⟨rfl, rfl⟩
theorem loop_new_no (k : Int) (w : World) (h : k < 1 ∨ 64 < k) :
    Calls Tryz.prog 5 #[.int .i64 k] w fun e w' => e = .returned (.tuple #[.pointer none, .int .i64 1]) ∧ w' = w := by
  by_cases h1 : k < 1
  · have d1 : decide (k < 1) = true := by simpa using h1
    clear h
    go_enter Tryz.func5, Tryz.ntmps5
    go_wp2
    go_ret2
    exact ⟨rfl, rfl⟩
  · have d1 : decide (k < 1) = false := by simpa using h1
    have d2 : (64 : Int) < k := by omega
    have d3 : decide ((64 : Int) < k) = true := by simpa using d2
    clear h
    go_enter Tryz.func5, Tryz.ntmps5
    go_wp2
    go_ret2
    exact ⟨rfl, rfl⟩
theorem few_acts (a : Option Addr) (len cap : Nat) (w : World) (hle : len ≤ cap) (hc : cap ≤ 9223372036854775807) :
    Calls Tryz.prog 7 #[.slice a len cap] w fun e w' => e = .returned (.slice a (min len 150) cap) ∧ w' = w := by
  obtain ⟨n, hn⟩ : ∃ n, min len 150 = n := ⟨_, rfl⟩
  rw [hn]
  have hI : min (len : Int) 150 = (n : Int) := by omega
  have hnl : n ≤ len := by omega
  go_enter Tryz.func7, Tryz.ntmps7
  go_wp2_with fail
  all_goals
    go_ret
    exact ⟨rfl, rfl⟩
end Go.Proofs.YtipbimbnpikbcaaGreat

/- A law's loop: Advance. -/
namespace Go.Proofs.YtipbimbnpikbcaaGreat
open Go.RowKit

theorem lpi_advance {w0 w : World} {b : Nat} {s s' : Lp} {O : Nat → Prop} (h : LpI w0 w b s O) (now : Int) (hn : s.mac.length + s.L.length < 1000000) (hm : advL s.L.length s now = s') :
    Calls Tryz.prog 34 #[.pointer (some ⟨b, 0, none⟩), .int .i64 now] w fun e w' => e = .returned (.tuple #[]) ∧ LpI w0 w' b s' O ∧ Tch (Oth w0 O) w w' :=
  h.via (fun _ q => by have := loop_advance q now hn; rw [hm] at this; exact this)
end Go.Proofs.YtipbimbnpikbcaaGreat

/- One act, done to a loop. -/
namespace Go.Proofs.YtipbimbnpikbcaaGreat
open Go.RowKit

set_option maxHeartbeats 4000000 in
set_option maxRecDepth 100000 in
theorem does_act {w : World} {b : Nat} {s : Lp} {F : Nat → Prop} (h : LoopQ w b s F) (k : Nat) (hk : k % 16 ≤ 11) (a c : Int) (hn : wgt s < 1000000) :
    Calls Tryz.prog 10 #[.pointer (some ⟨b, 0, none⟩), .agg #[.int .u8 (k : Int), .int .i64 a, .int .i64 c]] w fun e w' => e = .returned (.tuple #[.int .i64 (actL s (k % 16) a c).2.1, .int .i64 (actL s (k % 16) a c).2.2]) ∧ LoopLeft w w' b F (actL s (k % 16) a c).1 := by
  obtain ⟨R, hR⟩ : ∃ R, actL s (k % 16) a c = R := ⟨_, rfl⟩
  rw [hR]
  have HR := Lib.hid hR
  clear hR
  have HN := Lib.hid (wgt_le (Nat.le_refl (wgt s)) hn)
  have HS := Lib.hid (settle_le s a c)
  have T := (Tch.refl NoBlk w).alloc (.cells #[.int .u8 (k : Int), .int .i64 a, .int .i64 c] 33)
  have hA : Blk (w.alloc (.cells #[.int .u8 (k : Int), .int .i64 a, .int .i64 c] 33)) w.heap.size 33 [.int .u8 (k : Int), .int .i64 a, .int .i64 c] := heap_alloc_new w _
  have HQ := Lib.hid (h.keep T (fun _ _ h => h))
  have HT := Lib.hid T
  have x0 := hA.cellOf 0 _ rfl
  have x1 := hA.cellOf 1 _ rfl
  have x2 := hA.cellOf 2 _ rfl
  clear T hA h hn
  go_enter Tryz.func10, Tryz.ntmps10
  go_upto_region 1 with fail
  generalize w.alloc (.cells #[.int .u8 (k : Int), .int .i64 a, .int .i64 c] 33) = w1 at *
  generalize w.heap.size = z at *
  rcases (show k % 16 = 0 ∨ k % 16 = 1 ∨ k % 16 = 2 ∨ k % 16 = 3 ∨ k % 16 = 4 ∨ k % 16 = 5 ∨ k % 16 = 6 ∨ k % 16 = 7 ∨ k % 16 = 8 ∨ k % 16 = 9 ∨ k % 16 = 10 ∨ k % 16 = 11 by omega) with hq | hq | hq | hq | hq | hq | hq | hq | hq | hq | hq | hq
  · have hmq : (k : Int) % 16 = 0 := by omega
    have hmt : (k : Int).tmod 16 = 0 := by rw [Int.tmod_eq_emod_of_nonneg (by omega)]; omega
    have HE := Lib.hid hq
    have HC := Lib.hid (loop_spawn HQ.out a HN.out.1)
    clear hq
    go_wp2_with fail
    refine HC.out.mono ?_
    rintro e w2 ⟨rfl, h2⟩
    have H2 := Lib.hid (h2.ahead HT.out)
    clear h2 HC
    go_wp2
    go_ret2
    rw [← HR.out, HE.out]
    exact ⟨rfl, H2.out⟩
  · have hmq : (k : Int) % 16 = 1 := by omega
    have hmt : (k : Int).tmod 16 = 1 := by rw [Int.tmod_eq_emod_of_nonneg (by omega)]; omega
    have HE := Lib.hid hq
    have HC := Lib.hid (loop_micro HQ.out a HN.out.2.1)
    clear hq
    go_wp2_with fail
    refine HC.out.mono ?_
    rintro e w2 ⟨rfl, h2⟩
    have H2 := Lib.hid (h2.ahead HT.out)
    clear h2 HC
    go_wp2
    go_ret2
    rw [← HR.out, HE.out]
    exact ⟨rfl, H2.out⟩
  · have hmq : (k : Int) % 16 = 2 := by omega
    have hmt : (k : Int).tmod 16 = 2 := by rw [Int.tmod_eq_emod_of_nonneg (by omega)]; omega
    have HE := Lib.hid hq
    have HC := Lib.hid (loop_after HQ.out c a)
    clear hq
    go_wp2_with fail
    refine HC.out.mono ?_
    rintro e w2 ⟨rfl, h2⟩
    have H2 := Lib.hid (h2.ahead HT.out)
    clear h2 HC
    go_wp2
    go_ret2
    rw [← HR.out, HE.out]
    exact ⟨rfl, H2.out⟩
  · have hmq : (k : Int) % 16 = 3 := by omega
    have hmt : (k : Int).tmod 16 = 3 := by rw [Int.tmod_eq_emod_of_nonneg (by omega)]; omega
    have HE := Lib.hid hq
    have HC := Lib.hid (loop_resume HQ.out a HN.out.1)
    clear hq
    go_wp2_with fail
    refine HC.out.mono ?_
    rintro e w2 ⟨rfl, h2⟩
    have H2 := Lib.hid (h2.ahead HT.out)
    clear h2 HC
    go_wp2
    go_ret2
    rw [← HR.out, HE.out]
    exact ⟨rfl, H2.out⟩
  · have hmq : (k : Int) % 16 = 4 := by omega
    have hmt : (k : Int).tmod 16 = 4 := by rw [Int.tmod_eq_emod_of_nonneg (by omega)]; omega
    have HE := Lib.hid hq
    have HC := Lib.hid (loop_cancel HQ.out a)
    clear hq
    go_wp2_with fail
    refine HC.out.mono ?_
    rintro e w2 ⟨rfl, h2⟩
    have H2 := Lib.hid (h2.ahead HT.out)
    clear h2 HC
    go_wp2
    go_ret2
    rw [← HR.out, HE.out]
    exact ⟨rfl, H2.out⟩
  · have hmq : (k : Int) % 16 = 5 := by omega
    have hmt : (k : Int).tmod 16 = 5 := by rw [Int.tmod_eq_emod_of_nonneg (by omega)]; omega
    have HE := Lib.hid hq
    have HC := Lib.hid (loop_promise HQ.out)
    clear hq
    go_wp2_with fail
    refine HC.out.mono ?_
    rintro e w2 ⟨rfl, h2⟩
    have H2 := Lib.hid (h2.ahead HT.out)
    clear h2 HC
    go_wp2
    go_ret2
    rw [← HR.out, HE.out]
    exact ⟨rfl, H2.out⟩
  · have hmq : (k : Int) % 16 = 6 := by omega
    have hmt : (k : Int).tmod 16 = 6 := by rw [Int.tmod_eq_emod_of_nonneg (by omega)]; omega
    have HE := Lib.hid hq
    have HC := Lib.hid (loop_settle HQ.out a c (by have := HS.out; have := HN.out; omega))
    clear hq
    go_wp2_with fail
    refine HC.out.mono ?_
    rintro e w2 ⟨rfl, h2⟩
    have H2 := Lib.hid (h2.ahead HT.out)
    clear h2 HC
    go_wp2
    go_ret2
    rw [← HR.out, HE.out]
    exact ⟨rfl, H2.out⟩
  · have hmq : (k : Int) % 16 = 7 := by omega
    have hmt : (k : Int).tmod 16 = 7 := by rw [Int.tmod_eq_emod_of_nonneg (by omega)]; omega
    have HE := Lib.hid hq
    have HC := Lib.hid (loop_then HQ.out a c HN.out.2.1)
    clear hq
    go_wp2_with fail
    refine HC.out.mono ?_
    rintro e w2 ⟨rfl, h2⟩
    have H2 := Lib.hid (h2.ahead HT.out)
    clear h2 HC
    go_wp2
    go_ret2
    rw [← HR.out, HE.out]
    exact ⟨rfl, H2.out⟩
  · have hmq : (k : Int) % 16 = 8 := by omega
    have hmt : (k : Int).tmod 16 = 8 := by rw [Int.tmod_eq_emod_of_nonneg (by omega)]; omega
    have HE := Lib.hid hq
    have HC := Lib.hid (loop_stream HQ.out a)
    clear hq
    go_wp2_with fail
    refine HC.out.mono ?_
    rintro e w2 ⟨rfl, h2⟩
    have H2 := Lib.hid (h2.ahead HT.out)
    clear h2 HC
    go_wp2
    go_ret2
    rw [← HR.out, HE.out]
    exact ⟨rfl, H2.out⟩
  · have hmq : (k : Int) % 16 = 9 := by omega
    have hmt : (k : Int).tmod 16 = 9 := by rw [Int.tmod_eq_emod_of_nonneg (by omega)]; omega
    have HE := Lib.hid hq
    have HC := Lib.hid (loop_write HQ.out a c HN.out.2.2.2)
    clear hq
    go_wp2_with fail
    refine HC.out.mono ?_
    rintro e w2 ⟨rfl, h2⟩
    have H2 := Lib.hid (h2.ahead HT.out)
    clear h2 HC
    go_wp2
    go_ret2
    rw [← HR.out, HE.out]
    exact ⟨rfl, H2.out⟩
  · have hmq : (k : Int) % 16 = 10 := by omega
    have hmt : (k : Int).tmod 16 = 10 := by rw [Int.tmod_eq_emod_of_nonneg (by omega)]; omega
    have HE := Lib.hid hq
    have HC := Lib.hid (loop_read HQ.out a HN.out.2.2.2)
    clear hq
    go_wp2_with fail
    refine HC.out.mono ?_
    rintro e w2 ⟨rfl, h2⟩
    have H2 := Lib.hid (h2.ahead HT.out)
    clear h2 HC
    go_wp2
    go_ret2
    rw [← HR.out, HE.out]
    exact ⟨rfl, H2.out⟩
  · have hmq : (k : Int) % 16 = 11 := by omega
    have hmt : (k : Int).tmod 16 = 11 := by rw [Int.tmod_eq_emod_of_nonneg (by omega)]; omega
    have HE := Lib.hid hq
    have HC := Lib.hid (loop_advance HQ.out a HN.out.2.2.1)
    clear hq
    go_wp2_with fail
    refine HC.out.mono ?_
    rintro e w2 ⟨rfl, h2⟩
    have H2 := Lib.hid (h2.ahead HT.out)
    clear h2 HC
    go_wp2
    go_ret2
    rw [← HR.out, HE.out]
    exact ⟨rfl, H2.out⟩
end Go.Proofs.YtipbimbnpikbcaaGreat

/- A row of acts that came in: a small number (below 256) and two numbers each. -/
namespace Go.Proofs.YtipbimbnpikbcaaGreat
open Go.RowKit Go.Deep

abbrev Ak := Nat × Int × Int
def ak0 : Ak := (0, 0, 0)

theorem acts_of {H : Type} {enc : TypeId × Value → H} {w : World} {base : Nat} {held : Bool} (V : Nat → Nat → Value) (len : Nat)
    (h : ∀ i, i < len → (∃ (n : Nat) (y : DataW H × List MemPlace), DataW.trod enc Tryz.prog w base (fun _ => true) held n 5 [V i 0] = some y) ∧
      (∃ (n : Nat) (y : DataW H × List MemPlace), DataW.trod enc Tryz.prog w base (fun _ => true) held n 3 [V i 1] = some y) ∧
      (∃ (n : Nat) (y : DataW H × List MemPlace), DataW.trod enc Tryz.prog w base (fun _ => true) held n 3 [V i 2] = some y)) :
    ∃ l : List Ak, l.length = len ∧ ∀ i, i < l.length → (V i 0 = .int .u8 ((l.getD i ak0).1 : Int) ∧ (l.getD i ak0).1 ≤ 255) ∧ V i 1 = .int .i64 (l.getD i ak0).2.1 ∧ V i 2 = .int .i64 (l.getD i ak0).2.2 := by
  have each : ∀ i, i < len → ∃ x : Ak, (V i 0 = .int .u8 (x.1 : Int) ∧ x.1 ≤ 255) ∧ V i 1 = .int .i64 x.2.1 ∧ V i 2 = .int .i64 x.2.2 := by
    intro i hi
    obtain ⟨⟨n1, y1, e1⟩, ⟨n2, y2, e2⟩, ⟨n3, y3, e3⟩⟩ := h i hi
    obtain ⟨k, hk, _, hw⟩ := DataW.trod_int Tryz.underlying5 e1
    obtain ⟨x, hx, _⟩ := DataW.trod_int Tryz.underlying3 e2
    obtain ⟨y, hy, _⟩ := DataW.trod_int Tryz.underlying3 e3
    simp only [List.cons.injEq, and_true] at hk hx hy
    obtain ⟨a0, a1⟩ := wf_bounds hw
    simp only [IntKind.min, IntKind.max, IntKind.signed, IntKind.bits] at a0 a1
    obtain ⟨m, rfl⟩ := Int.eq_ofNat_of_zero_le (show 0 ≤ k by simpa using a0)
    exact ⟨(m, x, y), ⟨hk, by simp at a1; omega⟩, hx, hy⟩
  obtain ⟨f, hf⟩ := choose_lt each
  refine ⟨(List.range len).map f, by simp, fun i hi => ?_⟩
  have hi' : i < len := by simpa using hi
  have e : ((List.range len).map f).getD i ak0 = f i := by simp [List.getD_eq_getElem?_getD, hi']
  rw [e]
  exact hf i hi'
end Go.Proofs.YtipbimbnpikbcaaGreat
