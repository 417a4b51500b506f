/- LoopStreams: what is read from a stream is what was written, in its order. -/
import Derived.Test.YtipbimbnpikbcaaLoopStrL
import Derived.Test.YtipbimbnpikbcaaLoopRW
import Derived.Test.YtipbimbnpikbcaaArgs
namespace Go.Proofs.Ytipbimbnpikbcaa
open Go.RowKit

theorem mv_eq {m : Lp × Nat × Int} {x : Nat} {y : Int} (h : m.2 = (x, y)) : m = (m.1, x, y) := by
  obtain ⟨a, b⟩ := m
  dsimp only at h
  rw [h]

set_option maxHeartbeats 8000000 in
set_option maxRecDepth 100000 in
theorem loopStreams_walk (x0 : Int) (a : Option Addr) (cap : Nat) (l : List Bool) (w : World) (h0 : IntKind.u8.min ≤ x0 ∧ x0 ≤ IntKind.u8.max) (h : BoolsIn w a cap l) :
    Calls Try.prog 8 #[.int .u8 x0, .slice a l.length cap] w fun e w' => e = .returned (.bool true) ∧ Below w.heap.size w w' := by
  have b0 : 0 ≤ x0 ∧ x0 ≤ 255 := h0
  clear h0
  obtain ⟨a0, rfl⟩ := Int.eq_ofNat_of_zero_le b0.1
  obtain ⟨n0, hn0⟩ : ∃ n0, n0 = a0 % 32 := ⟨_, rfl⟩
  have u0 : (a0 : Int) % 32 = (n0 : Int) := by omega
  have v0 : (a0 : Int).tmod 32 = (n0 : Int) := by rw [Int.tmod_eq_emod_of_nonneg (by omega)]; exact u0
  have ln : n0 ≤ 31 := by omega
  clear hn0
  have s00 : IntKind.i64.wrap (a0 : Int) = (a0 : Int) := by rw [IntKind.wrap_i64]; omega
  have s0 : IntKind.i64.wrap (n0 : Int) = (n0 : Int) := by rw [IntKind.wrap_i64]; omega
  obtain ⟨n, hn⟩ : ∃ n, n = n0 + 1 := ⟨_, rfl⟩
  have s1 : IntKind.i64.wrap ((n0 : Int) + 1) = (n : Int) := by rw [IntKind.wrap_i64]; omega
  have s2 : (n0 : Int) + 1 = (n : Int) := by omega
  have s3 : IntKind.i64.wrap (n : Int) = (n : Int) := by rw [IntKind.wrap_i64]; omega
  have s4 : IntKind.i64.wrap ((n : Int) + 64) = (n : Int) + 64 := by rw [IntKind.wrap_i64]; omega
  have hn1 : 1 ≤ n := by omega
  have hn32 : n ≤ 32 := by omega
  have HE := Lib.hid h.cells
  have hle := h.le
  have hc := h.cap
  obtain ⟨nn, hnn⟩ : ∃ nn, nn = min l.length 100 := ⟨_, rfl⟩
  have hmin : min (l.length : Int) 100 = (nn : Int) := by omega
  have hnl : nn ≤ l.length := by omega
  have hn100 : nn ≤ 100 := by omega
  clear h hnn hn
  go_enter Try.func8, Try.ntmps8
  go_wp2_with fail
  refine (loop_shown w).mono ?_
  rintro e w1 ⟨rfl, hT1⟩
  have HB1 := Lib.hid (below_no (Below.refl _ w) hT1)
  clear hT1
  go_wp2_with fail
  refine (lpi_new (O := fun _ => False) HB1.out (fun _ h => h.elim) 64 (by omega) (by omega)).mono ?_
  rintro e w2 ⟨b, rfl, hI2, _⟩
  clear HB1
  obtain ⟨sa, ea, ra⟩ := (RS.new 64).stream hn1 hn32
  have HR := Lib.hid ra
  have HC := Lib.hid (lpi_stream hI2 (n : Int) ea)
  clear hI2 ra ea
  go_wp2_with fail
  refine HC.out.mono ?_
  rintro e w3 ⟨rfl, hI3, _⟩
  have HI := Lib.hid hI3
  clear hI3 HC
  go_wp2_with fail
  go_loopw [11, 12, 56] (fun yr yw yi wr => ∃ (i R W N : Nat) (s : Lp) (mi : List (Int × Int × Int)) (wa : List (Int × Int)) (prs : List Pr) (st : St), yr = .int .i64 R ∧ yw = .int .i64 W ∧ yi = .int .i64 i ∧ i ≤ nn ∧ R + W ≤ i ∧ N ≤ i ∧ R ≤ W + 64 ∧ W ≤ R + n + 64 ∧ LpI w wr b s (fun _ => False) ∧ RS s mi wa prs [(n, st)] N ∧ SI n R W mi wa prs st) (fun _ _ yi _ => nn - (intOf yi).toNat)
  case atStart => exact ⟨0, 0, 0, 0, _, _, _, _, _, rfl, rfl, rfl, by omega, by omega, by omega, by omega, by omega, HI.out, HR.out, SI.new n⟩
  case round =>
  clear HI HR
  obtain ⟨i, R, W, N, s, mi, wa, prs, st, rfl, rfl, rfl, hi, hRW, hN, hdR, hdW, hI, hR, hS⟩ := hrel
  by_cases hlt : i < nn
  · have hltI : (i : Int) < (nn : Int) := by omega
    obtain ⟨ba, off, rfl, hcell⟩ := HE.out (by omega)
    have hc0 := hcell i (by omega)
    have hx0 : wr.cell? ⟨ba, off + i, none⟩ = _ := (hI.below.cell (p := ⟨ba, off + i, none⟩) (World.block_lt_of_cell? w _ hc0)).trans hc0
    have hld := hS.load hR
    have w1' : IntKind.i64.wrap ((R : Int) - (W : Int)) = (R : Int) - (W : Int) := by rw [IntKind.wrap_i64]; omega
    have w2' : IntKind.i64.wrap ((W : Int) - (R : Int)) = (W : Int) - (R : Int) := by rw [IntKind.wrap_i64]; omega
    clear hcell hc0
    cases hb : l.getD i false with
    | true =>
      rw [hb] at hx0
      by_cases hg : R < W + 64
      · have d1 : decide ((R : Int) - (W : Int) < 64) = true := decide_eq_true (by omega)
        have d2 : (R : Int) - (W : Int) < 64 := by omega
        obtain ⟨s2, hA⟩ := hS.read hR hn1 hg (by omega) (by omega)
        obtain ⟨a1, a2, a3, mi', wa', prs', st', a4, a5⟩ := hA
        obtain ⟨P, hP⟩ : ∃ P, P = R + W := ⟨_, rfl⟩
        rw [← hP] at a1 a3
        have HC := Lib.hid (lpi_read hI 0 (by omega) (mv_eq a1))
        have HTH := Lib.hid a3
        have HML := Lib.hid (show (readL s 0).1.mic.length < 1000000 by omega)
        have HR' := Lib.hid a4
        have HS' := Lib.hid a5
        have HK := Lib.hid (show i + 1 ≤ nn ∧ R + 1 + W ≤ i + 1 ∧ N + 1 ≤ i + 1 ∧ R + 1 ≤ W + 64 ∧ W ≤ R + 1 + n + 64 by omega)
        clear hI hR hS a1 a2 a3 a4 a5 hP hb hlt hdR hdW hg
        go_wp2_with fail
        refine HC.out.mono ?_
        rintro e w4 ⟨rfl, hI4, _⟩
        have HC2 := Lib.hid (lpi_then hI4 (P : Int) (R : Int) HML.out HTH.out)
        clear hI4 HC HTH HML hx0
        go_wp2_with fail
        refine HC2.out.mono ?_
        rintro e w5 ⟨rfl, hI5, _⟩
        have HI5 := Lib.hid hI5
        clear hI5 HC2
        go_wp2
        go_roundw
        case rel => exact ⟨i + 1, R + 1, W, N + 1, s2, mi', wa', prs', st', num (by omega), rfl, num (by omega), HK.out.1, HK.out.2.1, HK.out.2.2.1, HK.out.2.2.2.1, HK.out.2.2.2.2, HI5.out, HR'.out, HS'.out⟩
        case measure => simp [intOf]; omega
      · have d1 : decide ((R : Int) - (W : Int) < 64) = false := decide_eq_false (by omega)
        have d2 : ¬ ((R : Int) - (W : Int) < 64) := by omega
        have HI := Lib.hid hI
        have HR := Lib.hid hR
        have HS := Lib.hid hS
        have HK := Lib.hid (show i + 1 ≤ nn ∧ R + W ≤ i + 1 ∧ N ≤ i + 1 ∧ R ≤ W + 64 ∧ W ≤ R + n + 64 by omega)
        clear hI hR hS hb hlt hdR hdW hg
        go_wp2
        go_roundw
        case rel => exact ⟨i + 1, R, W, N, s, mi, wa, prs, st, rfl, rfl, num (by omega), HK.out.1, HK.out.2.1, HK.out.2.2.1, HK.out.2.2.2.1, HK.out.2.2.2.2, HI.out, HR.out, HS.out⟩
        case measure => simp [intOf]; omega
    | false =>
      rw [hb] at hx0
      by_cases hg : W < R + n + 64
      · have d1 : decide ((W : Int) - (R : Int) < (n : Int) + 64) = true := decide_eq_true (by omega)
        have d2 : (W : Int) - (R : Int) < (n : Int) + 64 := by omega
        have m1 : IntKind.i64.wrap (7 * (W : Int)) = 7 * (W : Int) := by rw [IntKind.wrap_i64]; omega
        have m2 : IntKind.i64.wrap (1000 + (W : Int)) = 1000 + (W : Int) := by rw [IntKind.wrap_i64]; omega
        obtain ⟨s2, hA⟩ := hS.write hR hg (by omega) (by omega)
        obtain ⟨a1, a2, a3, mi', wa', prs', st', a4, a5⟩ := hA
        obtain ⟨P, hP⟩ : ∃ P, P = R + W := ⟨_, rfl⟩
        rw [← hP] at a1 a3
        have HC := Lib.hid (lpi_write hI 0 (7 * (W : Int)) (by omega) (mv_eq a1))
        have HTH := Lib.hid a3
        have HML := Lib.hid (show (writeL s 0 (7 * (W : Int))).1.mic.length < 1000000 by omega)
        have HR' := Lib.hid a4
        have HS' := Lib.hid a5
        have HK := Lib.hid (show i + 1 ≤ nn ∧ R + (W + 1) ≤ i + 1 ∧ N + 1 ≤ i + 1 ∧ R ≤ W + 1 + 64 ∧ W + 1 ≤ R + n + 64 by omega)
        clear hI hR hS a1 a2 a3 a4 a5 hP hb hlt hdR hdW hg
        go_wp2_with fail
        refine HC.out.mono ?_
        rintro e w4 ⟨rfl, hI4, _⟩
        have HC2 := Lib.hid (lpi_then hI4 (P : Int) (1000 + (W : Int)) HML.out HTH.out)
        clear hI4 HC HTH HML hx0
        go_wp2_with fail
        refine HC2.out.mono ?_
        rintro e w5 ⟨rfl, hI5, _⟩
        have HI5 := Lib.hid hI5
        clear hI5 HC2
        go_wp2
        go_roundw
        case rel => exact ⟨i + 1, R, W + 1, N + 1, s2, mi', wa', prs', st', rfl, num (by omega), num (by omega), HK.out.1, HK.out.2.1, HK.out.2.2.1, HK.out.2.2.2.1, HK.out.2.2.2.2, HI5.out, HR'.out, HS'.out⟩
        case measure => simp [intOf]; omega
      · have d1 : decide ((W : Int) - (R : Int) < (n : Int) + 64) = false := decide_eq_false (by omega)
        have d2 : ¬ ((W : Int) - (R : Int) < (n : Int) + 64) := by omega
        have HI := Lib.hid hI
        have HR := Lib.hid hR
        have HS := Lib.hid hS
        have HK := Lib.hid (show i + 1 ≤ nn ∧ R + W ≤ i + 1 ∧ N ≤ i + 1 ∧ R ≤ W + 64 ∧ W ≤ R + n + 64 by omega)
        clear hI hR hS hb hlt hdR hdW hg
        go_wp2
        go_roundw
        case rel => exact ⟨i + 1, R, W, N, s, mi, wa, prs, st, rfl, rfl, num (by omega), HK.out.1, HK.out.2.1, HK.out.2.2.1, HK.out.2.2.2.1, HK.out.2.2.2.2, HI.out, HR.out, HS.out⟩
        case measure => simp [intOf]; omega
  have hltI : ¬ ((i : Int) < (nn : Int)) := by omega
  obtain ⟨rt, hrt⟩ : ∃ rt, rt = min R W := ⟨_, rfl⟩
  obtain ⟨wt, hwt⟩ : ∃ wt, wt = min W (R + n) := ⟨_, rfl⟩
  have hNX := hS.next
  rw [← hrt, ← hwt] at hNX
  have HNX := Lib.hid hNX
  have HML := Lib.hid (show mi.length + 0 ≤ 200 by have := hS.ml; omega)
  have HI := Lib.hid hI
  have HR := Lib.hid hR
  have f1 : min (R : Int) (W : Int) = (rt : Int) := by omega
  have f2 : min (W : Int) ((R : Int) + (n : Int)) = (wt : Int) := by omega
  have f3 : IntKind.i64.wrap ((R : Int) + (n : Int)) = (R : Int) + (n : Int) := by rw [IntKind.wrap_i64]; omega
  have lrt : rt ≤ 100 := by omega
  have lwt : wt ≤ 100 := by omega
  clear hrt hwt hNX hI hR hS hlt hdR hdW hRW hN
  go_wp2_with fail
  go_loopw [23, 24, 119] (fun yr yw yj wr => ∃ (j r t : Nat) (s : Lp) (mi : List (Int × Int × Int)), yr = .int .i64 r ∧ yw = .int .i64 t ∧ yj = .int .i64 j ∧ LpI w wr b s (fun _ => False) ∧ RS s mi wa prs [(n, st)] N ∧ NxI rt wt r t mi ∧ mi.length + j ≤ 200) (fun _ _ yj _ => 400 - (intOf yj).toNat)
  case atStart => exact ⟨0, 0, 0, s, mi, rfl, rfl, rfl, HI.out, HR.out, HNX.out, HML.out⟩
  case round =>
  clear HI HR HNX HML
  obtain ⟨j, r, t, s, mi, rfl, rfl, rfl, hI, hR, hX, hml⟩ := hrel
  have hj : (j : Int) < 400 := by omega
  cases mi with
  | nil =>
    obtain ⟨rfl, rfl⟩ := hX.done
    obtain ⟨s', e2, _⟩ := hR.nextNone
    have HNX := Lib.hid (lpi_next hI e2)
    clear hI hR hX e2 hml
    go_wp2_with fail
    refine HNX.out.mono ?_
    rintro e w7 ⟨rfl, hI7, _⟩
    have HB := Lib.hid (hI7.below.alloc hI7.below.size (.cells #[.int .i64 0, .int .i64 0, .int .i64 0, .int .i64 0] 31))
    clear HNX hI7
    simp only [Option.getD_none, Option.isSome_none, tkv, tk0]
    go_wp2
    go_ret
    exact ⟨rfl, HB.out⟩
  | cons x mi =>
    obtain ⟨s', k, e2, hR', e3⟩ := hR.next
    obtain ⟨kd, fn, arg, tok⟩ := k
    dsimp only at e3
    have HNX := Lib.hid (lpi_next hI e2)
    have HR' := Lib.hid hR'
    have HML := Lib.hid (show mi.length + (j + 1) ≤ 200 by simp at hml; omega)
    rcases hX.step with ⟨rfl, hl, hX2⟩ | ⟨rfl, hl, hX2⟩
    · have HX := Lib.hid hX2
      obtain ⟨rfl, rfl, rfl⟩ : kd = 4 ∧ fn = (r : Int) ∧ arg = 7 * (r : Int) := by simpa [rdT] using e3
      have d1 : ¬ ((1000 : Int) ≤ (r : Int)) := by omega
      have m1 : IntKind.i64.wrap (7 * (r : Int)) = 7 * (r : Int) := by rw [IntKind.wrap_i64]; omega
      clear hI hR hR' e2 e3 hX hX2 hml
      go_wp2_with fail
      refine HNX.out.mono ?_
      rintro e w7 ⟨rfl, hI7, _⟩
      have HI7 := Lib.hid hI7
      clear HNX hI7
      simp only [Option.getD_some, Option.isSome_some, tkv]
      go_wp2
      go_roundw
      case rel => exact ⟨j + 1, r + 1, t, s', mi, num (by omega), rfl, num (by omega), HI7.out.nothing ((Tch.refl NoBlk w7).alloc _), HR'.out, HX.out, HML.out⟩
      case measure => simp [intOf]; omega
    · have HX := Lib.hid hX2
      obtain ⟨rfl, rfl, rfl⟩ : kd = 4 ∧ fn = 1000 + (t : Int) ∧ arg = 7 * (t : Int) := by simpa [wrT] using e3
      have d1 : (1000 : Int) ≤ 1000 + (t : Int) := by omega
      have m1 : IntKind.i64.wrap (7 * (t : Int)) = 7 * (t : Int) := by rw [IntKind.wrap_i64]; omega
      have m2 : IntKind.i64.wrap (1000 + (t : Int)) = 1000 + (t : Int) := by rw [IntKind.wrap_i64]; omega
      clear hI hR hR' e2 e3 hX hX2 hml
      go_wp2_with fail
      refine HNX.out.mono ?_
      rintro e w7 ⟨rfl, hI7, _⟩
      have HI7 := Lib.hid hI7
      clear HNX hI7
      simp only [Option.getD_some, Option.isSome_some, tkv]
      go_wp2
      go_roundw
      case rel => exact ⟨j + 1, r, t + 1, s', mi, rfl, num (by omega), num (by omega), HI7.out.nothing ((Tch.refl NoBlk w7).alloc _), HR'.out, HX.out, HML.out⟩
      case measure => simp [intOf]; omega
end Go.Proofs.Ytipbimbnpikbcaa
