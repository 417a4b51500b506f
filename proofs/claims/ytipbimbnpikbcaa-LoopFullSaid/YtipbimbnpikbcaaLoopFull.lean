/- LoopFull: there are so many tokens, timers, streams and promises at most. -/
import Derived.Test.YtipbimbnpikbcaaLoopRW
namespace Go.Proofs.Ytipbimbnpikbcaa
open Go.RowKit

/-- How many there are of each. -/
structure FS (s : Lp) (ab tm st pr mc mi : Nat) : Prop where
  ab : s.ab.length = ab
  tm : s.L.length = tm
  st : s.str.length = st
  pr : s.prs = List.replicate pr ⟨false, 0, []⟩
  mc : s.mac.length = mc
  mi : s.mic.length = mi
section
variable {s : Lp} {ab tm st pr mc mi : Nat}
theorem FS.new (n : Nat) : FS (newL n) 0 0 0 0 0 0 := ⟨rfl, rfl, rfl, rfl, rfl, rfl⟩
theorem FS.spawn (h : FS s ab tm st pr mc mi) (f : Int) (hl : ab < 1024) : ∃ s', spawnL s f = (s', ab, 0) ∧ FS s' (ab + 1) tm st pr (mc + 1) mi := by
  have := h.ab
  refine ⟨macL (moreL s) ⟨1, f, 0, s.ab.length⟩, ?_, by simp [macL, moreL, h.ab], h.tm, h.st, h.pr, by simp [macL, moreL, h.mc], h.mi⟩
  unfold spawnL
  rw [if_neg (by omega), h.ab]
theorem FS.spawnNo (h : FS s 1024 tm st pr mc mi) (f : Int) : spawnL s f = (s, 0, 3) := by
  unfold spawnL
  rw [if_pos (by rw [h.ab]; exact Nat.le_refl _)]
theorem FS.micro (h : FS s ab tm st pr mc mi) (f : Int) (hl : ab < 1024) : ∃ s', microL s f = (s', ab, 0) ∧ FS s' (ab + 1) tm st pr mc (mi + 1) := by
  have := h.ab
  refine ⟨micL (moreL s) ⟨2, f, 0, s.ab.length⟩, ?_, by simp [micL, moreL, h.ab], h.tm, h.st, h.pr, h.mc, by simp [micL, moreL, h.mi]⟩
  unfold microL
  rw [if_neg (by omega), h.ab]
theorem FS.microNo (h : FS s 1024 tm st pr mc mi) (f : Int) : microL s f = (s, 0, 3) := by
  unfold microL
  rw [if_pos (by rw [h.ab]; exact Nat.le_refl _)]
theorem FS.after (h : FS s ab tm st pr mc mi) (d f : Int) (hl : ab < 1024) (ht : tm < 64) : ∃ s', afterL s d f = (s', ab, 0) ∧ FS s' (ab + 1) (tm + 1) st pr mc mi := by
  have h1 := h.ab
  have h2 := h.tm
  refine ⟨putL (waiL (moreL s) ⟨3, f, 0, s.ab.length⟩) d, ?_, by simp [putL, waiL, moreL, h.ab], by simp [putL, waiL, moreL, h.tm], h.st, h.pr, h.mc, h.mi⟩
  unfold afterL
  rw [if_neg (by omega), if_neg (by omega), h.ab]
theorem FS.afterNo (h : FS s ab 64 st pr mc mi) (d f : Int) : afterL s d f = (s, 0, 140) := by
  unfold afterL
  rw [if_pos (by rw [h.tm]; exact Nat.le_refl _)]
theorem FS.stream (h : FS s ab tm st pr mc mi) (hl : st < 16) : ∃ s', streamL s 1 = (s', st, 0) ∧ FS s' ab tm (st + 1) pr mc mi := by
  have := h.st
  refine ⟨{ s with str := s.str ++ [(1, ⟨[], [], []⟩)] }, ?_, h.ab, h.tm, by simp [h.st], h.pr, h.mc, h.mi⟩
  unfold streamL
  rw [if_neg (by omega), if_neg (by omega), h.st]
  rfl
theorem FS.streamNo (h : FS s ab tm 16 pr mc mi) : streamL s 1 = (s, 0, 3) := by
  unfold streamL
  rw [if_neg (by omega), if_pos (by rw [h.st]; exact Nat.le_refl _)]
theorem streamL_arg (s : Lp) : streamL s 0 = (s, 0, 1) := by
  unfold streamL
  rw [if_pos (by omega)]
theorem FS.promise (h : FS s ab tm st pr mc mi) (hl : pr < 512) : ∃ s', promiseL s = (s', pr, 0) ∧ FS s' ab tm st (pr + 1) mc mi := by
  refine ⟨{ s with prs := List.replicate (pr + 1) ⟨false, 0, []⟩ }, ?_, h.ab, h.tm, h.st, rfl, h.mc, h.mi⟩
  unfold promiseL makeM
  rw [h.pr, if_neg (by simp; omega), List.replicate_succ']
  simp
theorem FS.promiseNo (h : FS s ab tm st 512 mc mi) : promiseL s = (s, 0, 3) := by
  unfold promiseL makeM
  rw [if_pos (by rw [h.pr, List.length_replicate]; exact Nat.le_refl _)]
theorem FS.movesNo (h : FS s ab tm 16 512 mc mi) (f : Nat → St → Int → St × List (Int × Int) × Int) : movesL s 0 f = (s, 0, 3) := by
  unfold movesL
  rw [if_neg (by rw [h.st]; omega), if_pos (by rw [h.pr, List.length_replicate]; exact Nat.le_refl _)]
theorem FS.thenNo (h : FS s 1024 tm st 512 mc mi) (f : Int) : thenL s 0 f = (s, 0, 3) := by
  have e : s.prs[0]? = some ⟨false, 0, []⟩ := by rw [h.pr, List.getElem?_replicate, if_pos (by omega)]
  have e0 : prOf s.prs 0 = some ⟨false, 0, []⟩ := by simp only [prOf]; rw [if_neg (by omega)]; exact e
  have e1 : valueM s.prs 0 = (0, false, 0) := by unfold valueM; rw [e0]
  have e2 : waitsM s.prs 0 = 0 := by unfold waitsM; rw [e0]; rfl
  unfold thenL
  rw [e1, e2]
  dsimp only
  rw [if_neg (by simp), if_neg (by simp), if_pos (by rw [h.ab]; exact Nat.le_refl _)]
theorem FS.load (h : FS s ab tm st pr mc mi) : loadL s = mi := by
  unfold loadL qsum
  rw [h.pr, h.mi]
  simp
end

set_option maxHeartbeats 8000000 in
set_option maxRecDepth 100000 in
theorem loopFull_walk (x0 : Int) (w : World) (h0 : IntKind.u8.min ≤ x0 ∧ x0 ≤ IntKind.u8.max) :
    Calls Try.prog 10 #[.int .u8 x0] w fun e w' => e = .returned (.bool true) ∧ Below w.heap.size w w' := by
  have b0 : 0 ≤ x0 ∧ x0 ≤ 255 := h0
  clear h0
  obtain ⟨a0, rfl⟩ := Int.eq_ofNat_of_zero_le b0.1
  obtain ⟨n, hn⟩ : ∃ n, n = a0 % 31 := ⟨_, rfl⟩
  have u0 : (a0 : Int) % 31 = (n : Int) := by omega
  have v0 : (a0 : Int).tmod 31 = (n : Int) := by rw [Int.tmod_eq_emod_of_nonneg (by omega)]; exact u0
  have ln : n ≤ 30 := by omega
  obtain ⟨K, hK⟩ : ∃ K, K = 1024 - n - 64 := ⟨_, rfl⟩
  have HKK := Lib.hid (show n + 64 + K = 1024 by omega)
  have k1 : (1024 : Int) - (n : Int) - 64 = (K : Int) := by omega
  have lK : K ≤ 960 := by omega
  clear hn hK
  have s0 : IntKind.i64.wrap (n : Int) = (n : Int) := by rw [IntKind.wrap_i64]; omega
  have k2 : IntKind.i64.wrap ((1024 : Int) - (n : Int)) = 1024 - (n : Int) := by rw [IntKind.wrap_i64]; omega
  have k3 : IntKind.i64.wrap (K : Int) = (K : Int) := by rw [IntKind.wrap_i64]; omega
  go_enter Try.func10, Try.ntmps10
  go_wp2_with fail
  refine (loop_shown w).mono ?_
  rintro e w1 ⟨rfl, hT1⟩
  have HB1 := Lib.hid (below_no (Below.refl _ w) hT1)
  clear hT1
  go_wp2_with fail
  refine (lpi_new (O := fun _ => False) HB1.out (fun _ h => h.elim) 1 (by omega) (by omega)).mono ?_
  rintro e w2 ⟨b, rfl, hI, _⟩
  clear HB1
  have HI := Lib.hid hI
  clear hI
  go_wp2_with fail
  go_loopw [51] (fun y wr => ∃ (i : Nat) (s : Lp), y = .int .i64 i ∧ i ≤ n ∧ LpI w wr b s (fun _ => False) ∧ FS s i 0 0 0 i 0) (fun y _ => n - (intOf y).toNat)
  case atStart => exact ⟨0, _, rfl, by omega, HI.out, FS.new 1⟩
  case round =>
  clear HI
  obtain ⟨i, s, rfl, hi, hI, hQ⟩ := hrel
  by_cases hlt : i < n
  · have hltI : (i : Int) < (n : Int) := by omega
    obtain ⟨s', e', q'⟩ := hQ.spawn 1 (by omega)
    have HQ' := Lib.hid q'
    have hlen : s.mac.length < 1000000 := by rw [hQ.mc]; omega
    have HK : Hid (i + 1 ≤ n) := Lib.hid (by omega)
    have HC := Lib.hid (lpi_spawn hI 1 hlen e')
    clear hQ q' hI hlen e'
    go_wp2_with fail
    refine HC.out.mono ?_
    rintro e w4 ⟨rfl, hI4, _⟩
    go_wp2
    go_roundw
    case rel => exact ⟨i + 1, s', num (by omega), HK.out, hI4, HQ'.out⟩
    case measure => simp [intOf]; omega
  have hltI : ¬ ((i : Int) < (n : Int)) := by omega
  have HQ : Hid (FS s n 0 0 0 n 0) := Lib.hid (by rw [show i = n by omega] at hQ; exact hQ)
  have HI := Lib.hid hI
  clear hlt hi hI hQ
  go_wp2_with fail
  go_loopw [56] (fun y wr => ∃ (i : Nat) (s : Lp), y = .int .i64 i ∧ i ≤ 64 ∧ LpI w wr b s (fun _ => False) ∧ FS s (n + i) i 0 0 n 0) (fun y _ => 64 - (intOf y).toNat)
  case atStart => exact ⟨0, _, rfl, by omega, HI.out, HQ.out⟩
  case round =>
  clear HI HQ hltI
  obtain ⟨i, s, rfl, hi, hI, hQ⟩ := hrel
  by_cases hlt : i < 64
  · have hltI : (i : Int) < 64 := by omega
    obtain ⟨s', e', q'⟩ := hQ.after 9 2 (by omega) hlt
    have HQ' := Lib.hid q'
    have HK : Hid (i + 1 ≤ 64) := Lib.hid (by omega)
    have HC := Lib.hid (lpi_after hI 9 2 e')
    clear hQ q' hI e'
    go_wp2_with fail
    refine HC.out.mono ?_
    rintro e w4 ⟨rfl, hI4, _⟩
    go_wp2
    go_roundw
    case rel => exact ⟨i + 1, s', num (by omega), HK.out, hI4, HQ'.out⟩
    case measure => simp [intOf]; omega
  have hltI : ¬ ((i : Int) < 64) := by omega
  have hQ2 : FS s (n + 64) 64 0 0 n 0 := by rw [show i = 64 by omega] at hQ; exact hQ
  have HC := Lib.hid (lpi_after hI 1 3 (hQ2.afterNo 1 3))
  have HQ := Lib.hid hQ2
  clear hlt hi hI hQ hQ2
  go_wp2_with fail
  refine HC.out.mono ?_
  rintro e w4 ⟨rfl, hI, _⟩
  have HI := Lib.hid hI
  clear hI HC hltI
  go_wp2_with fail
  go_loopw [71] (fun y wr => ∃ (i : Nat) (s : Lp), y = .int .i64 i ∧ i ≤ 16 ∧ LpI w wr b s (fun _ => False) ∧ FS s (n + 64) 64 i 0 n 0) (fun y _ => 16 - (intOf y).toNat)
  case atStart => exact ⟨0, _, rfl, by omega, HI.out, HQ.out⟩
  case round =>
  clear HI HQ
  obtain ⟨i, s, rfl, hi, hI, hQ⟩ := hrel
  by_cases hlt : i < 16
  · have hltI : (i : Int) < 16 := by omega
    obtain ⟨s', e', q'⟩ := hQ.stream hlt
    have HQ' := Lib.hid q'
    have HK : Hid (i + 1 ≤ 16) := Lib.hid (by omega)
    have HC := Lib.hid (lpi_stream hI 1 e')
    clear hQ q' hI e'
    go_wp2_with fail
    refine HC.out.mono ?_
    rintro e w5 ⟨rfl, hI4, _⟩
    go_wp2
    go_roundw
    case rel => exact ⟨i + 1, s', num (by omega), HK.out, hI4, HQ'.out⟩
    case measure => simp [intOf]; omega
  have hltI : ¬ ((i : Int) < 16) := by omega
  have hQ2 : FS s (n + 64) 64 16 0 n 0 := by rw [show i = 16 by omega] at hQ; exact hQ
  have HC := Lib.hid (lpi_stream hI 1 hQ2.streamNo)
  have HQ := Lib.hid hQ2
  clear hlt hi hI hQ hQ2
  go_wp2_with fail
  refine HC.out.mono ?_
  rintro e w5 ⟨rfl, hI, _⟩
  have HC2 := Lib.hid (lpi_stream hI 0 (streamL_arg s))
  clear hI HC hltI
  go_wp2_with fail
  refine HC2.out.mono ?_
  rintro e w6 ⟨rfl, hI, _⟩
  have HI := Lib.hid hI
  clear hI HC2
  go_wp2_with fail
  go_loopw [91] (fun y wr => ∃ (i : Nat) (s : Lp), y = .int .i64 i ∧ i ≤ 512 ∧ LpI w wr b s (fun _ => False) ∧ FS s (n + 64) 64 16 i n 0) (fun y _ => 512 - (intOf y).toNat)
  case atStart => exact ⟨0, _, rfl, by omega, HI.out, HQ.out⟩
  case round =>
  clear HI HQ
  obtain ⟨i, s, rfl, hi, hI, hQ⟩ := hrel
  by_cases hlt : i < 512
  · have hltI : (i : Int) < 512 := by omega
    obtain ⟨s', e', q'⟩ := hQ.promise hlt
    have HQ' := Lib.hid q'
    have HK : Hid (i + 1 ≤ 512) := Lib.hid (by omega)
    have HC := Lib.hid (lpi_promise hI e')
    clear hQ q' hI e'
    go_wp2_with fail
    refine HC.out.mono ?_
    rintro e w7 ⟨rfl, hI4, _⟩
    go_wp2
    go_roundw
    case rel => exact ⟨i + 1, s', num (by omega), HK.out, hI4, HQ'.out⟩
    case measure => simp [intOf]; omega
  have hltI : ¬ ((i : Int) < 512) := by omega
  have hQ2 : FS s (n + 64) 64 16 512 n 0 := by rw [show i = 512 by omega] at hQ; exact hQ
  have HC := Lib.hid (lpi_promise hI hQ2.promiseNo)
  have HQ := Lib.hid hQ2
  clear hlt hi hI hQ hQ2
  go_wp2_with fail
  refine HC.out.mono ?_
  rintro e w7 ⟨rfl, hI, _⟩
  have hld : loadL s < 1000000 := by rw [HQ.out.load]; omega
  have HLD := Lib.hid hld
  have HC2 := Lib.hid (lpi_write hI 0 1 hld (x := 0) (y := 3) (HQ.out.movesNo _))
  clear hI HC hltI hld
  go_wp2_with fail
  refine HC2.out.mono ?_
  rintro e w8 ⟨rfl, hI, _⟩
  have HC3 := Lib.hid (lpi_read hI 0 HLD.out (x := 0) (y := 3) (HQ.out.movesNo _))
  clear hI HC2
  go_wp2_with fail
  refine HC3.out.mono ?_
  rintro e w9 ⟨rfl, hI, _⟩
  have HI := Lib.hid hI
  clear hI HC3 HLD
  go_wp2_with fail
  go_loopw [119] (fun y wr => ∃ (i : Nat) (s : Lp), y = .int .i64 i ∧ i ≤ K ∧ LpI w wr b s (fun _ => False) ∧ FS s (n + 64 + i) 64 16 512 n i) (fun y _ => K - (intOf y).toNat)
  case atStart => exact ⟨0, _, rfl, by omega, HI.out, HQ.out⟩
  case round =>
  clear HI HQ
  obtain ⟨i, s, rfl, hi, hI, hQ⟩ := hrel
  by_cases hlt : i < K
  · have hltI : (i : Int) < (K : Int) := by omega
    obtain ⟨s', e', q'⟩ := hQ.micro 4 (by have := HKK.out; omega)
    have HQ' := Lib.hid q'
    have hlen : s.mic.length < 1000000 := by rw [hQ.mi]; omega
    have HK : Hid (i + 1 ≤ K) := Lib.hid (by omega)
    have HC := Lib.hid (lpi_micro hI 4 hlen e')
    clear hQ q' hI e' hlen
    go_wp2_with fail
    refine HC.out.mono ?_
    rintro e w10 ⟨rfl, hI4, _⟩
    go_wp2
    go_roundw
    case rel => exact ⟨i + 1, s', num (by omega), HK.out, hI4, HQ'.out⟩
    case measure => simp [intOf]; omega
  have hltI : ¬ ((i : Int) < (K : Int)) := by omega
  have hQ2 : FS s 1024 64 16 512 n K := by rw [show i = K by omega, HKK.out] at hQ; exact hQ
  have HC := Lib.hid (lpi_spawn hI 5 (by rw [hQ2.mc]; omega) (hQ2.spawnNo 5))
  have HQ := Lib.hid hQ2
  clear hlt hi hI hQ hQ2
  go_wp2_with fail
  refine HC.out.mono ?_
  rintro e w10 ⟨rfl, hI, _⟩
  have HC2 := Lib.hid (lpi_micro hI 5 (by rw [HQ.out.mi]; omega) (HQ.out.microNo 5))
  clear hI HC hltI
  go_wp2_with fail
  refine HC2.out.mono ?_
  rintro e w11 ⟨rfl, hI, _⟩
  have HC3 := Lib.hid (lpi_then hI 0 5 (by rw [HQ.out.mi]; omega) (HQ.out.thenNo 5))
  clear hI HC2
  go_wp2_with fail
  refine HC3.out.mono ?_
  rintro e w12 ⟨rfl, hI, _⟩
  have hwt := lpi_waits hI
  rw [HQ.out.mc, HQ.out.mi, HQ.out.tm] at hwt
  have HC4 := Lib.hid hwt
  have HB := Lib.hid hI.below
  clear hI HC3 hwt
  go_wp2_with fail
  refine HC4.out.mono ?_
  rintro e w13 ⟨rfl, q, hq⟩
  have HB2 := Lib.hid (below_no HB.out ((Tch.refl NoBlk w12).drewN q))
  rw [← hq] at HB2
  clear HC4 HB hq
  go_wp2
  go_ret
  exact ⟨rfl, HB2.out⟩
end Go.Proofs.Ytipbimbnpikbcaa
