/- LoopOff: what a task asks for is called off with it. -/
import Derived.Test.YtipbimbnpikbcaaLoopOffP
import Derived.Test.YtipbimbnpikbcaaLoopLaw3
import Derived.Test.YtipbimbnpikbcaaArgs
namespace Go.Proofs.Ytipbimbnpikbcaa
open Go.RowKit

/-- The law's own blocks: the kinds, the loop's pointer, the promise. -/
def OffO (zk zx zp k : Nat) : Prop := (k = zk ∨ k = zx) ∨ k = zp
structure OffI (w0 w : World) (b : Nat) (s : Lp) (zk zx zp : Nat) (a : Option Addr) (n cap : Nat) : Prop where
  lp : LpI w0 w b s (OffO zk zx zp)
  k : Blk w zk 42 [.slice a n cap]
  x : Blk w zx 23 [.pointer (some ⟨b, 0, none⟩)]
  p : Blk w zp 3 [.int .i64 0]
section
variable {w0 w w' : World} {b : Nat} {s s' : Lp} {zk zx zp : Nat} {a : Option Addr} {n cap : Nat}
theorem OffI.did (H : OffI w0 w b s zk zx zp a n cap) (h : LpI w0 w' b s' (OffO zk zx zp)) (T : Tch (Oth w0 (OffO zk zx zp)) w w') : OffI w0 w' b s' zk zx zp a n cap :=
  ⟨h, H.k.keep T (fun e => e.2 (.inl (.inl rfl))), H.x.keep T (fun e => e.2 (.inl (.inr rfl))), H.p.keep T (fun e => e.2 (.inr rfl))⟩
theorem OffI.nothing (H : OffI w0 w b s zk zx zp a n cap) (T : Tch NoBlk w w') : OffI w0 w' b s zk zx zp a n cap :=
  ⟨H.lp.nothing T, H.k.keep T (fun e => e), H.x.keep T (fun e => e), H.p.keep T (fun e => e)⟩
set_option maxHeartbeats 4000000 in
set_option maxRecDepth 100000 in
theorem off_ask {l : List Int} (hI : OffI w0 w b s zk zx zp a l.length cap) (hin : IntsIn .u8 w0 a cap l) (i : Nat) (hi : i < 100) (fn : Int) (hl : s.mac.length < 1000000 ∧ s.mic.length < 1000000) :
    ∃ κ, ∀ s' y, askL s κ fn = (s', y, 0) → Calls Try.prog 29 #[.int .i64 i, .int .i64 fn, .pointer (some ⟨zk, 0, none⟩), .pointer (some ⟨zx, 0, none⟩), .pointer (some ⟨zp, 0, none⟩)] w fun e w' => e = .returned (.bool true) ∧ OffI w0 w' b s' zk zx zp a l.length cap := by
  have ck := hI.k.cellOf 0 _ rfl
  have cx := hI.x.cellOf 0 _ rfl
  have cp := hI.p.cellOf 0 _ rfl
  have hle := hin.le
  have hcap := hin.cap
  by_cases hlt : i < l.length
  · obtain ⟨ba, off, rfl, hcell⟩ := hin.cells (by omega)
    have hc0 := hcell i hlt
    have hx0 : w.cell? ⟨ba, off + i, none⟩ = some (.int .u8 (l.getD i 0)) := (hI.lp.below.cell (p := ⟨ba, off + i, none⟩) (World.block_lt_of_cell? w0 _ hc0)).trans hc0
    have hltI : (i : Int) < (l.length : Int) := by omega
    have hdI : decide ((i : Int) < (l.length : Int)) = true := decide_eq_true hltI
    obtain ⟨m, q, hm, hq, hmq, hmt⟩ : ∃ m q : Nat, l.getD i 0 = (m : Int) ∧ q < 4 ∧ (m : Int) % 4 = (q : Int) ∧ (m : Int).tmod 4 = (q : Int) := by
      have e : l.getD i 0 = l[i] := by simp [List.getD_eq_getElem?_getD, hlt]
      have h0 : 0 ≤ l[i] := (hin.wf l[i] (List.getElem_mem hlt)).1
      obtain ⟨m, hm⟩ := Int.eq_ofNat_of_zero_le h0
      exact ⟨m, m % 4, by rw [e, hm], by omega, by omega, by rw [Int.tmod_eq_emod_of_nonneg (by omega)]; omega⟩
    rw [hm] at hx0
    have HI := Lib.hid hI
    clear hcell hc0 hm hin hI
    refine ⟨q, fun s' y he => ?_⟩
    rcases (show q = 0 ∨ q = 1 ∨ q = 2 ∨ q = 3 by omega) with rfl | rfl | rfl | rfl
    · have he : spawnL s fn = (s', y, 0) := by simpa [askL] using he
      have HC := Lib.hid (lpi_spawn HI.out.lp fn hl.1 he)
      clear he
      go_enter Try.func29, Try.ntmps29
      go_wp2_with fail
      refine HC.out.mono ?_
      rintro e w2 ⟨rfl, h2, T2⟩
      have HI2 := Lib.hid (HI.out.did h2 T2)
      clear HC h2 T2
      go_wp2
      go_ret
      exact ⟨rfl, HI2.out⟩
    · have he : microL s fn = (s', y, 0) := by simpa [askL] using he
      have HC := Lib.hid (lpi_micro HI.out.lp fn hl.2 he)
      clear he
      go_enter Try.func29, Try.ntmps29
      go_wp2_with fail
      refine HC.out.mono ?_
      rintro e w2 ⟨rfl, h2, T2⟩
      have HI2 := Lib.hid (HI.out.did h2 T2)
      clear HC h2 T2
      go_wp2
      go_ret
      exact ⟨rfl, HI2.out⟩
    · have he : afterL s 3 fn = (s', y, 0) := by simpa [askL] using he
      have HC := Lib.hid (lpi_after HI.out.lp 3 fn he)
      clear he
      go_enter Try.func29, Try.ntmps29
      go_wp2_with fail
      refine HC.out.mono ?_
      rintro e w2 ⟨rfl, h2, T2⟩
      have HI2 := Lib.hid (HI.out.did h2 T2)
      clear HC h2 T2
      go_wp2
      go_ret
      exact ⟨rfl, HI2.out⟩
    · have he : thenL s 0 fn = (s', y, 0) := by simpa [askL] using he
      have HC := Lib.hid (lpi_then HI.out.lp 0 fn hl.2 he)
      clear he
      go_enter Try.func29, Try.ntmps29
      go_wp2_with fail
      refine HC.out.mono ?_
      rintro e w2 ⟨rfl, h2, T2⟩
      have HI2 := Lib.hid (HI.out.did h2 T2)
      clear HC h2 T2
      go_wp2
      go_ret
      exact ⟨rfl, HI2.out⟩
  · have hltI : ¬ ((i : Int) < (l.length : Int)) := by omega
    have hdI : decide ((i : Int) < (l.length : Int)) = false := decide_eq_false hltI
    have HI := Lib.hid hI
    clear hin hI
    refine ⟨0, fun s' y he => ?_⟩
    have he : spawnL s fn = (s', y, 0) := by simpa [askL] using he
    have HC := Lib.hid (lpi_spawn HI.out.lp fn hl.1 he)
    clear he
    go_enter Try.func29, Try.ntmps29
    go_wp2_with fail
    refine HC.out.mono ?_
    rintro e w2 ⟨rfl, h2, T2⟩
    have HI2 := Lib.hid (HI.out.did h2 T2)
    clear HC h2 T2
    go_wp2
    go_ret
    exact ⟨rfl, HI2.out⟩
end
theorem PB.lens {s : Lp} {O i seen j : Nat} {q : List Int} (h : PB s O i q seen j) (hi : i ≤ 20) : s.mac.length < 1000000 ∧ s.mic.length < 1000000 := by
  have := h.len
  omega
theorem PC.lens {s : Lp} {O m seen j : Nat} {q : List Int} (h : PC s O m q seen j) (hO : O ≤ 20) (hm : m ≤ 21) : s.mac.length < 1000000 ∧ s.mic.length < 1000000 := by
  have := h.len
  omega


set_option maxHeartbeats 8000000 in
set_option maxRecDepth 100000 in
theorem loopOff_walk (x0 x1 : Int) (a : Option Addr) (cap : Nat) (l : List Int) (w : World) (h0 : IntKind.u8.min ≤ x0 ∧ x0 ≤ IntKind.u8.max) (h1 : IntKind.u8.min ≤ x1 ∧ x1 ≤ IntKind.u8.max) (h : IntsIn .u8 w a cap l) :
    Calls Try.prog 9 #[.int .u8 x0, .int .u8 x1, .slice a l.length cap] w fun e w' => e = .returned (.bool true) ∧ Below w.heap.size w w' := by
  have b0 : 0 ≤ x0 ∧ x0 ≤ 255 := h0
  have b1 : 0 ≤ x1 ∧ x1 ≤ 255 := h1
  clear h0 h1
  obtain ⟨a0, rfl⟩ := Int.eq_ofNat_of_zero_le b0.1
  obtain ⟨a1, rfl⟩ := Int.eq_ofNat_of_zero_le b1.1
  obtain ⟨In, hIn⟩ : ∃ In, In = a0 % 21 := ⟨_, rfl⟩
  obtain ⟨O, hO⟩ : ∃ O, O = a1 % 21 := ⟨_, rfl⟩
  have u0 : (a0 : Int) % 21 = (In : Int) := by omega
  have u1 : (a1 : Int) % 21 = (O : Int) := by omega
  have v0 : (a0 : Int).tmod 21 = (In : Int) := by rw [Int.tmod_eq_emod_of_nonneg (by omega)]; exact u0
  have v1 : (a1 : Int).tmod 21 = (O : Int) := by rw [Int.tmod_eq_emod_of_nonneg (by omega)]; exact u1
  have lIn : In ≤ 20 := by omega
  have lO : O ≤ 20 := by omega
  clear hIn hO
  have s0 : IntKind.i64.wrap (In : Int) = (In : Int) := by rw [IntKind.wrap_i64]; omega
  have s1 : IntKind.i64.wrap (O : Int) = (O : Int) := by rw [IntKind.wrap_i64]; omega
  have HIN := Lib.hid h
  clear h
  have Bk := (Below.refl w.heap.size w).alloc (Nat.le_refl _) (.cells #[.slice a l.length cap] 42)
  have hbk : Blk (w.alloc (.cells #[.slice a l.length cap] 42)) w.heap.size 42 [.slice a l.length cap] := heap_alloc_new w _
  have HBk := Lib.hid Bk
  have Hbk := Lib.hid hbk
  clear Bk hbk
  go_enter Try.func9, Try.ntmps9
  go_wp2_with fail
  generalize w.alloc (.cells #[.slice a l.length cap] 42) = wk at *
  obtain ⟨zk, hzk⟩ : ∃ zk, zk = w.heap.size := ⟨_, rfl⟩
  rw [← hzk] at Hbk
  rw [← hzk]
  have HZK := Lib.hid (show w.heap.size ≤ zk by omega)
  clear hzk
  refine (loop_shown wk).mono ?_
  rintro e w1 ⟨rfl, hT1⟩
  have HB1 := Lib.hid (below_no HBk.out hT1)
  have Hk1 := Lib.hid (Hbk.out.keep hT1 (fun h => h))
  clear hT1 HBk Hbk
  go_wp2_with fail
  refine (lpi_new (O := fun k => k = zk) HB1.out (fun k hk => by subst hk; exact Hk1.out.lt) 5 (by omega) (by omega)).mono ?_
  rintro e w2 ⟨b, rfl, hI2, T2⟩
  have hk2 := Hk1.out.keep T2 (fun h => h)
  have hI3 := hI2.new (.cells #[.pointer (some ⟨b, 0, none⟩)] 23)
  have hx3 : Blk (w2.alloc (.cells #[.pointer (some ⟨b, 0, none⟩)] 23)) w2.heap.size 23 [.pointer (some ⟨b, 0, none⟩)] := heap_alloc_new w2 _
  have hk3 := hk2.alloc (.cells #[.pointer (some ⟨b, 0, none⟩)] 23)
  obtain ⟨sp, sq, ep, eq, hPB, htok, hml⟩ := PB.start O
  have HML := Lib.hid (show sp.mac.length < 1000000 by omega)
  have HPB := Lib.hid hPB
  have HTOK := Lib.hid htok
  have HEQ := Lib.hid eq
  have HPC := Lib.hid (lpi_promise hI3 ep)
  have cx := hx3.cellOf 0 _ rfl
  have Hk3 := Lib.hid hk3
  have Hx3 := Lib.hid hx3
  clear HB1 Hk1 hI2 T2 hk2 hI3 hx3 hk3 hPB htok ep eq hml
  go_wp2_with fail
  generalize w2.alloc (.cells #[.pointer (some ⟨b, 0, none⟩)] 23) = w3 at *
  generalize w2.heap.size = zx at *
  refine HPC.out.mono ?_
  rintro e w4 ⟨rfl, hI4, T4⟩
  have hk4 := Hk3.out.keep T4 (fun e => e.2 (.inl rfl))
  have hx4 := Hx3.out.keep T4 (fun e => e.2 (.inr rfl))
  have hI5 := hI4.new (.cells #[.int .i64 0] 3)
  have hp5 : Blk (w4.alloc (.cells #[.int .i64 0] 3)) w4.heap.size 3 [.int .i64 0] := heap_alloc_new w4 _
  have hx5 := hx4.alloc (.cells #[.int .i64 0] 3)
  have hk5 := hk4.alloc (.cells #[.int .i64 0] 3)
  have cx := hx5.cellOf 0 _ rfl
  have HOI : Hid (OffI w (w4.alloc (.cells #[.int .i64 0] 3)) b sp zk zx w4.heap.size a l.length cap) := Lib.hid ⟨hI5, hk5, hx5, hp5⟩
  clear hk4 hx4 hI5 hp5 hx5 hk5 hI4 T4 HPC Hk3 Hx3 HZK
  go_wp2_with fail
  generalize w4.alloc (.cells #[.int .i64 0] 3) = w5 at *
  generalize w4.heap.size = zp at *
  refine (lpi_spawn HOI.out.lp 500 HML.out HEQ.out).mono ?_
  rintro e w6 ⟨rfl, h6, T6⟩
  have HI := Lib.hid (HOI.out.did h6 T6)
  clear HOI HML HEQ h6 T6 cx
  have hsf := fun (a : Addr) (c : Array Value) (w : World) => run_store Try.prog w a (.func (.func 29) #[] c) .plain rfl
  go_wp2_with fail
  clear hsf
  go_loopw [54] (fun y wr => ∃ (i : Nat) (s : Lp) (q : List Int), y = .int .i64 i ∧ i ≤ O ∧ OffI w wr b s zk zx zp a l.length cap ∧ PB s O i q 0 0 ∧ s.token = -1) (fun y _ => O - (intOf y).toNat)
  case atStart => exact ⟨0, _, _, rfl, Nat.zero_le _, HI.out, HPB.out, HTOK.out⟩
  case round =>
  clear HI HPB HTOK
  obtain ⟨i, s, q, rfl, hi, hI, hP, htok⟩ := hrel
  by_cases hlt : i < O
  · have hltI : (i : Int) < (O : Int) := by omega
    have sj : IntKind.i64.wrap (100 + (i : Int)) = 100 + (i : Int) := by rw [IntKind.wrap_i64]; omega
    obtain ⟨κ, hκ⟩ := off_ask hI HIN.out i (by omega) (100 + (i : Int)) (hP.lens (by omega))
    obtain ⟨s', y, q', e, hP', htok'⟩ := hP.ask htok hI.lp.ok hlt lO κ
    have HC := Lib.hid (hκ s' y e)
    have HP := Lib.hid hP'
    have HTOK := Lib.hid htok'
    have HK := Lib.hid (show i + 1 ≤ O by omega)
    clear hI hP htok hκ e hP' htok' hlt
    go_wp2_with fail
    refine HC.out.mono ?_
    rintro e w7 ⟨rfl, hI7⟩
    have HI7 := Lib.hid hI7
    clear hI7 HC
    go_wp2
    go_roundw
    case rel => exact ⟨i + 1, s', q', num (by omega), HK.out, HI7.out, HP.out, HTOK.out⟩
    case measure => simp [intOf]; omega
  have hltI : ¬ ((i : Int) < (O : Int)) := by omega
  have HP : Hid (PB s O O q 0 0) := Lib.hid (by rw [show i = O by omega] at hP; exact hP)
  have HI := Lib.hid hI
  clear hlt hi hI hP htok
  go_wp2_with fail
  go_loopw [16, 17, 64] (fun y z v wr => ∃ (j seen : Nat) (s : Lp) (q : List Int) (f : Bool), y = .bool f ∧ z = .int .i64 seen ∧ v = .int .i64 j ∧ OffI w wr b s zk zx zp a l.length cap ∧ (f = false ∧ PB s O O q seen j ∨ f = true ∧ PD s O q seen j ∧ s.prs = [⟨false, 0, q⟩])) (fun _ _ v _ => 50 - (intOf v).toNat)
  case atStart => exact ⟨0, 0, s, q, false, rfl, rfl, rfl, HI.out, .inl ⟨rfl, HP.out⟩⟩
  case round =>
  clear HI HP hltI
  obtain ⟨j, seen, s, q, f, rfl, rfl, rfl, hI, hc⟩ := hrel
  have cx := hI.x.cellOf 0 _ rfl
  have HI := Lib.hid hI
  rcases hc with ⟨rfl, hP⟩ | ⟨rfl, hD, hprs⟩
  · have hj : (j : Int) < 50 := by have := hP.len; omega
    have hsn : seen ≤ 20 := by have := hP.cnt; omega
    obtain ⟨s', t, e, ⟨_, hr, hP'⟩ | ⟨rfl, hC⟩⟩ := hP.next
    · have HNX := Lib.hid (lpi_next hI.lp e)
      have HP := Lib.hid hP'
      obtain ⟨kd, fn, arg, tok⟩ := t
      dsimp only at hr
      clear hI hP hP' e
      -- one that was asked for outside is told
      have d1 : ¬ (fn = 500) := by omega
      have d2 : decide (fn = 500) = false := decide_eq_false d1
      have d3 : ¬ (fn < 100) := by omega
      have d4 : ¬ (120 < fn) := by omega
      have d5 : decide (fn < 100) = false := decide_eq_false d3
      have d6 : (fn == 500) = false := by simp; omega
      have sS : IntKind.i64.wrap ((seen : Int) + 1) = (seen : Int) + 1 := by rw [IntKind.wrap_i64]; omega
      clear hr
      go_wp2_with fail
      refine HNX.out.mono ?_
      rintro e w5 ⟨rfl, h5, T5⟩
      have HI5 := Lib.hid ((HI.out.did h5 T5).nothing ((Tch.refl NoBlk w5).alloc (.cells #[.int .i64 kd, .int .i64 fn, .int .i64 arg, .int .i64 tok] 31)))
      clear HNX HI h5 T5 cx
      simp only [Option.getD_some, Option.isSome_some, tkv]
      go_wp2
      go_roundw
      case rel => exact ⟨j + 1, seen + 1, s', q, false, rfl, num (by omega), num (by omega), HI5.out, .inl ⟨rfl, HP.out⟩⟩
      case measure => simp [intOf]; omega
    · have HNX := Lib.hid (lpi_next hI.lp e)
      have HPC := Lib.hid hC
      clear hI hP hC e
      go_wp2_with fail
      refine HNX.out.mono ?_
      rintro e w5 ⟨rfl, h5, T5⟩
      have hI5 := (HI.out.did h5 T5).nothing ((Tch.refl NoBlk w5).alloc (.cells #[.int .i64 1, .int .i64 500, .int .i64 0, .int .i64 0] 31))
      have cx := hI5.x.cellOf 0 _ rfl
      have HI5 := Lib.hid hI5
      clear HNX HI h5 T5 hI5
      simp only [Option.getD_some, Option.isSome_some, tkv, T5]
      go_wp2_with fail
      go_loopw [85] (fun y wr => ∃ (m : Nat) (s : Lp) (q : List Int), y = .int .i64 m ∧ m ≤ In ∧ OffI w wr b s zk zx zp a l.length cap ∧ PC s O m q seen (j + 1)) (fun y _ => In - (intOf y).toNat)
      case atStart => exact ⟨0, _, _, rfl, Nat.zero_le _, HI5.out, HPC.out⟩
      case round =>
      clear HI5 HPC cx
      obtain ⟨m, s, q, rfl, hm, hI, hC⟩ := hrel
      by_cases hlt : m < In
      · have hltI : (m : Int) < (In : Int) := by omega
        have sj : IntKind.i64.wrap (200 + (m : Int)) = 200 + (m : Int) := by rw [IntKind.wrap_i64]; omega
        obtain ⟨κ, hκ⟩ := off_ask hI HIN.out m (by omega) (200 + (m : Int)) (hC.lens lO (by omega))
        obtain ⟨s', y, q', e, hC'⟩ := hC.ask hI.lp.ok (by omega) lO κ (200 + (m : Int))
        have HC := Lib.hid (hκ s' y e)
        have HP := Lib.hid hC'
        have HK := Lib.hid (show m + 1 ≤ In by omega)
        clear hI hC hκ e hC' hlt
        go_wp2_with fail
        refine HC.out.mono ?_
        rintro e w7 ⟨rfl, hI7⟩
        have HI7 := Lib.hid hI7
        clear hI7 HC
        go_wp2
        go_roundw
        case rel => exact ⟨m + 1, s', q', num (by omega), HK.out, HI7.out, HP.out⟩
        case measure => simp [intOf]; omega
      · have hltI : ¬ ((m : Int) < (In : Int)) := by omega
        obtain ⟨s', e, hD, hprs⟩ := hC.cancel hI.lp.ok lO (by omega)
        have cx := hI.x.cellOf 0 _ rfl
        have HRS := Lib.hid (lpi_resume hI.lp 300 (hC.lens lO (by omega)).1)
        have HE := Lib.hid e
        have HD := Lib.hid hD
        have HPRS := Lib.hid hprs
        have HI := Lib.hid hI
        clear hI hC e hD hprs hlt hm
        go_wp2_with fail
        refine HRS.out.mono ?_
        rintro e w7 ⟨rfl, h7, T7⟩
        have hI7 := HI.out.did h7 T7
        have cx := hI7.x.cellOf 0 _ rfl
        have HCA := Lib.hid (lpi_cancel hI7.lp 0 HE.out)
        have HI7 := Lib.hid hI7
        clear HRS HI h7 T7 hI7
        go_wp2_with fail
        refine HCA.out.mono ?_
        rintro e w8 ⟨rfl, h8, T8⟩
        have HI8 := Lib.hid (HI7.out.did h8 T8)
        clear HCA HI7 h8 T8 cx HE
        go_wp2
        go_roundw
        case rel => exact ⟨j + 1, seen, s', q, true, rfl, rfl, num (by omega), HI8.out, .inr ⟨rfl, HD.out, HPRS.out⟩⟩
        case measure => simp [intOf]; omega
  · have hj : (j : Int) < 50 := by have := hD.lv; omega
    have hsn : seen ≤ 20 := by have := hD.cnt; omega
    obtain ⟨s', hs, ⟨e, hm, hc, hD'⟩ | ⟨t, e, hr, hD'⟩⟩ := hD.next
    · have HNX := Lib.hid (lpi_next hI.lp e)
      have HM := Lib.hid hm
      have HC := Lib.hid hc
      have HD := Lib.hid hD'
      have HPRS : Hid (s'.prs = [⟨false, 0, q⟩]) := Lib.hid (by rw [hs.prs]; exact hprs)
      clear hI hD hprs hs e hm hc hD'
      go_wp2_with fail
      refine HNX.out.mono ?_
      rintro e w5 ⟨rfl, h5, T5⟩
      have hI5 := (HI.out.did h5 T5).nothing ((Tch.refl NoBlk w5).alloc (.cells #[.int .i64 0, .int .i64 0, .int .i64 0, .int .i64 0] 31))
      have cx := hI5.x.cellOf 0 _ rfl
      have cp := hI5.p.cellOf 0 _ rfl
      obtain ⟨hA1, hA2, hA3, hA4⟩ := HD.out.adv hI5.lp.ok HM.out HC.out
      have HAD := Lib.hid (lpi_advance hI5.lp 3 (by have := hI5.lp.ok.tml; rw [HM.out]; simp; omega) rfl)
      generalize advL s'.L.length s' 3 = s6 at *
      have HA1 := Lib.hid hA1
      have HA2 := Lib.hid hA2
      have HA3 := Lib.hid hA3
      have HA4 : Hid (s6.prs = [⟨false, 0, q⟩]) := Lib.hid (by rw [hA4]; exact HPRS.out)
      have HI5 := Lib.hid hI5
      clear HNX HI h5 T5 hI5 HD hA1 hA2 hA3 hA4 HPRS HM HC
      simp only [Option.getD_none, Option.isSome_none, tkv, tk0]
      go_wp2_with fail
      refine HAD.out.mono ?_
      rintro e w6 ⟨rfl, h6, T6⟩
      have hI6 := HI5.out.did h6 T6
      have cx := hI6.x.cellOf 0 _ rfl
      have cp := hI6.p.cellOf 0 _ rfl
      obtain ⟨s7, e7, hS1, hS2⟩ := HA1.out.settle hI6.lp.ok HA4.out
      have hq60 := HA1.out.sm
      have HST := Lib.hid (lpi_settle hI6.lp 0 1 (by rw [HA3.out, HA4.out]; simp [settleM, prOf]; omega) e7)
      have HS1 := Lib.hid hS1
      have HS2 : Hid (s7.L = []) := Lib.hid (by rw [hS2]; exact HA2.out)
      have HI6 := Lib.hid hI6
      clear HAD HI5 h6 T6 hI6 e7 hS1 hS2 HA1 HA2 HA3 HA4 hq60
      go_wp2_with fail
      refine HST.out.mono ?_
      rintro e w7 ⟨rfl, h7, T7⟩
      have HI7 := Lib.hid (HI6.out.did h7 T7)
      clear HST HI6 h7 T7 cx cp
      go_wp2_with fail
      go_loopw [17, 120] (fun z v wr => ∃ (j seen : Nat) (s : Lp), z = .int .i64 seen ∧ v = .int .i64 j ∧ OffI w wr b s zk zx zp a l.length cap ∧ PD s O [] seen j ∧ s.L = []) (fun _ v _ => 50 - (intOf v).toNat)
      case atStart => exact ⟨0, seen, s7, rfl, rfl, HI7.out, HS1.out, HS2.out⟩
      case round =>
      clear HI7 HS1 HS2 hj hsn
      obtain ⟨j, seen, s, rfl, rfl, hI, hD, hL⟩ := hrel
      have cx := hI.x.cellOf 0 _ rfl
      have HI := Lib.hid hI
      have hj : (j : Int) < 50 := by have := hD.lv; omega
      have hsn : seen ≤ 20 := by have := hD.cnt; omega
      obtain ⟨s', hs, ⟨e, hm, hc, hD'⟩ | ⟨t, e, hr, hD'⟩⟩ := hD.next
      · have HNX := Lib.hid (lpi_next hI.lp e)
        obtain rfl : seen = O := hD'.done hm hc (by rw [hs.L]; exact hL)
        clear hI hD hL hs e hm hc hD'
        go_wp2_with fail
        refine HNX.out.mono ?_
        rintro e w5 ⟨rfl, h5, T5⟩
        have HB := Lib.hid (h5.below.alloc h5.below.size (.cells #[.int .i64 0, .int .i64 0, .int .i64 0, .int .i64 0] 31))
        clear HNX HI h5 T5 cx
        simp only [Option.getD_none, Option.isSome_none, tkv, tk0]
        go_wp2
        go_ret
        exact ⟨rfl, HB.out⟩
      · have HNX := Lib.hid (lpi_next hI.lp e)
        have HP := Lib.hid hD'
        have HL : Hid (s'.L = []) := Lib.hid (by rw [hs.L]; exact hL)
        obtain ⟨kd, fn, arg, tok⟩ := t
        dsimp only at hr
        clear hI hD hL hs hD' e
        -- one that was asked for outside is told
        have d1 : ¬ (fn = 500) := by omega
        have d2 : decide (fn = 500) = false := decide_eq_false d1
        have d3 : ¬ (fn < 100) := by omega
        have d4 : ¬ (120 < fn) := by omega
        have d5 : decide (fn < 100) = false := decide_eq_false d3
        have d6 : (fn == 500) = false := by simp; omega
        have sS : IntKind.i64.wrap ((seen : Int) + 1) = (seen : Int) + 1 := by rw [IntKind.wrap_i64]; omega
        clear hr
        go_wp2_with fail
        refine HNX.out.mono ?_
        rintro e w5 ⟨rfl, h5, T5⟩
        have HI5 := Lib.hid ((HI.out.did h5 T5).nothing ((Tch.refl NoBlk w5).alloc (.cells #[.int .i64 kd, .int .i64 fn, .int .i64 arg, .int .i64 tok] 31)))
        clear HNX HI h5 T5 cx
        simp only [Option.getD_some, Option.isSome_some, tkv]
        go_wp2
        go_roundw
        case rel => exact ⟨j + 1, seen + 1, s', num (by omega), num (by omega), HI5.out, HP.out, HL.out⟩
        case measure => simp [intOf]; omega
    · have HNX := Lib.hid (lpi_next hI.lp e)
      have HP := Lib.hid hD'
      have HPRS : Hid (s'.prs = [⟨false, 0, q⟩]) := Lib.hid (by rw [hs.prs]; exact hprs)
      obtain ⟨kd, fn, arg, tok⟩ := t
      dsimp only at hr
      clear hI hD hprs hs hD' e
      -- one that was asked for outside is told
      have d1 : ¬ (fn = 500) := by omega
      have d2 : decide (fn = 500) = false := decide_eq_false d1
      have d3 : ¬ (fn < 100) := by omega
      have d4 : ¬ (120 < fn) := by omega
      have d5 : decide (fn < 100) = false := decide_eq_false d3
      have d6 : (fn == 500) = false := by simp; omega
      have sS : IntKind.i64.wrap ((seen : Int) + 1) = (seen : Int) + 1 := by rw [IntKind.wrap_i64]; omega
      clear hr
      go_wp2_with fail
      refine HNX.out.mono ?_
      rintro e w5 ⟨rfl, h5, T5⟩
      have HI5 := Lib.hid ((HI.out.did h5 T5).nothing ((Tch.refl NoBlk w5).alloc (.cells #[.int .i64 kd, .int .i64 fn, .int .i64 arg, .int .i64 tok] 31)))
      clear HNX HI h5 T5 cx
      simp only [Option.getD_some, Option.isSome_some, tkv]
      go_wp2
      go_roundw
      case rel => exact ⟨j + 1, seen + 1, s', q, true, rfl, num (by omega), num (by omega), HI5.out, .inr ⟨rfl, HP.out, HPRS.out⟩⟩
      case measure => simp [intOf]; omega
end Go.Proofs.Ytipbimbnpikbcaa
