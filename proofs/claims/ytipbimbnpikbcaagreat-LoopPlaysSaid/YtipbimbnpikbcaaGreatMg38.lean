import Derived.Test.YtipbimbnpikbcaaGreatMg37
import Derived.Deep.CutRange
import Derived.Deep.QuietTactic
/- LoopPlays' walk. -/
namespace Go.Proofs.YtipbimbnpikbcaaGreat
open Go.RowKit

/-- A loop of the law's own and the document's, each in blocks of its own. -/
structure BothL (w0 w : World) (b : Nat) (s : Lp) (b2 : Nat) (s2 : Lp) (F O : Nat → Prop) : Prop where
  one : LpI w0 w b s O
  two : RLoopQ w b2 s2 F
  sub : ∀ k, F k → O k
  base : ∀ k, O k → w0.heap.size ≤ k
section
variable {w0 w w' : World} {b b2 : Nat} {s s' s2 s3 : Lp} {F O : Nat → Prop}
theorem BothL.nothing (h : BothL w0 w b s b2 s2 F O) (T : Tch NoBlk w w') : BothL w0 w' b s b2 s2 F O :=
  ⟨h.one.nothing T, h.two.keep T (fun _ _ e => e), h.sub, h.base⟩
theorem BothL.prog (h : BothL w0 w b s b2 s2 F O) (h1 : LpI w0 w' b s' O) (T : Tch (Oth w0 O) w w') : BothL w0 w' b s' b2 s2 F O :=
  ⟨h1, h.two.keep T (fun k hk e => e.2 (h.sub k hk)), h.sub, h.base⟩
theorem BothL.doc (h : BothL w0 w b s b2 s2 F O) (L : RLeft w w' b2 F s3) : Tch F w w' ∧ ∃ F', BothL w0 w' b s b2 s3 F' (fun k => O k ∨ F' k) := by
  obtain ⟨T, F', q, l⟩ := L
  refine ⟨T, F', ⟨h.one.grow T (fun k hk => h.sub k hk) (fun k hk => h.base k (h.sub k hk)) (fun k hk => ?_), q, fun k hk => .inr hk, fun k hk => ?_⟩⟩
  · rcases hk with e | e
    · exact ⟨.inl e, Nat.lt_of_lt_of_le (h.one.lt k e) T.size⟩
    · exact ⟨(l k e).imp_left (h.sub k), q.lt k e⟩
  · rcases hk with e | e
    · exact h.base k e
    · rcases l k e with e | e
      · exact h.base k (h.sub k e)
      · exact Nat.le_trans h.one.below.size e
theorem BothL.more (h : BothL w0 w b s b2 s2 F O) (ob : Obj) : BothL w0 (w.alloc ob) b s b2 s2 F (fun k => O k ∨ k = w.heap.size) :=
  ⟨h.one.new ob, h.two.keep ((Tch.refl NoBlk w).alloc ob) (fun _ _ e => e), fun k hk => .inl (h.sub k hk), fun k hk => by
    rcases hk with e | rfl
    · exact h.base k e
    · exact h.one.below.size⟩
theorem lpi_does (h : LpI w0 w b s O) (k : Nat) (hk : k % 16 ≤ 11) (a c : Int) (hn : wgt s < 1000000) {x y : Int} (hm : actL s (k % 16) a c = (s', x, y)) :
    Calls Tryz.prog 10 #[.pointer (some ⟨b, 0, none⟩), .agg #[.int .u8 (k : Int), .int .i64 a, .int .i64 c]] w fun e w' => e = .returned (.tuple #[.int .i64 x, .int .i64 y]) ∧ LpI w0 w' b s' O ∧ Tch (Oth w0 O) w w' :=
  h.via (fun _ q => by have := does_act q k hk a c hn; rw [hm] at this; exact this)
theorem RLoopQ.lens (h : RLoopQ w b s F) : ∃ A1 c1 A2 c2 A3 c3, w.cell? ⟨b, 3, none⟩ = some (.slice A1 s.mac.length c1) ∧ w.cell? ⟨b, 4, none⟩ = some (.slice A2 s.mic.length c2) ∧ w.cell? ⟨b, 6, none⟩ = some (.slice A3 s.L.length c3) := by
  obtain ⟨A, c, h6⟩ := h.timCell
  obtain ⟨o, P, H, hF⟩ := h
  exact ⟨_, _, _, _, A, c, (H.part 0).1.cellOf 3 _ rfl, (H.part 0).1.cellOf 4 _ rfl, h6⟩
end
set_option maxHeartbeats 4000000 in
set_option maxRecDepth 100000 in
theorem loopPlays_walk (x0 : Int) (a : Option Addr) (cap : Nat) (l : List Ak) (V : Nat → Nat → Value) (w : World) (_h0 : IntKind.i64.min ≤ x0 ∧ x0 ≤ IntKind.i64.max) (h : TripsIn w a cap l.length V)
    (hl : ∀ i, i < l.length → (V i 0 = .int .u8 ((l.getD i ak0).1 : Int) ∧ (l.getD i ak0).1 ≤ 255) ∧ V i 1 = .int .i64 (l.getD i ak0).2.1 ∧ V i 2 = .int .i64 (l.getD i ak0).2.2) :
    Calls Tryz.prog 3 #[.int .i64 x0, .slice a l.length cap] w fun e w' => e = .returned (.bool true) ∧ Below w.heap.size w w' := by
  obtain ⟨hle, hcp, he⟩ := h
  have HE := Lib.hid he
  have HL := Lib.hid hl
  clear he hl
  go_enter Tryz.func3, Tryz.ntmps3
  go_wp2_with fail
  refine (loop_shown w).mono ?_
  rintro e w1 ⟨rfl, T1⟩
  have B1 := below_no (Below.refl _ w) T1
  clear T1
  by_cases hb : x0 < 1 ∨ 64 < x0
  · have HB := Lib.hid hb
    have HB1 := Lib.hid B1
    clear hb B1 hle hcp
    go_wp2_with fail
    refine (loop_new_no x0 w1 HB.out).mono ?_
    rintro e w2 ⟨rfl, hw⟩
    subst hw
    go_wp2_with fail
    refine (rl_new_no x0 w2 HB.out).mono ?_
    rintro e w3 ⟨rfl, hw⟩
    subst hw
    go_wp2
    go_ret
    exact ⟨rfl, HB1.out⟩
  · obtain ⟨q0, rfl⟩ := Int.eq_ofNat_of_zero_le (show 0 ≤ x0 by omega)
    have HQ0 := Lib.hid (show 1 ≤ q0 ∧ q0 ≤ 64 by omega)
    have HB1 := Lib.hid B1
    clear hb B1
    go_wp2_with fail
    refine (lpi_new (O := fun _ => False) HB1.out (fun _ e => e.elim) q0 HQ0.out.1 HQ0.out.2).mono ?_
    rintro e w2 ⟨b, rfl, h2, _⟩
    have H2 := Lib.hid h2
    clear h2
    go_wp2_with fail
    refine (rl_new_yes q0 w2 HQ0.out.1 HQ0.out.2).mono ?_
    rintro e w3 ⟨b', F0, rfl, q3, l3, T3⟩
    have hP3 : BothL w w3 b (newL q0) b' (newL q0) F0 F0 := ⟨H2.out.grow T3 (fun _ e => e.elim) (fun _ e => e.elim) (fun k hk => ⟨.inr (l3 k hk), q3.lt k hk⟩), q3, fun _ hk => hk, fun k hk => Nat.le_trans H2.out.below.size (l3 k hk)⟩
    have HP3 := Lib.hid hP3
    clear hP3 q3 l3 T3 H2
    have HW0 := Lib.hid (show wgt (newL q0) ≤ 0 by simp [wgt, loadL, qsum, newL])
    generalize newL q0 = s0 at *
    go_wp2_with fail
    refine (few_acts a l.length cap w3 hle hcp).mono ?_
    rintro e w4 ⟨rfl, hw⟩
    subst hw
    obtain ⟨n, hn⟩ : ∃ n, min l.length 150 = n := ⟨_, rfl⟩
    have hnl : n ≤ l.length ∧ n ≤ 150 := by omega
    rw [hn]
    have HNL := Lib.hid hnl
    have hnc : n ≤ cap := by omega
    clear hn hnl
    go_wp2_with fail
    go_loopw [54] (fun i wr => ∃ (k : Nat) (t : Lp) (F O : Nat → Prop), i = .int .i64 k ∧ k ≤ n ∧ wgt t ≤ k ∧ BothL w wr b t b' t F O) (fun i _ => n - (intOf i).toNat)
    case atStart => exact ⟨0, s0, _, _, rfl, Nat.zero_le _, HW0.out, HP3.out⟩
    case round =>
      clear HP3 HW0
      obtain ⟨k, t, F, O, rfl, hk, hwg, hP⟩ := hrel
      by_cases hlt : k < n
      · have hnL := HNL.out
        obtain ⟨ba, off, rfl, hcell⟩ := HE.out (by omega)
        have hkn : k < l.length := by omega
        obtain ⟨⟨v0, hm⟩, v1, v2⟩ := HL.out k (by omega)
        have hc0 := hcell k hkn 0 (by omega)
        have hc1 := hcell k hkn 1 (by omega)
        have hc2 := hcell k hkn 2 (by omega)
        rw [v0] at hc0
        rw [v1] at hc1
        rw [v2] at hc2
        have hw0 : wr.cell? ⟨ba, off + (k * 3 + 0), none⟩ = _ := (hP.one.below.cell (p := ⟨ba, off + (k * 3 + 0), none⟩) (World.block_lt_of_cell? w _ hc0)).trans hc0
        have hw1 : wr.cell? ⟨ba, off + (k * 3 + 1), none⟩ = _ := (hP.one.below.cell (p := ⟨ba, off + (k * 3 + 1), none⟩) (World.block_lt_of_cell? w _ hc1)).trans hc1
        have hw2 : wr.cell? ⟨ba, off + (k * 3 + 2), none⟩ = _ := (hP.one.below.cell (p := ⟨ba, off + (k * 3 + 2), none⟩) (World.block_lt_of_cell? w _ hc2)).trans hc2
        have hx0 : wr.cell? ⟨ba, off + k * 3, none⟩ = _ := hw0
        have hx1 : wr.cell? ⟨ba, off + k * 3 + 1, none⟩ = _ := hw1
        have hx2 : wr.cell? ⟨ba, off + k * 3 + 2, none⟩ = _ := hw2
        have HK : Hid (k + 1 ≤ n) := Lib.hid (by omega)
        have HN := Lib.hid (wgt_le hwg (by omega))
        have HN1 := Lib.hid (show wgt t < 1000000 by omega)
        clear hcell hc0 hc1 hc2 v0 v1 v2 hw0 hw1 hw2 hnL
        generalize (l.getD k ak0) = act at *
        obtain ⟨m, av, bv⟩ := act
        dsimp only at hx0 hx1 hx2 hm
        have hP1 := hP.more (.cells #[.int .u8 (m : Int), .int .i64 av, .int .i64 bv] 33)
        have hA := Blk.new wr 33 [.int .u8 (m : Int), .int .i64 av, .int .i64 bv]
        have HFA := Lib.hid (show ¬ F wr.heap.size from fun e => Nat.lt_irrefl _ (hP.two.lt _ e))
        have HP1 := Lib.hid hP1
        have a0 := hA.cellOf 0 _ rfl
        have a1 := hA.cellOf 1 _ rfl
        have a2 := hA.cellOf 2 _ rfl
        have hmt : (m : Int).tmod 16 = (m : Int) % 16 := Int.tmod_eq_emod_of_nonneg (by omega)
        have HA := Lib.hid hA
        have HWG0 := Lib.hid hwg
        clear hP hP1 hA hwg
        by_cases hq : 11 < m % 16
        · have hqI : (11 : Int) < (m : Int) % 16 := by omega
          have hqD : decide ((11 : Int) < (m : Int) % 16) = true := decide_eq_true hqI
          obtain ⟨⟨t', r⟩, hr⟩ : ∃ r, nextL t = r := ⟨_, rfl⟩
          have HR := Lib.hid hr
          have HWG : Hid (wgt t' ≤ k + 1) := Lib.hid (by have := wgt_next t; rw [hr] at this; have := HWG0.out; dsimp only at *; omega)
          clear hq hr
          go_upto_region 12 with fail
          clear hx0 hx1 hx2 a0 a1 a2 hmt hqI hqD
          generalize wr.alloc (.cells #[.int .u8 (m : Int), .int .i64 av, .int .i64 bv] 33) = wA at *
          generalize wr.heap.size = ga at *
          go_wp2_with fail
          refine (lpi_next HP1.out.one HR.out).mono ?_
          rintro e w5 ⟨rfl, h5, T5⟩
          have hP5 := HP1.out.prog h5 T5
          have HP5 := Lib.hid hP5
          obtain ⟨x, hx⟩ : ∃ x, r.getD tk0 = x := ⟨_, rfl⟩
          obtain ⟨ok, hok⟩ : ∃ ok, r.isSome = ok := ⟨_, rfl⟩
          rw [hx, hok]
          have HX := Lib.hid hx
          have HOK := Lib.hid hok
          obtain ⟨xk, xf, xa, xt⟩ := x
          unfold tkv
          have hP6 := hP5.nothing ((Tch.refl NoBlk w5).alloc (.cells #[.int .i64 xk, .int .i64 xf, .int .i64 xa, .int .i64 xt] 35))
          have hZ := Blk.new w5 35 [.int .i64 xk, .int .i64 xf, .int .i64 xa, .int .i64 xt]
          have HZ := Lib.hid hZ
          have HFZ := Lib.hid (show ¬ F w5.heap.size from fun e => Nat.lt_irrefl _ (hP5.two.lt _ e))
          have HP6 := Lib.hid hP6
          clear hP5 hP6 hZ h5 T5 hx hok HP5 HP1 HA HFA
          go_upto_region 13 with fail
          generalize w5.alloc (.cells #[.int .i64 xk, .int .i64 xf, .int .i64 xa, .int .i64 xt] 35) = w6 at *
          generalize w5.heap.size = zp at *
          have hnx := rl_next HP6.out.two ⟨HN.out.1, HN.out.2.1⟩
          rw [HR.out] at hnx
          dsimp only at hnx
          rw [HX.out, HOK.out] at hnx
          unfold tkv at hnx
          have HNX := Lib.hid hnx
          clear hnx
          go_wp2_with fail
          refine HNX.out.mono ?_
          rintro e w7 ⟨rfl, L7⟩
          obtain ⟨T7, F7, hP7⟩ := HP6.out.doc L7
          have hZ7 := HZ.out.keep T7 HFZ.out
          have hP8 := hP7.nothing ((Tch.refl NoBlk w7).alloc (.cells #[.int .i64 xk, .int .i64 xf, .int .i64 xa, .int .i64 xt] 35))
          have hZ8 := hZ7.keep ((Tch.refl NoBlk w7).alloc (.cells #[.int .i64 xk, .int .i64 xf, .int .i64 xa, .int .i64 xt] 35)) (fun e => e)
          have hY8 := Blk.new w7 35 [.int .i64 xk, .int .i64 xf, .int .i64 xa, .int .i64 xt]
          have p0 := hZ8.cellOf 0 _ rfl
          have p1 := hZ8.cellOf 1 _ rfl
          have p2 := hZ8.cellOf 2 _ rfl
          have p3 := hZ8.cellOf 3 _ rfl
          have y0 := hY8.cellOf 0 _ rfl
          have y1 := hY8.cellOf 1 _ rfl
          have y2 := hY8.cellOf 2 _ rfl
          have y3 := hY8.cellOf 3 _ rfl
          have g5 : (ok != ok) = false := by simp
          clear hP7 hZ7 hZ8 hY8 T7 L7 HNX HP6 HZ HFZ
          go_upto_region 14 with fail
          generalize w7.alloc (.cells #[.int .i64 xk, .int .i64 xf, .int .i64 xa, .int .i64 xt] 35) = w8 at *
          generalize w7.heap.size = zq at *
          go_upto_region 20 with fail
          clear p0 p1 p2 p3 y0 y1 y2 y3 g5
          -- how much waits, when the next timer is due; the round's test; state t', world w8
          have HP := Lib.hid hP8
          have f1 : (((t').mac.length : Int) != ((t').mac.length : Int)) = false := by simp
          have f2 : (((t').mic.length : Int) != ((t').mic.length : Int)) = false := by simp
          have f3 : (((t').L.length : Int) != ((t').L.length : Int)) = false := by simp
          clear hP8
          go_wp2_with fail
          refine (lpi_waits HP.out.one).mono ?_
          rintro e w0 ⟨rfl, n7, rfl⟩
          have hP7 := HP.out.nothing ((Tch.refl NoBlk _).drewN n7)
          have HP7 := Lib.hid hP7
          clear hP7 HP
          generalize w8.drewN n7 = w7 at *
          obtain ⟨⟨dx, dok⟩, hdu⟩ : ∃ r, nextM (t').L = r := ⟨_, rfl⟩
          have f4 : (dx != dx) = false := by simp
          have f5 : (dok != dok) = false := by simp
          have HDU := Lib.hid hdu
          clear hdu
          go_wp2_with fail
          refine (lpi_due HP7.out.one HDU.out).mono ?_
          rintro e w0 ⟨rfl, hw⟩
          subst hw
          have htn := rl_tnext HP7.out.two
          rw [HDU.out] at htn
          have HTN := Lib.hid htn
          clear htn
          go_wp2_with fail
          refine HTN.out.mono ?_
          rintro e w9 ⟨rfl, n9, rfl⟩
          have hP9 := HP7.out.nothing ((Tch.refl NoBlk _).drewN n9)
          have HP9 := Lib.hid hP9
          obtain ⟨A1, c1, A2, c2, A3, c3, k3, k4, k6⟩ := hP9.two.lens
          clear hP9 HTN HP7 HDU
          go_wp2
          go_roundw
          case rel => exact ⟨k + 1, t', _, _, num (by omega), HK.out, HWG.out, HP9.out⟩
          case measure => simp [intOf]; omega
        · have hqI : ¬ ((11 : Int) < (m : Int) % 16) := by omega
          have hqD : decide ((11 : Int) < (m : Int) % 16) = false := decide_eq_false hqI
          have HQ := Lib.hid (show m % 16 ≤ 11 by omega)
          obtain ⟨⟨t', x, y⟩, hr⟩ : ∃ r, actL t (m % 16) av bv = r := ⟨_, rfl⟩
          have HR := Lib.hid hr
          have HWG : Hid (wgt t' ≤ k + 1) := Lib.hid (by have := wgt_act t (m % 16) av bv; rw [hr] at this; have := HWG0.out; dsimp only at *; omega)
          have g1 : (x != x) = false := by simp
          have g2 : (y != y) = false := by simp
          clear hq hr
          go_upto_region 16 with fail
          clear hx0 hx1 hx2 hmt hqI hqD
          generalize wr.alloc (.cells #[.int .u8 (m : Int), .int .i64 av, .int .i64 bv] 33) = wA at *
          generalize wr.heap.size = ga at *
          go_wp2_with fail
          refine (lpi_does HP1.out.one m HQ.out av bv HN1.out HR.out).mono ?_
          rintro e w5 ⟨rfl, h5, T5⟩
          have hP5 := HP1.out.prog h5 T5
          have hA5 := HA.out.keep T5 (fun e => e.2 (.inr rfl))
          have HP5 := Lib.hid hP5
          clear a0 a1 a2 h5 T5 hP5 HP1 HA HFA
          have a0 := hA5.cellOf 0 _ rfl
          have a1 := hA5.cellOf 1 _ rfl
          have a2 := hA5.cellOf 2 _ rfl
          clear hA5
          have hme := means_act HP5.out.two m HQ.out av bv HN1.out
          rw [HR.out] at hme
          have HME := Lib.hid hme
          clear hme
          go_wp2_with fail
          refine HME.out.mono ?_
          rintro e w6 ⟨rfl, L6⟩
          obtain ⟨T6, F6, hP6⟩ := HP5.out.doc L6
          clear T6 L6 HME HP5 a0 a1 a2
          go_upto_region 20 with fail
          clear g1 g2
          -- how much waits, when the next timer is due; the round's test; state t', world w6
          have HP := Lib.hid hP6
          have f1 : (((t').mac.length : Int) != ((t').mac.length : Int)) = false := by simp
          have f2 : (((t').mic.length : Int) != ((t').mic.length : Int)) = false := by simp
          have f3 : (((t').L.length : Int) != ((t').L.length : Int)) = false := by simp
          clear hP6
          go_wp2_with fail
          refine (lpi_waits HP.out.one).mono ?_
          rintro e w0 ⟨rfl, n7, rfl⟩
          have hP7 := HP.out.nothing ((Tch.refl NoBlk _).drewN n7)
          have HP7 := Lib.hid hP7
          clear hP7 HP
          generalize w6.drewN n7 = w7 at *
          obtain ⟨⟨dx, dok⟩, hdu⟩ : ∃ r, nextM (t').L = r := ⟨_, rfl⟩
          have f4 : (dx != dx) = false := by simp
          have f5 : (dok != dok) = false := by simp
          have HDU := Lib.hid hdu
          clear hdu
          go_wp2_with fail
          refine (lpi_due HP7.out.one HDU.out).mono ?_
          rintro e w0 ⟨rfl, hw⟩
          subst hw
          have htn := rl_tnext HP7.out.two
          rw [HDU.out] at htn
          have HTN := Lib.hid htn
          clear htn
          go_wp2_with fail
          refine HTN.out.mono ?_
          rintro e w9 ⟨rfl, n9, rfl⟩
          have hP9 := HP7.out.nothing ((Tch.refl NoBlk _).drewN n9)
          have HP9 := Lib.hid hP9
          obtain ⟨A1, c1, A2, c2, A3, c3, k3, k4, k6⟩ := hP9.two.lens
          clear hP9 HTN HP7 HDU
          go_wp2
          go_roundw
          case rel => exact ⟨k + 1, t', _, _, num (by omega), HK.out, HWG.out, HP9.out⟩
          case measure => simp [intOf]; omega
      · have hge : n ≤ k := by omega
        have HB := Lib.hid hP.one.below
        clear hlt hP
        go_wp2
        go_ret
        exact ⟨rfl, HB.out⟩
end Go.Proofs.YtipbimbnpikbcaaGreat
