import Derived.Test.YtipbimbnpikbcaaGreatMg18
import Derived.Test.YtipbimbnpikbcaaGreatMg09
/- Settle: what waited becomes micro tasks. -/
namespace Go.Proofs.YtipbimbnpikbcaaGreat
open Go.RowKit

/-- What the first j of those that waited made of the loop. -/
def setS (s : Lp) (id v : Int) (out : List Int) (j : Nat) : Lp := { s with prs := (settleM s.prs id v).1, mic := s.mic ++ (out.take j).map fun k => withArg v (getL s k) }
structure SetK (w2 wr : World) (b : Nat) (F : Nat → Prop) (s : Lp) (id v : Int) (out : List Int) (j : Nat) (A : Option Addr) (cap : Nat) (G : Option Nat) : Prop where
  left : LoopLeft w2 wr b F (setS s id v out j)
  sl : Sl wr 3 1 A out.length cap (ints out) G
section
variable {w : World} {b : Nat} {s : Lp} {F : Nat → Prop}
set_option maxHeartbeats 4000000 in
set_option maxRecDepth 100000 in
theorem loop_settle (h : LoopQ w b s F) (id v : Int) (hn : s.mic.length + (settleM s.prs id v).2.1.length < 1000000) :
    Calls Tryz.prog 29 #[.pointer (some ⟨b, 0, none⟩), .int .i64 id, .int .i64 v] w fun e w' => e = .returned (.int .i64 (settleL s id v).2) ∧ LoopLeft w w' b F (settleL s id v).1 := by
  obtain ⟨p, c7, hset⟩ := loop_psettle h id v
  have hre := settleM_reacts h.ok id v
  have hlt := h.lt
  obtain ⟨r, hr⟩ : ∃ r, settleL s id v = r := ⟨_, rfl⟩
  rw [hr]
  have HR := Lib.hid hr
  clear hr
  have hfin : settleL s id v = (setS s id v (settleM s.prs id v).2.1 (settleM s.prs id v).2.1.length, (settleM s.prs id v).2.2) := by simp [settleL, setS]
  obtain ⟨out, ho⟩ : ∃ out, (settleM s.prs id v).2.1 = out := ⟨_, rfl⟩
  obtain ⟨en, he⟩ : ∃ en, (settleM s.prs id v).2.2 = en := ⟨_, rfl⟩
  rw [ho, he] at hfin
  rw [ho] at hn hre
  rw [ho, he] at hset
  have HS := Lib.hid hset
  have HFIN := Lib.hid hfin
  have HRE := Lib.hid hre
  have HN := Lib.hid hn
  have HLT := Lib.hid hlt
  clear hset hfin hre hn hlt ho he h
  go_enter Tryz.func29, Tryz.ntmps29
  go_wp2_with fail
  refine HS.out.mono ?_
  rintro e w2 ⟨⟨A, cap, G, rfl, hsl, hG⟩, q2, T2⟩
  have hcap := hsl.cap_le
  have HK : Hid (SetK w2 w2 b F s id v out 0 A cap G) := Lib.hid ⟨by have := LoopLeft.same q2; simpa [setS] using this, hsl⟩
  have HT2 := Lib.hid T2
  have HG := Lib.hid hG
  have HGL := Lib.hid (fun g (e : G = some g) => hsl.lt g e)
  clear HS hsl hG q2 T2 c7
  go_wp2_with fail
  go_loopw [26] (fun y wr => ∃ j : Nat, y = .int .i64 j ∧ j ≤ out.length ∧ SetK w2 wr b F s id v out j A cap G) (fun y _ => out.length - (intOf y).toNat)
  case atStart => exact ⟨0, rfl, Nat.zero_le _, HK.out⟩
  case round =>
    clear HK
    obtain ⟨j, rfl, hj, hK⟩ := hrel
    by_cases hjl : j < out.length
    · have hjI : (j : Int) < (out.length : Int) := by omega
      obtain ⟨x, hx⟩ : ∃ x, out[j]? = some x := ⟨out[j], by simp [hjl]⟩
      have hxm := HRE.out x (List.mem_of_getElem? hx)
      obtain ⟨q, rfl⟩ := Int.eq_ofNat_of_zero_le hxm.1
      have hq : q < s.wai.length := by omega
      have hqI : (q : Int) < (s.wai.length : Int) := by omega
      obtain ⟨g, rfl, rfl, hcl⟩ := hK.sl.cells (by omega)
      have cj := hcl j (.int .i64 q) (by simp [ints, hx])
      obtain ⟨l1, F3, q3, l3⟩ := hK.left
      obtain ⟨gw, ow, cw, k5, hw1, hw2, m0, m1, m2, m3⟩ := q3.wait (k := q) hq
      have eg : getL (setS s id v out j) (q : Int) = getL s q := rfl
      rw [eg] at m0 m1 m2 m3
      have hsw : (setS s id v out j).wai = s.wai := rfl
      rw [hsw] at k5 hw1
      have htok : TokOk (setS s id v out j).ab (getL s q).tok := q3.ok.get (s := setS s id v out j) (k := (q : Int)) ⟨by omega, by rw [hsw]; omega⟩
      have hmicl : (setS s id v out j).mic.length < 1000000 := by have := HN.out; simp [setS]; omega
      have hnext : micL (setS s id v out j) (withArg v (getL s q)) = setS s id v out (j + 1) := by
        simp [micL, setS, List.take_add_one, hx]
      generalize hg : getL s (q : Int) = tk at *
      obtain ⟨kd, f, a, tok⟩ := tk
      dsimp only at m0 m1 m2 m3 htok
      have TB := (Tch.refl NoBlk wr).alloc (.cells #[.int .i64 kd, .int .i64 f, .int .i64 v, .int .i64 tok] 35)
      have hbz : Blk (wr.alloc (.cells #[.int .i64 kd, .int .i64 f, .int .i64 v, .int .i64 tok] 35)) wr.heap.size 35 [.int .i64 kd, .int .i64 f, .int .i64 v, .int .i64 tok] := heap_alloc_new wr _
      have Q3 := Lib.hid q3
      have L1 := Lib.hid l1
      have L3 := Lib.hid l3
      have HSL := Lib.hid hK.sl
      have HTK := Lib.hid htok
      have HMI := Lib.hid hmicl
      have HNX := Lib.hid hnext
      have HX := Lib.hid hx
      have HJ := Lib.hid hjl
      clear hK q3 l1 l3 htok hmicl hnext hx hcl hxm hg eg hsw hj
      go_wp2_with fail
      generalize wr.alloc (.cells #[.int .i64 kd, .int .i64 f, .int .i64 v, .int .i64 tok] 35) = w5 at *
      have p0 := hbz.cellOf 0 _ rfl
      have p1 := hbz.cellOf 1 _ rfl
      have p2 := hbz.cellOf 2 _ rfl
      have p3 := hbz.cellOf 3 _ rfl
      have HPUT := Lib.hid (loop_put_mic (Q3.out.keep (TB.trans (Tch.refl NoBlk w5).drew) (fun _ _ h => h)) ⟨kd, f, v, tok⟩ HTK.out HMI.out)
      have HTB := Lib.hid TB
      clear TB hbz cj m0 m1 m2 m3 k5
      go_region_law (go_simp; go_at_call 55; refine HPUT.out.mono ?_; rintro e w6 ⟨rfl, h6⟩; have H6 := Lib.hid h6; clear h6)
      all_goals
        go_wp2
        have hlf := LoopLeft.comp L1.out L3.out (H6.out.ahead (HTB.out.trans (Tch.refl NoBlk w5).drew))
        rw [show micL (setS s id v out j) ⟨kd, f, v, tok⟩ = setS s id v out (j + 1) from HNX.out] at hlf
        have hslf := (HSL.out.keep (HTB.out.trans (Tch.refl NoBlk w5).drew) (fun _ _ h => h)).keep H6.out.1 (fun g' e hf => by
          have h1 := HG.out g' e
          have h2 := HGL.out g' e
          rcases L3.out g' hf with h3 | h3
          · have := HLT.out g' h3
            omega
          · omega)
        have HLF := Lib.hid hlf
        have HSF := Lib.hid hslf
        clear hlf hslf
        go_roundw
        case rel => exact ⟨j + 1, num (by omega), HJ.out, ⟨HLF.out, HSF.out⟩⟩
        case measure => simp [intOf]; omega
    · have hjI : ¬ ((j : Int) < (out.length : Int)) := by omega
      have hje : j = out.length := by omega
      subst hje
      have HL := Lib.hid hK.left
      clear hK hj hjl
      go_wp2
      go_ret
      rw [← HR.out, HFIN.out]
      exact ⟨rfl, LoopLeft.comp HT2.out (fun _ hk => .inl hk) HL.out⟩
end
end Go.Proofs.YtipbimbnpikbcaaGreat

/- Then: what waits for a promise. -/
namespace Go.Proofs.YtipbimbnpikbcaaGreat
open Go.RowKit

theorem valueM_err (l : List Pr) (id : Int) : (valueM l id).2.2 = 0 ∨ (valueM l id).2.2 = 2 := by
  unfold valueM
  split
  · exact .inr rfl
  · exact .inl rfl
theorem LoopQ.cell5 {w : World} {b : Nat} {s : Lp} {F : Nat → Prop} (h : LoopQ w b s F) : ∃ A c, w.cell? ⟨b, 5, none⟩ = some (.slice A s.wai.length c) := by
  obtain ⟨o, P, H, _⟩ := h
  exact ⟨_, _, (H.part 0).1.cellOf 5 _ rfl⟩
theorem thenM_err {l : List Pr} {id v : Int} (h : valueM l id = (v, false, 0)) (hw : ¬ 256 ≤ waitsM l id) (k : Int) : (thenM l id k).2.2.2 = 0 := by
  unfold valueM at h
  unfold waitsM at hw
  unfold thenM
  split
  · rename_i e
    rw [e] at h
    simp at h
  · rename_i x e
    rw [e] at h hw
    simp at h
    dsimp only at hw
    rw [h.2, if_neg (by simp), if_pos (by omega)]
section
variable {w : World} {b : Nat} {s : Lp} {F : Nat → Prop}
set_option maxHeartbeats 4000000 in
set_option maxRecDepth 100000 in
theorem loop_then (h : LoopQ w b s F) (id fn : Int) (hn : s.mic.length < 1000000) :
    Calls Tryz.prog 30 #[.pointer (some ⟨b, 0, none⟩), .int .i64 id, .int .i64 fn] w fun e w' => e = .returned (.tuple #[.int .i64 (thenL s id fn).2.1, .int .i64 (thenL s id fn).2.2]) ∧ LoopLeft w w' b F (thenL s id fn).1 := by
  obtain ⟨p, c7, hval⟩ := loop_value h
  have hv := hval id
  have her := valueM_err s.prs id
  have hwl := h.ok.waiLe
  obtain ⟨r, hr⟩ : ∃ r, thenL s id fn = r := ⟨_, rfl⟩
  rw [hr]
  have HR := Lib.hid hr
  clear hr
  unfold thenL at HR
  obtain ⟨vt, hvt⟩ : ∃ vt, valueM s.prs id = vt := ⟨_, rfl⟩
  rw [hvt] at hv HR her
  obtain ⟨val, told, en⟩ := vt
  dsimp only at hv HR her
  have HVT := Lib.hid hvt
  have HV := Lib.hid hv
  have HQ := Lib.hid h
  have HN := Lib.hid hn
  have HWL := Lib.hid hwl
  clear hvt hv h hval hn hwl
  go_enter Tryz.func30, Tryz.ntmps30
  go_wp2_with fail
  refine HV.out.mono ?_
  rintro e w2 ⟨rfl, n2, rfl⟩
  have T2 := (Tch.refl NoBlk w).drewN n2
  have hq2 := HQ.out.keep T2 (fun _ _ h => h)
  have HT2 := Lib.hid T2
  clear HV c7 T2
  generalize w.drewN n2 = w2 at *
  have HQ2 := Lib.hid hq2
  clear hq2
  rcases her with rfl | rfl
  · cases told with
    | true =>
      by_cases ha : 1024 ≤ s.ab.length
      · have HA := Lib.hid ha
        have E1 := Lib.hid (show (s, 0, 3) = r by have := HR.out; simpa [ha] using this)
        clear HR ha
        go_wp2_with fail
        refine (loop_task HQ2.out 4 fn (tmakeM_full HQ2.out.ok HA.out) HQ2.out.ok).mono ?_
        rintro e w3 ⟨rfl, h3⟩
        have H3 := Lib.hid h3
        clear h3
        unfold tkv
        go_wp2
        go_ret2
        rw [← E1.out]
        exact ⟨rfl, (LoopLeft.then (LoopLeft.ahead H3.out HT2.out) ((Tch.refl NoBlk w3).alloc _))⟩
      · have HA := Lib.hid (show s.ab.length < 1024 by omega)
        have E1 := Lib.hid (show (micL (moreL s) ⟨4, fn, val, s.ab.length⟩, s.ab.length, 0) = r by have := HR.out; simpa [ha] using this)
        clear HR ha
        go_wp2_with fail
        refine (loop_task HQ2.out 4 fn (tmakeM_tok HQ2.out.ok HA.out) (HQ2.out.ok.more HA.out)).mono ?_
        rintro e w3 ⟨rfl, h3⟩
        have h3' : LoopLeft w2 w3 b F (moreL s) := h3
        obtain ⟨t3, F3, q3, l3⟩ := h3'
        generalize hN : (s.ab.length : Int) = Nn at *
        have TB := (Tch.refl NoBlk w3).alloc (.cells #[.int .i64 4, .int .i64 fn, .int .i64 val, .int .i64 Nn] 35)
        have hbz : Blk (w3.alloc (.cells #[.int .i64 4, .int .i64 fn, .int .i64 val, .int .i64 Nn] 35)) w3.heap.size 35 [.int .i64 4, .int .i64 fn, .int .i64 val, .int .i64 Nn] := heap_alloc_new w3 _
        have hz3 : ∀ k, F3 k → k ≠ w3.heap.size := fun k hk => by have := q3.lt k hk; omega
        have T3 := Lib.hid t3
        have L3 := Lib.hid l3
        have Q3 := Lib.hid q3
        have HNN := Lib.hid hN
        clear h3 t3 l3 q3 hN
        unfold tkv
        go_wp2_with fail
        generalize w3.alloc (.cells #[.int .i64 4, .int .i64 fn, .int .i64 val, .int .i64 Nn] 35) = w5 at *
        generalize w3.heap.size = z at *
        have p0 := hbz.cellOf 0 _ rfl
        have p1 := hbz.cellOf 1 _ rfl
        have p2 := hbz.cellOf 2 _ rfl
        have p3 := hbz.cellOf 3 _ rfl
        have HPUT := Lib.hid (loop_put_mic (Q3.out.keep (TB.trans (Tch.refl NoBlk w5).drew) (fun _ _ h => h)) ⟨4, fn, val, Nn⟩ (by rw [← HNN.out]; exact tokOk_more) HN.out)
        have HTB := Lib.hid TB
        have HBZ := Lib.hid hbz
        have HZ3 := Lib.hid hz3
        clear TB hbz hz3
        go_region_law (go_simp; go_at_call 55; refine HPUT.out.mono ?_; rintro e w6 ⟨rfl, h6⟩; have H6 := Lib.hid h6; clear h6)
        all_goals
          have c3 := ((HBZ.out.keep (Tch.refl NoBlk w5).drew (fun h => h)).keep H6.out.1 (fun e => HZ3.out z e rfl)).cellOf 3 _ rfl
          clear p0 p1 p2 p3
          go_wp2
          go_ret2
          rw [← E1.out, HNN.out]
          exact ⟨rfl, (LoopLeft.comp T3.out L3.out (H6.out.ahead (HTB.out.trans (Tch.refl NoBlk w5).drew))).ahead HT2.out⟩
    | false =>
      obtain ⟨p', c7, hw⟩ := loop_pwaits HQ2.out
      have HWT := Lib.hid (hw id)
      clear hw
      by_cases hg : 256 ≤ waitsM s.prs id
      · have hgI : (256 : Int) ≤ ((waitsM s.prs id : Nat) : Int) := by omega
        have E1 := Lib.hid (show (s, 0, 140) = r by have := HR.out; simpa [hg] using this)
        clear HR
        go_wp2_with fail
        refine HWT.out.mono ?_
        rintro e w0 ⟨rfl, h0⟩; subst w0
        go_wp2
        go_ret2
        rw [← E1.out]
        exact ⟨rfl, (LoopLeft.same HQ2.out).ahead HT2.out⟩
      · have hgI : ¬ ((256 : Int) ≤ ((waitsM s.prs id : Nat) : Int)) := by omega
        by_cases ha : 1024 ≤ s.ab.length
        · have HA := Lib.hid ha
          have E1 := Lib.hid (show (s, 0, 3) = r by have := HR.out; simpa [ha, hg] using this)
          clear HR ha
          go_wp2_with fail
          refine HWT.out.mono ?_
          rintro e w0 ⟨rfl, h0⟩; subst w0
          go_wp2_with fail
          refine (loop_task HQ2.out 4 fn (tmakeM_full HQ2.out.ok HA.out) HQ2.out.ok).mono ?_
          rintro e w3 ⟨rfl, h3⟩
          have H3 := Lib.hid h3
          clear h3
          unfold tkv
          go_wp2
          go_ret2
          rw [← E1.out]
          exact ⟨rfl, (LoopLeft.then (LoopLeft.ahead H3.out HT2.out) ((Tch.refl NoBlk w3).alloc _))⟩
        · have HA := Lib.hid (show s.ab.length < 1024 by omega)
          have E1 := Lib.hid (show ({ waiL (moreL s) ⟨4, fn, 0, s.ab.length⟩ with prs := (thenM s.prs id s.wai.length).1 }, s.ab.length, 0) = r by have := HR.out; simpa [ha, hg] using this)
          have HTE := Lib.hid (thenM_err HVT.out hg (s.wai.length : Int))
          clear HR ha
          go_wp2_with fail
          refine HWT.out.mono ?_
          rintro e w0 ⟨rfl, h0⟩; subst w0
          go_wp2_with fail
          refine (loop_task HQ2.out 4 fn (tmakeM_tok HQ2.out.ok HA.out) (HQ2.out.ok.more HA.out)).mono ?_
          rintro e w3 ⟨rfl, h3⟩
          have h3' : LoopLeft w2 w3 b F (moreL s) := h3
          obtain ⟨t3, F3, q3, l3⟩ := h3'
          generalize hN : (s.ab.length : Int) = Nn at *
          have TB := (Tch.refl NoBlk w3).alloc (.cells #[.int .i64 4, .int .i64 fn, .int .i64 0, .int .i64 Nn] 35)
          have hbz : Blk (w3.alloc (.cells #[.int .i64 4, .int .i64 fn, .int .i64 0, .int .i64 Nn] 35)) w3.heap.size 35 [.int .i64 4, .int .i64 fn, .int .i64 0, .int .i64 Nn] := heap_alloc_new w3 _
          have hz3 : ∀ k, F3 k → k ≠ w3.heap.size := fun k hk => by have := q3.lt k hk; omega
          have T3 := Lib.hid t3
          have L3 := Lib.hid l3
          have Q3 := Lib.hid q3
          have HNN := Lib.hid hN
          clear h3 t3 l3 q3 hN
          unfold tkv
          go_wp2_with fail
          generalize w3.alloc (.cells #[.int .i64 4, .int .i64 fn, .int .i64 0, .int .i64 Nn] 35) = w5 at *
          generalize w3.heap.size = z at *
          have p0 := hbz.cellOf 0 _ rfl
          have p1 := hbz.cellOf 1 _ rfl
          have p2 := hbz.cellOf 2 _ rfl
          have p3 := hbz.cellOf 3 _ rfl
          have HPUT := Lib.hid (loop_put_wai (Q3.out.keep (TB.trans (Tch.refl NoBlk w5).drew) (fun _ _ h => h)) ⟨4, fn, 0, Nn⟩ (by rw [← HNN.out]; exact tokOk_more) (by have := HWL.out; simp [moreL]; omega))
          have HTB := Lib.hid TB
          have HBZ := Lib.hid hbz
          have HZ3 := Lib.hid hz3
          clear TB hbz hz3 c7 HWT
          go_region_law (go_simp; go_at_call 55; refine HPUT.out.mono ?_; rintro e w6 ⟨rfl, h6⟩; have H6 := Lib.hid h6; clear h6)
          all_goals
            have hb6 := (HBZ.out.keep (Tch.refl NoBlk w5).drew (fun h => h)).keep H6.out.1 (fun e => HZ3.out z e rfl)
            obtain ⟨t6, F6, q6, l6⟩ := H6.out
            have hz6 : ∀ k, F6 k → k ≠ z := fun k hk e => by
              rcases l6 k hk with e2 | e2
              · exact HZ3.out k e2 e
              · have := HBZ.out.lt
                subst e
                simp at e2
                omega
            have hwl := HWL.out
            have hab := HA.out
            obtain ⟨AA, cc, k5⟩ := q6.cell5
            have k5' : w6.cell? ⟨b, 5, none⟩ = some (.slice AA (s.wai.length + 1) cc) := by rw [k5]; simp [waiL, moreL]
            obtain ⟨pp, k7, hth⟩ := loop_pthen (q6.keep (Tch.refl NoBlk w6).drew (fun _ _ h => h)) id (s.wai.length : Int) ⟨by omega, by simp [waiL, moreL]; omega⟩
            have k7' : w6.cell? ⟨b, 7, none⟩ = some (.pointer (some ⟨pp, 0, none⟩)) := k7
            have hth2 : Calls Tryz.prog 61 #[.pointer (some ⟨pp, 0, none⟩), .int .i64 id, .int .i64 (s.wai.length : Int)] w6.drew fun e w' => e = .returned (.tuple #[.int .i64 (thenM s.prs id s.wai.length).2.1, .bool (thenM s.prs id s.wai.length).2.2.1, .int .i64 (thenM s.prs id s.wai.length).2.2.2]) ∧ LoopLeft w6.drew w' b F6 { waiL (moreL s) ⟨4, fn, 0, Nn⟩ with prs := (thenM s.prs id s.wai.length).1 } := hth
            rw [HTE.out] at hth2
            have HTH := Lib.hid hth2
            have HB6 := Lib.hid hb6
            have HZ6 := Lib.hid hz6
            have T6 := Lib.hid t6
            have L6 := Lib.hid l6
            have wq : IntKind.i64.wrap (s.wai.length : Int) = (s.wai.length : Int) := by rw [IntKind.wrap_i64]; omega
            clear hth hth2 hb6 hz6 t6 l6 q6 k5 k7 H6 HPUT p0 p1 p2 p3 hwl hab
            go_wp2_with fail
            go_region_law (go_simp; go_at_call 61; refine HTH.out.mono ?_; rintro e w8 ⟨rfl, h8⟩; have H8 := Lib.hid h8; clear h8)
            all_goals
              have c3 := ((HB6.out.keep (Tch.refl NoBlk w6).drew (fun h => h)).keep H8.out.1 (fun e => HZ6.out z e rfl)).cellOf 3 _ rfl
              go_wp2
              go_ret2
              rw [← E1.out, HNN.out]
              exact ⟨rfl, (LoopLeft.comp T3.out L3.out ((LoopLeft.comp T6.out L6.out (H8.out.ahead (Tch.refl NoBlk w6).drew)).ahead (HTB.out.trans (Tch.refl NoBlk w5).drew))).ahead HT2.out⟩
  · have E1 := Lib.hid (show (s, 0, 2) = r by have := HR.out; simpa using this)
    clear HR
    go_wp2
    go_ret2
    rw [← E1.out]
    exact ⟨rfl, (LoopLeft.same HQ2.out).ahead HT2.out⟩
end
end Go.Proofs.YtipbimbnpikbcaaGreat

/- After: a timer. -/
namespace Go.Proofs.YtipbimbnpikbcaaGreat
open Go.RowKit

section
variable {w : World} {b : Nat} {s : Lp} {F : Nat → Prop}
/-- The timers, by themselves. -/
theorem LoopAt.tim {o : Pl} {P : Nat → Nat → Prop} (H : LoopAt w b s o P) : TimJ { w with heap := #[] } w o.t s.L s.n (P 4) :=
  ⟨⟨H.part 4, fun i hi => Nat.zero_le _, ⟨rfl, rfl, rfl, Nat.zero_le _, fun k hk => absurd hk (by simp)⟩⟩, H.ok.row, H.ok.tml⟩
/-- How many timers wait. -/
theorem loop_tlen (h : LoopQ w b s F) : ∃ t : Nat, w.cell? ⟨b, 6, none⟩ = some (.pointer (some ⟨t, 0, none⟩)) ∧ Calls Tryz.prog 47 #[.pointer (some ⟨t, 0, none⟩)] w fun e w' => e = .returned (.int .i64 s.L.length) ∧ w' = w := by
  obtain ⟨o, P, H, hF⟩ := h
  exact ⟨o.t, (H.part 0).1.cellOf 6 _ rfl, tmj_len H.tim⟩
theorem loop_tput (h : LoopQ w b s F) (due : Int) (hl : s.L.length < 64) (hn : s.n < s.wai.length) : ∃ (t c : Nat) (A : Option Addr), w.cell? ⟨b, 6, none⟩ = some (.pointer (some ⟨t, 0, none⟩)) ∧ w.cell? ⟨b, 5, none⟩ = some (.slice A s.wai.length c) ∧
    Calls Tryz.prog 54 #[.pointer (some ⟨t, 0, none⟩), .int .i64 due, .int .i64 ((s.wai.length : Int) - 1)] w fun e w' => e = .returned (.tuple #[.int .i64 s.n, .int .i64 0]) ∧ LoopLeft w w' b F (putL s due) := by
  obtain ⟨o, P, H, hF⟩ := h
  have h0 := H.ok.n
  have h1 := H.ok.waiLe
  have h2 := H.ok.tree.le
  refine ⟨o.t, o.c3, o.A3, (H.part 0).1.cellOf 6 _ rfl, (H.part 0).1.cellOf 5 _ rfl, (tmj_put H.tim due ((s.wai.length : Int) - 1) hl h0.1 (by omega)).mono ?_⟩
  rintro e w' ⟨rfl, T, F', hJ, hF'⟩
  refine ⟨rfl, H.one hF 4 (by decide) (o' := o) (F' := F') T rfl hJ.i.q hF' (fun i hi0 hi1 hp => ?_) H.sb (H.ok.put due hl hn)⟩
  match i, hi0, hi1, hp with
  | 1, _, _, hp => exact hp
  | 2, _, _, hp => exact hp
  | 3, _, _, hp => exact hp
  | 5, _, _, hp => exact hp
  | 6, _, _, hp => exact hp
  | 7, _, _, hp => exact hp
  | i + 8, _, _, hp => exact hp

set_option maxHeartbeats 4000000 in
set_option maxRecDepth 100000 in
theorem loop_after (h : LoopQ w b s F) (due fn : Int) :
    Calls Tryz.prog 26 #[.pointer (some ⟨b, 0, none⟩), .int .i64 due, .int .i64 fn] w fun e w' => e = .returned (.tuple #[.int .i64 (afterL s due fn).2.1, .int .i64 (afterL s due fn).2.2]) ∧ LoopLeft w w' b F (afterL s due fn).1 := by
  have HQ := Lib.hid h
  have hok := h.ok
  have hwl := hok.waiLe
  have hn := hok.n
  have htl := hok.tml
  obtain ⟨t, c6, hlen⟩ := loop_tlen h
  have HLEN := Lib.hid hlen
  clear h hlen hok
  unfold afterL
  by_cases hl : 64 ≤ s.L.length
  · rw [if_pos hl]
    have hlI : (64 : Int) ≤ (s.L.length : Int) := by omega
    go_enter Tryz.func26, Tryz.ntmps26
    go_wp2_with fail
    refine HLEN.out.mono ?_
    rintro e w2 ⟨rfl, hw⟩; subst hw
    go_wp2
    go_ret2
    exact ⟨rfl, LoopLeft.same HQ.out⟩
  · rw [if_neg hl]
    have hlI : ¬ ((64 : Int) ≤ (s.L.length : Int)) := by omega
    by_cases ha : 1024 ≤ s.ab.length
    · rw [if_pos ha]
      have HA := Lib.hid ha
      clear ha
      go_enter Tryz.func26, Tryz.ntmps26
      go_wp2_with fail
      refine HLEN.out.mono ?_
      rintro e w2 ⟨rfl, hw⟩; subst hw
      go_wp2_with fail
      refine (loop_adds_no HQ.out 5 3 fn HA.out).mono ?_
      rintro e w2 ⟨rfl, h2⟩
      go_wp2
      go_ret2
      exact ⟨rfl, h2⟩
    · rw [if_neg ha]
      have HA := Lib.hid (show s.ab.length < 1024 by omega)
      have HWL := Lib.hid (show (moreL s).wai.length < (moreL s).ab.length by simp [moreL]; omega)
      have HTL := Lib.hid (show (waiL (moreL s) ⟨3, fn, 0, s.ab.length⟩).L.length < 64 by simp [waiL, moreL]; omega)
      have HN := Lib.hid (show (waiL (moreL s) ⟨3, fn, 0, s.ab.length⟩).n < ((waiL (moreL s) ⟨3, fn, 0, s.ab.length⟩).wai.length : Int) by simp [waiL, moreL]; omega)
      have HWW := Lib.hid (show (waiL (moreL s) ⟨3, fn, 0, s.ab.length⟩).wai.length ≤ 2000 by simp [waiL, moreL]; omega)
      clear ha hwl hn htl
      go_enter Tryz.func26, Tryz.ntmps26
      go_wp2_with fail
      refine HLEN.out.mono ?_
      rintro e w2 ⟨rfl, hw⟩; subst hw
      go_wp2_with fail
      refine (loop_adds_yes HQ.out 5 3 fn (waiL (moreL s) ⟨3, fn, 0, s.ab.length⟩) HA.out (fun w2 F2 q2 => loop_put_wai q2 _ tokOk_more HWL.out)).mono ?_
      rintro e w3 ⟨rfl, h3⟩
      obtain ⟨t3, F3, q3, l3⟩ := h3
      generalize hS : waiL (moreL s) ⟨3, fn, 0, s.ab.length⟩ = S at *
      have HSS := Lib.hid hS
      clear hS
      have T3 := Lib.hid t3
      have L3 := Lib.hid l3
      obtain ⟨tt, cc, AA, k6, k5, hput⟩ := loop_tput (q3.keep (Tch.refl NoBlk w3).drew (fun _ _ h => h)) due HTL.out HN.out
      have HPUT := Lib.hid hput
      have hw1 : IntKind.i64.wrap ((S.wai.length : Int) - 1) = (S.wai.length : Int) - 1 := by have := HWW.out; rw [IntKind.wrap_i64]; omega
      have k6' : w3.cell? ⟨b, 6, none⟩ = some (.pointer (some ⟨tt, 0, none⟩)) := k6
      have k5' : w3.cell? ⟨b, 5, none⟩ = some (.slice AA S.wai.length cc) := k5
      clear t3 l3 q3 hput k6 k5 c6 HLEN
      go_wp2_with fail
      go_region_law (go_simp; go_at_call 54; refine HPUT.out.mono ?_; rintro e w5 ⟨rfl, h5⟩; have H5 := Lib.hid h5; clear h5)
      all_goals
        go_wp2
        go_ret2
        rw [HSS.out]
        exact ⟨rfl, LoopLeft.comp T3.out L3.out (H5.out.ahead (Tch.refl NoBlk w3).drew)⟩
end
end Go.Proofs.YtipbimbnpikbcaaGreat

/- What is due, of a loop (for Advance). -/
namespace Go.Proofs.YtipbimbnpikbcaaGreat
open Go.RowKit

section
variable {w : World} {b : Nat} {s : Lp} {F : Nat → Prop}
theorem LOk.fewer (h : LOk s) (now : Int) : LOk { s with L := (dueM s.L now).1 } := by
  refine ⟨h.bud, h.told, h.tok, h.mac, h.mic, h.wai, h.waiLe, h.n, dueM_ok h.row now, Nat.le_trans (dueM_le _ _) h.tml, fun y hy => ?_, h.reacts, h.tree, h.str⟩
  unfold dueM at hy
  split at hy
  · exact h.items y hy
  · split at hy
    · exact h.items y hy
    · exact h.items y (List.mem_of_mem_erase hy)
theorem loop_tdue (h : LoopQ w b s F) (now : Int) : ∃ t : Nat, w.cell? ⟨b, 6, none⟩ = some (.pointer (some ⟨t, 0, none⟩)) ∧ Calls Tryz.prog 67 #[.pointer (some ⟨t, 0, none⟩), .int .i64 now] w fun e w' => e = .returned (.tuple #[.int .i64 (dueM s.L now).2.1, .bool (dueM s.L now).2.2]) ∧ LoopLeft w w' b F { s with L := (dueM s.L now).1 } := by
  obtain ⟨o, P, H, hF⟩ := h
  refine ⟨o.t, (H.part 0).1.cellOf 6 _ rfl, (tmj_due H.tim now _ _ _ rfl).mono ?_⟩
  rintro e w' ⟨rfl, hJ, T⟩
  obtain ⟨h1, h2⟩ := H.oneSame hF 4 (by decide) T (s' := { s with L := (dueM s.L now).1 }) rfl hJ.i.q (fun i hi0 hi1 hp => by
    match i, hi0, hi1, hp with
    | 1, _, _, hp => exact hp
    | 2, _, _, hp => exact hp
    | 3, _, _, hp => exact hp
    | 5, _, _, hp => exact hp
    | 6, _, _, hp => exact hp
    | 7, _, _, hp => exact hp
    | i + 8, _, _, hp => exact hp) H.sb (H.ok.fewer now)
  exact ⟨rfl, h2, F, h1, fun _ hk => .inl hk⟩
end
theorem dueM_no {L : List Tm} {now : Int} (h : (dueM L now).2.2 = false) : (dueM L now).1 = L := by
  unfold dueM at h ⊢
  cases e : firstM L with
  | none => rfl
  | some m =>
    rw [e] at h
    dsimp only at h ⊢
    by_cases hl : now < m.1
    · rw [if_pos hl]
    · rw [if_neg hl] at h
      simp at h
theorem dueM_yes {L : List Tm} {now : Int} (h : (dueM L now).2.2 = true) : (dueM L now).1.length + 1 = L.length := by
  obtain ⟨m, hm, _, e⟩ := dueM_mem (L := L) (now := now) (L' := (dueM L now).1) (x := (dueM L now).2.1) (by rw [← h])
  rw [e, List.length_erase_of_mem hm]
  have := List.length_pos_of_mem hm
  omega
/-- What Advance does, one timer first. -/
theorem advL_step (s : Lp) (now : Int) : advL s.L.length s now = if (dueM s.L now).2.2 then advL (dueM s.L now).1.length { s with L := (dueM s.L now).1, mac := s.mac ++ [getL s (dueM s.L now).2.1] } now else s := by
  cases h : (dueM s.L now).2.2 with
  | false =>
    rw [if_neg (by simp)]
    cases hl : s.L.length with
    | zero => rfl
    | succ k =>
      unfold advL
      rw [h]
      rfl
  | true =>
    have := dueM_yes h
    rw [if_pos rfl, ← this]
    conv => lhs; unfold advL
    rw [h]
    rfl
end Go.Proofs.YtipbimbnpikbcaaGreat

/- How many micro tasks there are and may come: what bounds Settle's work. No program in sight. -/
namespace Go.Proofs.YtipbimbnpikbcaaGreat

def qsum (l : List Pr) : Nat := (l.map fun p => p.q.length).sum
theorem qsum_set {l : List Pr} {i : Nat} {x : Pr} (y : Pr) (h : l[i]? = some x) : qsum (l.set i y) + x.q.length = qsum l + y.q.length := by
  induction l generalizing i with
  | nil => simp at h
  | cons a l ih =>
    cases i with
    | zero =>
      simp at h
      subst h
      simp [qsum]
      omega
    | succ i =>
      have := ih (i := i) (by simpa using h)
      simp [qsum] at this ⊢
      omega
theorem qsum_mem {l : List Pr} {i : Nat} {x : Pr} (h : l[i]? = some x) : x.q.length ≤ qsum l := by
  have := qsum_set ⟨true, 0, []⟩ h
  simp at this
  omega
def loadL (s : Lp) : Nat := s.mic.length + qsum s.prs
theorem settleM_sum (l : List Pr) (id v : Int) : qsum (settleM l id v).1 + (settleM l id v).2.1.length = qsum l := by
  unfold settleM
  cases e : prOf l id with
  | none => simp
  | some x =>
    obtain ⟨i, rfl, hi⟩ := prOf_some e
    dsimp only
    by_cases ht : x.told = true
    · rw [if_pos ht]
      simp
    · rw [if_neg ht]
      have := qsum_set ⟨true, v, []⟩ hi
      simpa using this
theorem loadL_settle (s : Lp) (id v : Int) : loadL (settleL s id v).1 = loadL s := by
  have := settleM_sum s.prs id v
  simp [loadL, settleL]
  omega
theorem settle_le (s : Lp) (id v : Int) : s.mic.length + (settleM s.prs id v).2.1.length ≤ loadL s := by
  have := settleM_sum s.prs id v
  unfold loadL
  omega
theorem loadL_promise (s : Lp) : loadL (promiseL s).1 = loadL s := by
  unfold promiseL makeM
  split
  · rfl
  · simp [loadL, qsum]
theorem loadL_settles (l : List (Int × Int)) : ∀ s : Lp, loadL (settlesL s l) = loadL s := by
  induction l with
  | nil => intro s; rfl
  | cons x l ih =>
    intro s
    show loadL (settlesL (settleL s x.1 x.2).1 l) = _
    rw [ih, loadL_settle]
theorem settlesL_snoc (s : Lp) (l : List (Int × Int)) (x : Int × Int) : settlesL s (l ++ [x]) = (settleL (settlesL s l) x.1 x.2).1 := by simp [settlesL]
end Go.Proofs.YtipbimbnpikbcaaGreat
