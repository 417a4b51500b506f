/- Then: what waits for a promise. -/
import Derived.Test.YtipbimbnpikbcaaLoopSettle
namespace Go.Proofs.Ytipbimbnpikbcaa
open Go.RowKit

theorem valueM_err (l : List Pr) (id : Int) : (valueM l id).2.2 = 0 ∨ (valueM l id).2.2 = 2 := by
  unfold valueM
  split
  · exact .inr rfl
  · exact .inl rfl
theorem LoopQ.cell5 {w : World} {b : Nat} {s : Lp} {F : Nat → Prop} (h : LoopQ w b s F) : ∃ A c, w.cell? ⟨b, 5, none⟩ = some (.slice A s.wai.length c) := by
  obtain ⟨o, P, H, _⟩ := h
  exact ⟨_, _, (H.part 0).1.cellOf 5 _ rfl⟩
theorem thenM_err {l : List Pr} {id v : Int} (h : valueM l id = (v, false, 0)) (hw : ¬ 256 ≤ waitsM l id) (k : Int) : (thenM l id k).2.2.2 = 0 := by
  unfold valueM at h
  unfold waitsM at hw
  unfold thenM
  split
  · rename_i e
    rw [e] at h
    simp at h
  · rename_i x e
    rw [e] at h hw
    simp at h
    dsimp only at hw
    rw [h.2, if_neg (by simp), if_pos (by omega)]
section
variable {w : World} {b : Nat} {s : Lp} {F : Nat → Prop}
set_option maxHeartbeats 4000000 in
set_option maxRecDepth 100000 in
theorem loop_then (h : LoopQ w b s F) (id fn : Int) (hn : s.mic.length < 1000000) :
    Calls Try.prog 17 #[.pointer (some ⟨b, 0, none⟩), .int .i64 id, .int .i64 fn] w fun e w' => e = .returned (.tuple #[.int .i64 (thenL s id fn).2.1, .int .i64 (thenL s id fn).2.2]) ∧ LoopLeft w w' b F (thenL s id fn).1 := by
  obtain ⟨p, c7, hval⟩ := loop_value h
  have hv := hval id
  have her := valueM_err s.prs id
  have hwl := h.ok.waiLe
  obtain ⟨r, hr⟩ : ∃ r, thenL s id fn = r := ⟨_, rfl⟩
  rw [hr]
  have HR := Lib.hid hr
  clear hr
  unfold thenL at HR
  obtain ⟨vt, hvt⟩ : ∃ vt, valueM s.prs id = vt := ⟨_, rfl⟩
  rw [hvt] at hv HR her
  obtain ⟨val, told, en⟩ := vt
  dsimp only at hv HR her
  have HVT := Lib.hid hvt
  have HV := Lib.hid hv
  have HQ := Lib.hid h
  have HN := Lib.hid hn
  have HWL := Lib.hid hwl
  clear hvt hv h hval hn hwl
  go_enter Try.func17, Try.ntmps17
  go_wp2_with fail
  refine HV.out.mono ?_
  rintro e w2 ⟨rfl, n2, rfl⟩
  have T2 := (Tch.refl NoBlk w).drewN n2
  have hq2 := HQ.out.keep T2 (fun _ _ h => h)
  have HT2 := Lib.hid T2
  clear HV c7 T2
  generalize w.drewN n2 = w2 at *
  have HQ2 := Lib.hid hq2
  clear hq2
  rcases her with rfl | rfl
  · cases told with
    | true =>
      by_cases ha : 1024 ≤ s.ab.length
      · have HA := Lib.hid ha
        have E1 := Lib.hid (show (s, 0, 3) = r by have := HR.out; simpa [ha] using this)
        clear HR ha
        go_wp2_with fail
        refine (loop_task HQ2.out 4 fn (tmakeM_full HQ2.out.ok HA.out) HQ2.out.ok).mono ?_
        rintro e w3 ⟨rfl, h3⟩
        have H3 := Lib.hid h3
        clear h3
        unfold tkv
        go_wp2
        go_ret2
        rw [← E1.out]
        exact ⟨rfl, (LoopLeft.then (LoopLeft.ahead H3.out HT2.out) ((Tch.refl NoBlk w3).alloc _))⟩
      · have HA := Lib.hid (show s.ab.length < 1024 by omega)
        have E1 := Lib.hid (show (micL (moreL s) ⟨4, fn, val, s.ab.length⟩, s.ab.length, 0) = r by have := HR.out; simpa [ha] using this)
        clear HR ha
        go_wp2_with fail
        refine (loop_task HQ2.out 4 fn (tmakeM_tok HQ2.out.ok HA.out) (HQ2.out.ok.more HA.out)).mono ?_
        rintro e w3 ⟨rfl, h3⟩
        have h3' : LoopLeft w2 w3 b F (moreL s) := h3
        obtain ⟨t3, F3, q3, l3⟩ := h3'
        generalize hN : (s.ab.length : Int) = Nn at *
        have TB := (Tch.refl NoBlk w3).alloc (.cells #[.int .i64 4, .int .i64 fn, .int .i64 val, .int .i64 Nn] 31)
        have hbz : Blk (w3.alloc (.cells #[.int .i64 4, .int .i64 fn, .int .i64 val, .int .i64 Nn] 31)) w3.heap.size 31 [.int .i64 4, .int .i64 fn, .int .i64 val, .int .i64 Nn] := heap_alloc_new w3 _
        have hz3 : ∀ k, F3 k → k ≠ w3.heap.size := fun k hk => by have := q3.lt k hk; omega
        have T3 := Lib.hid t3
        have L3 := Lib.hid l3
        have Q3 := Lib.hid q3
        have HNN := Lib.hid hN
        clear h3 t3 l3 q3 hN
        unfold tkv
        go_wp2_with fail
        generalize w3.alloc (.cells #[.int .i64 4, .int .i64 fn, .int .i64 val, .int .i64 Nn] 31) = w5 at *
        generalize w3.heap.size = z at *
        have p0 := hbz.cellOf 0 _ rfl
        have p1 := hbz.cellOf 1 _ rfl
        have p2 := hbz.cellOf 2 _ rfl
        have p3 := hbz.cellOf 3 _ rfl
        have HPUT := Lib.hid (loop_put_mic (Q3.out.keep (TB.trans (Tch.refl NoBlk w5).drew) (fun _ _ h => h)) ⟨4, fn, val, Nn⟩ (by rw [← HNN.out]; exact tokOk_more) HN.out)
        have HTB := Lib.hid TB
        have HBZ := Lib.hid hbz
        have HZ3 := Lib.hid hz3
        clear TB hbz hz3
        go_region_law (go_simp; go_at_call 31; refine HPUT.out.mono ?_; rintro e w6 ⟨rfl, h6⟩; have H6 := Lib.hid h6; clear h6)
        all_goals
          have c3 := ((HBZ.out.keep (Tch.refl NoBlk w5).drew (fun h => h)).keep H6.out.1 (fun e => HZ3.out z e rfl)).cellOf 3 _ rfl
          clear p0 p1 p2 p3
          go_wp2
          go_ret2
          rw [← E1.out, HNN.out]
          exact ⟨rfl, (LoopLeft.comp T3.out L3.out (H6.out.ahead (HTB.out.trans (Tch.refl NoBlk w5).drew))).ahead HT2.out⟩
    | false =>
      obtain ⟨p', c7, hw⟩ := loop_pwaits HQ2.out
      have HWT := Lib.hid (hw id)
      clear hw
      by_cases hg : 256 ≤ waitsM s.prs id
      · have hgI : (256 : Int) ≤ ((waitsM s.prs id : Nat) : Int) := by omega
        have E1 := Lib.hid (show (s, 0, 140) = r by have := HR.out; simpa [hg] using this)
        clear HR
        go_wp2_with fail
        refine HWT.out.mono ?_
        rintro e w0 ⟨rfl, h0⟩; subst w0
        go_wp2
        go_ret2
        rw [← E1.out]
        exact ⟨rfl, (LoopLeft.same HQ2.out).ahead HT2.out⟩
      · have hgI : ¬ ((256 : Int) ≤ ((waitsM s.prs id : Nat) : Int)) := by omega
        by_cases ha : 1024 ≤ s.ab.length
        · have HA := Lib.hid ha
          have E1 := Lib.hid (show (s, 0, 3) = r by have := HR.out; simpa [ha, hg] using this)
          clear HR ha
          go_wp2_with fail
          refine HWT.out.mono ?_
          rintro e w0 ⟨rfl, h0⟩; subst w0
          go_wp2_with fail
          refine (loop_task HQ2.out 4 fn (tmakeM_full HQ2.out.ok HA.out) HQ2.out.ok).mono ?_
          rintro e w3 ⟨rfl, h3⟩
          have H3 := Lib.hid h3
          clear h3
          unfold tkv
          go_wp2
          go_ret2
          rw [← E1.out]
          exact ⟨rfl, (LoopLeft.then (LoopLeft.ahead H3.out HT2.out) ((Tch.refl NoBlk w3).alloc _))⟩
        · have HA := Lib.hid (show s.ab.length < 1024 by omega)
          have E1 := Lib.hid (show ({ waiL (moreL s) ⟨4, fn, 0, s.ab.length⟩ with prs := (thenM s.prs id s.wai.length).1 }, s.ab.length, 0) = r by have := HR.out; simpa [ha, hg] using this)
          have HTE := Lib.hid (thenM_err HVT.out hg (s.wai.length : Int))
          clear HR ha
          go_wp2_with fail
          refine HWT.out.mono ?_
          rintro e w0 ⟨rfl, h0⟩; subst w0
          go_wp2_with fail
          refine (loop_task HQ2.out 4 fn (tmakeM_tok HQ2.out.ok HA.out) (HQ2.out.ok.more HA.out)).mono ?_
          rintro e w3 ⟨rfl, h3⟩
          have h3' : LoopLeft w2 w3 b F (moreL s) := h3
          obtain ⟨t3, F3, q3, l3⟩ := h3'
          generalize hN : (s.ab.length : Int) = Nn at *
          have TB := (Tch.refl NoBlk w3).alloc (.cells #[.int .i64 4, .int .i64 fn, .int .i64 0, .int .i64 Nn] 31)
          have hbz : Blk (w3.alloc (.cells #[.int .i64 4, .int .i64 fn, .int .i64 0, .int .i64 Nn] 31)) w3.heap.size 31 [.int .i64 4, .int .i64 fn, .int .i64 0, .int .i64 Nn] := heap_alloc_new w3 _
          have hz3 : ∀ k, F3 k → k ≠ w3.heap.size := fun k hk => by have := q3.lt k hk; omega
          have T3 := Lib.hid t3
          have L3 := Lib.hid l3
          have Q3 := Lib.hid q3
          have HNN := Lib.hid hN
          clear h3 t3 l3 q3 hN
          unfold tkv
          go_wp2_with fail
          generalize w3.alloc (.cells #[.int .i64 4, .int .i64 fn, .int .i64 0, .int .i64 Nn] 31) = w5 at *
          generalize w3.heap.size = z at *
          have p0 := hbz.cellOf 0 _ rfl
          have p1 := hbz.cellOf 1 _ rfl
          have p2 := hbz.cellOf 2 _ rfl
          have p3 := hbz.cellOf 3 _ rfl
          have HPUT := Lib.hid (loop_put_wai (Q3.out.keep (TB.trans (Tch.refl NoBlk w5).drew) (fun _ _ h => h)) ⟨4, fn, 0, Nn⟩ (by rw [← HNN.out]; exact tokOk_more) (by have := HWL.out; simp [moreL]; omega))
          have HTB := Lib.hid TB
          have HBZ := Lib.hid hbz
          have HZ3 := Lib.hid hz3
          clear TB hbz hz3 c7 HWT
          go_region_law (go_simp; go_at_call 31; refine HPUT.out.mono ?_; rintro e w6 ⟨rfl, h6⟩; have H6 := Lib.hid h6; clear h6)
          all_goals
            have hb6 := (HBZ.out.keep (Tch.refl NoBlk w5).drew (fun h => h)).keep H6.out.1 (fun e => HZ3.out z e rfl)
            obtain ⟨t6, F6, q6, l6⟩ := H6.out
            have hz6 : ∀ k, F6 k → k ≠ z := fun k hk e => by
              rcases l6 k hk with e2 | e2
              · exact HZ3.out k e2 e
              · have := HBZ.out.lt
                subst e
                simp at e2
                omega
            have hwl := HWL.out
            have hab := HA.out
            obtain ⟨AA, cc, k5⟩ := q6.cell5
            have k5' : w6.cell? ⟨b, 5, none⟩ = some (.slice AA (s.wai.length + 1) cc) := by rw [k5]; simp [waiL, moreL]
            obtain ⟨pp, k7, hth⟩ := loop_pthen (q6.keep (Tch.refl NoBlk w6).drew (fun _ _ h => h)) id (s.wai.length : Int) ⟨by omega, by simp [waiL, moreL]; omega⟩
            have k7' : w6.cell? ⟨b, 7, none⟩ = some (.pointer (some ⟨pp, 0, none⟩)) := k7
            have hth2 : Calls Try.prog 39 #[.pointer (some ⟨pp, 0, none⟩), .int .i64 id, .int .i64 (s.wai.length : Int)] w6.drew fun e w' => e = .returned (.tuple #[.int .i64 (thenM s.prs id s.wai.length).2.1, .bool (thenM s.prs id s.wai.length).2.2.1, .int .i64 (thenM s.prs id s.wai.length).2.2.2]) ∧ LoopLeft w6.drew w' b F6 { waiL (moreL s) ⟨4, fn, 0, Nn⟩ with prs := (thenM s.prs id s.wai.length).1 } := hth
            rw [HTE.out] at hth2
            have HTH := Lib.hid hth2
            have HB6 := Lib.hid hb6
            have HZ6 := Lib.hid hz6
            have T6 := Lib.hid t6
            have L6 := Lib.hid l6
            have wq : IntKind.i64.wrap (s.wai.length : Int) = (s.wai.length : Int) := by rw [IntKind.wrap_i64]; omega
            clear hth hth2 hb6 hz6 t6 l6 q6 k5 k7 H6 HPUT p0 p1 p2 p3 hwl hab
            go_wp2_with fail
            go_region_law (go_simp; go_at_call 39; refine HTH.out.mono ?_; rintro e w8 ⟨rfl, h8⟩; have H8 := Lib.hid h8; clear h8)
            all_goals
              have c3 := ((HB6.out.keep (Tch.refl NoBlk w6).drew (fun h => h)).keep H8.out.1 (fun e => HZ6.out z e rfl)).cellOf 3 _ rfl
              go_wp2
              go_ret2
              rw [← E1.out, HNN.out]
              exact ⟨rfl, (LoopLeft.comp T3.out L3.out ((LoopLeft.comp T6.out L6.out (H8.out.ahead (Tch.refl NoBlk w6).drew)).ahead (HTB.out.trans (Tch.refl NoBlk w5).drew))).ahead HT2.out⟩
  · have E1 := Lib.hid (show (s, 0, 2) = r by have := HR.out; simpa using this)
    clear HR
    go_wp2
    go_ret2
    rw [← E1.out]
    exact ⟨rfl, (LoopLeft.same HQ2.out).ahead HT2.out⟩
end
end Go.Proofs.Ytipbimbnpikbcaa
