import Derived.Test.YtipbimbnpikbcaaGreatMg29
import Derived.Test.YtipbimbnpikbcaaGreatMg18
/- The document's loop: whose turn it is. -/
namespace Go.Proofs.YtipbimbnpikbcaaGreat
open Go.RowKit

/-- While the next one is looked for: the answer's own block is z. -/
structure RNextK (w1 w : World) (b z : Nat) (F : Nat → Prop) (s : Lp) : Prop where
  left : RLeft w1 w b F s
  blk : Blk w z 35 [.int .i64 0, .int .i64 0, .int .i64 0, .int .i64 0]
  hz : z < w1.heap.size
  hF : ∀ k, F k → k < z
section
variable {w w' w1 : World} {b z : Nat} {s : Lp} {F : Nat → Prop}
theorem RNextK.open_ (h : RNextK w1 w b z F s) : ∃ F2, RLoopQ w b s F2 ∧ ∀ w' s', RLeft w w' b F2 s' → RNextK w1 w' b z F s' := by
  obtain ⟨⟨l1, F2, q2, l2⟩, hb, hz, hF⟩ := h
  refine ⟨F2, q2, fun w' s' h' => ⟨RLeft.comp l1 l2 h', hb.keep h'.1 (fun e => ?_), hz, hF⟩⟩
  rcases l2 z e with e2 | e2
  · have := hF z e2
    omega
  · omega
theorem RNextK.touch (h : RNextK w1 w b z F s) (T : Tch NoBlk w w') : RNextK w1 w' b z F s := ⟨h.left.then T, h.blk.keep T (fun h => h), h.hz, h.hF⟩
theorem RNextK.nz (h : RNextK w1 w b z F s) : z ≠ b := fun e => by
  obtain ⟨⟨_, F2, q2, l2⟩, hb, hz, hF⟩ := h
  rcases l2 b q2.own with e2 | e2
  · have := hF b e2
    omega
  · omega
end
theorem takeM_cons {off : List Bool} {l r : List Tk} {t : Tk} (h : dropM off l = t :: r) : takeM off l = (some t, r) := by rw [takeM_drop, h]; rfl
theorem takeM_nil {off : List Bool} {l : List Tk} (h : dropM off l = []) : takeM off l = (none, []) := by rw [takeM_drop, h]; rfl

set_option maxHeartbeats 16000000 in
set_option maxRecDepth 100000 in
theorem rl_next {w : World} {b : Nat} {s : Lp} {F : Nat → Prop} (h : RLoopQ w b s F) (hn : s.mac.length < 1000000 ∧ s.mic.length < 1000000) :
    Calls Tryz.prog 9 #[.pointer (some ⟨b, 0, none⟩)] w fun e w' => e = .returned (.tuple #[tkv ((nextL s).2.getD tk0), .bool (nextL s).2.isSome]) ∧ RLeft w w' b F (nextL s).1 := by
  have TA := (Tch.refl NoBlk w).alloc (.cells #[.int .i64 0, .int .i64 0, .int .i64 0, .int .i64 0] 35)
  have hb1 : Blk (w.alloc (.cells #[.int .i64 0, .int .i64 0, .int .i64 0, .int .i64 0] 35)) w.heap.size 35 [.int .i64 0, .int .i64 0, .int .i64 0, .int .i64 0] := heap_alloc_new w _
  have hlt := h.lt
  have h1 := h.keep TA (fun _ _ h => h)
  have hK : RNextK (w.alloc (.cells #[.int .i64 0, .int .i64 0, .int .i64 0, .int .i64 0] 35)) (w.alloc (.cells #[.int .i64 0, .int .i64 0, .int .i64 0, .int .i64 0] 35)) b w.heap.size F s := ⟨RLeft.same h1, hb1, hb1.lt, hlt⟩
  obtain ⟨r0, hr⟩ : ∃ r, nextL s = r := ⟨_, rfl⟩
  rw [hr]
  have HR := Lib.hid hr
  have htold := h.ok.told
  have hbud := h.ok.bud
  have HMB := Lib.hid hn
  obtain ⟨o1, P1, H1, hF1⟩ := h1
  have c0 := (H1.part 0).1.cellOf 0 _ rfl
  have c1 := (H1.part 0).1.cellOf 1 _ rfl
  clear hb1 hlt h hr H1 hF1 hn
  go_enter Tryz.func9, Tryz.ntmps9
  go_upto_region 1 with fail
  generalize w.alloc (.cells #[.int .i64 0, .int .i64 0, .int .i64 0, .int .i64 0] 35) = w1 at *
  generalize hz : w.heap.size = z at *
  have HZ := Lib.hid hz
  have HK := Lib.hid hK
  have HT := Lib.hid TA
  clear hz hK TA
  by_cases hlt : s.told < s.budget
  · have d1 : decide ((s.told : Int) < (s.budget : Int)) = true := by simpa using hlt
    have HL := Lib.hid hlt
    have hwr : IntKind.i64.wrap ((s.told : Int) + 1) = (s.told : Int) + 1 := by rw [IntKind.wrap_i64]; omega
    go_wp2_with fail
    go_region
    have KW := Lib.hid (HK.out.touch (Tch.refl NoBlk w1).drew)
    clear c0 c1 HK
    generalize w1.drew = wd at *
    obtain ⟨la, hla⟩ : ∃ la, dropM s.off s.mic = la := ⟨_, rfl⟩
    have ED := Lib.hid hla
    clear hla
    -- world wd, state s: the row mic is dropped; its outcome is la; KD is what stands then
    obtain ⟨F2, ⟨o, P, H, hF⟩, hk2⟩ := KW.out.open_
    have hb := (H.part 0).1
    have hr := (H.part 2).1
    have cq : (wd : World).cell? ⟨b, 4, none⟩ = some (.slice o.A2 (s).mic.length o.c2) := hb.cellOf 4 _ rfl
    have hdr := rl_drop ⟨o, P, H, hF⟩ hr HMB.out.2
    rw [ED.out] at hdr
    have HDR := Lib.hid hdr
    have HB := Lib.hid hb
    have HH := Lib.hid H
    have HF := Lib.hid hF
    have HK2 := Lib.hid hk2
    clear hb hr H hF hk2 hdr
    go_wp2_with fail
    refine HDR.out.mono ?_
    rintro e w3 ⟨A', c', G', rfl, hr', hT, hG⟩
    have hb3 := HB.out.keep hT (fun e => e)
    have cq : w3.cell? ⟨b, 4, none⟩ = some (.slice o.A2 (s).mic.length o.c2) := hb3.cellOf 4 _ rfl
    have fq := hb3.free 4
    have kd := HK2.out _ _ (HH.out.set_mic HF.out (l' := la) (by rw [← ED.out]; exact dropM_sub _ _) hT hr' hG)
    have KD : Hid (RNextK w1 (w3.setCell ⟨b, 4, none⟩ (.slice A' (la : List Tk).length c')) b z F { s with mic := la }) := Lib.hid kd
    clear HDR HB HH HF HK2 hr' hT hG kd hb3
    cases la with
    | cons t r =>
      have EN := Lib.hid (nextL_a HL.out (takeM_cons ED.out))
      have d7 : (0 : Int) < (r.length : Int) + 1 := by omega
      obtain ⟨F3, q3, hk3⟩ := KD.out.open_
      have hmi := rl_micro1 q3 (t := t) (r := r) rfl (s.told + 1) (by omega)
      rw [show ((s.told + 1 : Nat) : Int) = (s.told : Int) + 1 from by omega] at hmi
      obtain ⟨kd, f, a, tok⟩ := t
      unfold tkv at hmi
      obtain ⟨o3, P3, H3, hF3⟩ := q3
      have ct := (H3.part 0).1.cellOf 1 _ rfl
      have HMI := Lib.hid hmi
      have HK3 := Lib.hid hk3
      simp only [List.length_cons] at *
      clear hk3 hmi KD H3 hF3
      go_wp2_with fail
      clear cq fq ct
      refine HMI.out.mono ?_
      rintro e w4 ⟨rfl, h4⟩
      have HE := Lib.hid (HK3.out _ _ h4)
      clear h4 HMI HK3
      -- the answer is laid into its own block, and told
      have hB := blk_put4 HE.out.blk kd f a tok
      have h9 := rleft_put4 HE.out.left HT.out (by have hz := HZ.out; omega) HE.out.hz (fun k hk => by have := HE.out.hF k hk; have hz := HZ.out; omega) kd f a tok
      have HB := Lib.hid hB
      have H9 := Lib.hid h9
      clear hB h9
      have g0 := HE.out.blk.cellOf 0 _ rfl
      have g1 := HE.out.blk.cellOf 1 _ rfl
      have g2 := HE.out.blk.cellOf 2 _ rfl
      have g3 := HE.out.blk.cellOf 3 _ rfl
      have e0 := HE.out.blk.free 0
      have e1 := HE.out.blk.free 1
      have e2 := HE.out.blk.free 2
      have e3 := HE.out.blk.free 3
      clear HE
      go_wp2
      (try simp only [Exit.inBlock, Exit.then])
      have HP := ret_tk (fn := Tryz.f9) (p := 2) (u := 3) rfl
      refine bodyPost_ret (HP _ _ z ⟨kd, f, a, tok⟩ rfl HB.out) rfl ?_
      rw [← HR.out, EN.out]
      exact ⟨rfl, H9.out⟩
    | nil =>
      have HA : Hid ((if s.told < s.budget then takeM s.off s.mic else (none, s.mic)) = (none, [])) := Lib.hid (by rw [if_pos HL.out]; exact takeM_nil ED.out)
      simp only [List.length_nil] at *
      go_upto_region 5 with fail
      clear cq fq ED
      have HKT := KD
      clear KD
      generalize w3.setCell ⟨b, 4, none⟩ (.slice A' 0 c') = we at *
      -- none of the micro ones is told: world we, they are []
      obtain ⟨F2, ⟨o, P, H, hF⟩, hk2⟩ := HKT.out.open_
      have c1 : (we : World).cell? ⟨b, 1, none⟩ = some (.int .i64 s.told) := (H.part 0).1.cellOf 1 _ rfl
      have f1 : (we : World).frozen? ⟨b, 1, none⟩ = false := (H.part 0).1.free 1
      have K3 := Lib.hid (hk2 _ _ (H.rest hF))
      have OKM := Lib.hid H.ok
      have cq : (we : World).cell? ⟨b, 3, none⟩ = some (.slice o.A1 s.mac.length o.c1) := (H.part 0).1.cellOf 3 _ rfl
      have cq' : ((we : World).setCell ⟨b, 1, none⟩ (.int .i64 0)).cell? ⟨b, 3, none⟩ = some (.slice o.A1 s.mac.length o.c1) := ((H.part 0).1.set 1 (.int .i64 0)).cellOf 3 _ rfl
      clear H hF hk2 HKT
      go_upto_region 6 with fail
      clear c1 f1 cq cq'
      generalize (we : World).setCell ⟨b, 1, none⟩ (.int .i64 0) = wt at *
      obtain ⟨lb, hlb⟩ : ∃ lb, dropM s.off s.mac = lb := ⟨_, rfl⟩
      have ED := Lib.hid hlb
      clear hlb
      -- world wt, state { s with mic := [], told := 0 }: the row mac is dropped; its outcome is lb; KD is what stands then
      obtain ⟨F2, ⟨o, P, H, hF⟩, hk2⟩ := K3.out.open_
      have hb := (H.part 0).1
      have hr := (H.part 1).1
      have cq : (wt : World).cell? ⟨b, 3, none⟩ = some (.slice o.A1 ({ s with mic := [], told := 0 }).mac.length o.c1) := hb.cellOf 3 _ rfl
      have hdr := rl_drop ⟨o, P, H, hF⟩ hr HMB.out.1
      rw [ED.out] at hdr
      have HDR := Lib.hid hdr
      have HB := Lib.hid hb
      have HH := Lib.hid H
      have HF := Lib.hid hF
      have HK2 := Lib.hid hk2
      clear hb hr H hF hk2 hdr
      go_wp2_with fail
      refine HDR.out.mono ?_
      rintro e w3 ⟨A', c', G', rfl, hr', hT, hG⟩
      have hb3 := HB.out.keep hT (fun e => e)
      have cq : w3.cell? ⟨b, 3, none⟩ = some (.slice o.A1 ({ s with mic := [], told := 0 }).mac.length o.c1) := hb3.cellOf 3 _ rfl
      have fq := hb3.free 3
      have kd := HK2.out _ _ (HH.out.set_mac HF.out (l' := lb) (by rw [← ED.out]; exact dropM_sub _ _) hT hr' hG)
      have KD : Hid (RNextK w1 (w3.setCell ⟨b, 3, none⟩ (.slice A' (lb : List Tk).length c')) b z F { { s with mic := [], told := 0 } with mac := lb }) := Lib.hid kd
      clear HDR HB HH HF HK2 hr' hT hG kd hb3
      cases lb with
      | cons t r =>
        obtain ⟨kd, f, a, tok⟩ := t
        have EN := Lib.hid (nextL_b HA.out (takeM_cons ED.out))
        have d7 : (0 : Int) < (r.length : Int) + 1 := by omega
        simp only [List.length_cons] at *
        go_upto_region 8 with fail
        clear cq fq d7
        generalize w3.setCell ⟨b, 3, none⟩ (.slice A' (r.length + 1) c') = wb at *
        obtain ⟨F3, ⟨o3, P3, H3, hF3⟩, hk3⟩ := KD.out.open_
        have hb1 := (H3.part 0).1
        have hr1 : Rw wb 35 4 o3.A1 (r.length + 1) o3.c1 (tks (⟨kd, f, a, tok⟩ :: r)) o3.G1 := (H3.part 1).1
        have hcap := hr1.cap_le
        obtain ⟨g, off, eA, _, hcl⟩ := hr1.cells (by omega)
        have c3 : wb.cell? ⟨b, 3, none⟩ = some (.slice o3.A1 (r.length + 1) o3.c1) := hb1.cellOf 3 _ rfl
        rw [eA] at c3
        have l0 : wb.cell? ⟨g, off, none⟩ = some (.int .i64 kd) := hcl 0 _ rfl
        have l1 : wb.cell? ⟨g, off + 1, none⟩ = some (.int .i64 f) := hcl 1 _ rfl
        have l2 : wb.cell? ⟨g, off + 2, none⟩ = some (.int .i64 a) := hcl 2 _ rfl
        have l3 : wb.cell? ⟨g, off + 3, none⟩ = some (.int .i64 tok) := hcl 3 _ rfl
        have hpos : (0 : Int) < (r.length : Int) + 1 := by omega
        have T4 := (Tch.refl NoBlk wb).alloc (.cells #[.int .i64 kd, .int .i64 f, .int .i64 a, .int .i64 tok] 35)
        have hy : Blk (wb.alloc (.cells #[.int .i64 kd, .int .i64 f, .int .i64 a, .int .i64 tok] 35)) wb.heap.size 35 [.int .i64 kd, .int .i64 f, .int .i64 a, .int .i64 tok] := heap_alloc_new wb _
        have hyb : wb.heap.size ≠ b := fun e => by have := hb1.lt; omega
        have H4 := H3.keep T4 (fun _ _ _ h => h)
        have HK2 : Hid (∀ w' s', RLeft (wb.alloc (.cells #[.int .i64 kd, .int .i64 f, .int .i64 a, .int .i64 tok] 35)) w' b F3 s' → RNextK w1 w' b z F s') := Lib.hid (fun w' s' h => hk3 w' s' (h.ahead T4))
        have HF := Lib.hid hF3
        have HEA := Lib.hid eA
        clear KD H3 hF3 hk3 hb1 hr1 eA hcl
        go_upto_region 9 with fail
        clear l0 l1 l2 l3 c3 T4
        generalize wb.alloc (.cells #[.int .i64 kd, .int .i64 f, .int .i64 a, .int .i64 tok] 35) = w4 at *
        generalize wb.heap.size = y at *
        have hb2 := (H4.part 0).1
        have c3 : w4.cell? ⟨b, 3, none⟩ = some (.slice o3.A1 (r.length + 1) o3.c1) := hb2.cellOf 3 _ rfl
        rw [HEA.out] at c3
        have f3 := hb2.free 3
        have f2 := hb2.free 2
        have c2 := hb2.cellOf 2 _ rfl
        have HB := Lib.hid hb2
        have HH := Lib.hid H4
        have HYN := Lib.hid hyb
        clear H4 hb2
        have hc1 : (1 : Int) ≤ (r.length : Int) + 1 := by omega
        by_cases ec : o3.c1 = 1
        · obtain rfl : r = [] := List.eq_nil_of_length_eq_zero (by omega)
          rw [ec] at c3 hcap
          simp only [List.length_nil] at *
          -- the macro task is told, in world w4 with its own copy at y: the row's new place some ⟨g, off, none⟩
          have hv : ∀ v, (w4.setCell ⟨b, 3, none⟩ v).cell? ⟨y, 3, none⟩ = some (.int .i64 tok) := fun v => (hy.keep ((Tch.refl (· = b) w4).setCell (p := ⟨b, 3, none⟩) (fun _ => rfl) v) hyb).cellOf 3 _ rfl
          have HY := Lib.hid hy
          clear hy
          go_upto_region 11 with fail
          clear hv c3 f3 f2 c2
          have hb3 := (HB.out.set 3 (.slice (some ⟨g, off, none⟩) 0 0)).set 2 (.int .i64 tok)
          have T3 : Tch (· = b) w4 ((w4.setCell ⟨b, 3, none⟩ (.slice (some ⟨g, off, none⟩) 0 0)).setCell ⟨b, 2, none⟩ (.int .i64 tok)) := ((Tch.refl (· = b) w4).setCell (p := ⟨b, 3, none⟩) (fun _ => rfl) _).setCell (p := ⟨b, 2, none⟩) (fun _ => rfl) _
          have hy3 := HY.out.keep T3 HYN.out
          have hturn := HH.out.turn_mac HF.out (t := ⟨kd, f, a, tok⟩) rfl (k := 0) (by omega) T3 HEA.out (by rw [if_pos ec]; simpa [rcells, turnL, ec] using hb3)
          have HE := Lib.hid (HK2.out _ _ hturn)
          clear hturn T3 hb3 HB HH HF HK2
          generalize (w4.setCell ⟨b, 3, none⟩ (.slice (some ⟨g, off, none⟩) 0 0)).setCell ⟨b, 2, none⟩ (.int .i64 tok) = w5 at *
          have y0 := hy3.cellOf 0 _ rfl
          have y1 := hy3.cellOf 1 _ rfl
          have y2 := hy3.cellOf 2 _ rfl
          have y3 := hy3.cellOf 3 _ rfl
          clear hy3 HY
          -- the answer is laid into its own block, and told
          have hB := blk_put4 HE.out.blk kd f a tok
          have h9 := rleft_put4 HE.out.left HT.out (by have hz := HZ.out; omega) HE.out.hz (fun k hk => by have := HE.out.hF k hk; have hz := HZ.out; omega) kd f a tok
          have HB := Lib.hid hB
          have H9 := Lib.hid h9
          clear hB h9
          have g0 := HE.out.blk.cellOf 0 _ rfl
          have g1 := HE.out.blk.cellOf 1 _ rfl
          have g2 := HE.out.blk.cellOf 2 _ rfl
          have g3 := HE.out.blk.cellOf 3 _ rfl
          have e0 := HE.out.blk.free 0
          have e1 := HE.out.blk.free 1
          have e2 := HE.out.blk.free 2
          have e3 := HE.out.blk.free 3
          clear HE
          go_wp2
          (try simp only [Exit.inBlock, Exit.then])
          have HP := ret_tk (fn := Tryz.f9) (p := 2) (u := 3) rfl
          refine bodyPost_ret (HP _ _ z ⟨kd, f, a, tok⟩ rfl HB.out) rfl ?_
          rw [← HR.out, EN.out]
          exact ⟨rfl, H9.out⟩
        · skip
          -- the macro task is told, in world w4 with its own copy at y: the row's new place some ⟨g, off + 4, none⟩
          have hv : ∀ v, (w4.setCell ⟨b, 3, none⟩ v).cell? ⟨y, 3, none⟩ = some (.int .i64 tok) := fun v => (hy.keep ((Tch.refl (· = b) w4).setCell (p := ⟨b, 3, none⟩) (fun _ => rfl) v) hyb).cellOf 3 _ rfl
          have HY := Lib.hid hy
          clear hy
          go_upto_region 11 with fail
          clear hv c3 f3 f2 c2
          have hb3 := (HB.out.set 3 (.slice (some ⟨g, off + 4, none⟩) r.length (o3.c1 - 1))).set 2 (.int .i64 tok)
          have T3 : Tch (· = b) w4 ((w4.setCell ⟨b, 3, none⟩ (.slice (some ⟨g, off + 4, none⟩) r.length (o3.c1 - 1))).setCell ⟨b, 2, none⟩ (.int .i64 tok)) := ((Tch.refl (· = b) w4).setCell (p := ⟨b, 3, none⟩) (fun _ => rfl) _).setCell (p := ⟨b, 2, none⟩) (fun _ => rfl) _
          have hy3 := HY.out.keep T3 HYN.out
          have hturn := HH.out.turn_mac HF.out (t := ⟨kd, f, a, tok⟩) rfl (k := 0) (by omega) T3 HEA.out (by rw [if_neg ec]; simpa [rcells, turnL] using hb3)
          have HE := Lib.hid (HK2.out _ _ hturn)
          clear hturn T3 hb3 HB HH HF HK2
          generalize (w4.setCell ⟨b, 3, none⟩ (.slice (some ⟨g, off + 4, none⟩) r.length (o3.c1 - 1))).setCell ⟨b, 2, none⟩ (.int .i64 tok) = w5 at *
          have y0 := hy3.cellOf 0 _ rfl
          have y1 := hy3.cellOf 1 _ rfl
          have y2 := hy3.cellOf 2 _ rfl
          have y3 := hy3.cellOf 3 _ rfl
          clear hy3 HY
          -- the answer is laid into its own block, and told
          have hB := blk_put4 HE.out.blk kd f a tok
          have h9 := rleft_put4 HE.out.left HT.out (by have hz := HZ.out; omega) HE.out.hz (fun k hk => by have := HE.out.hF k hk; have hz := HZ.out; omega) kd f a tok
          have HB := Lib.hid hB
          have H9 := Lib.hid h9
          clear hB h9
          have g0 := HE.out.blk.cellOf 0 _ rfl
          have g1 := HE.out.blk.cellOf 1 _ rfl
          have g2 := HE.out.blk.cellOf 2 _ rfl
          have g3 := HE.out.blk.cellOf 3 _ rfl
          have e0 := HE.out.blk.free 0
          have e1 := HE.out.blk.free 1
          have e2 := HE.out.blk.free 2
          have e3 := HE.out.blk.free 3
          clear HE
          go_wp2
          (try simp only [Exit.inBlock, Exit.then])
          have HP := ret_tk (fn := Tryz.f9) (p := 2) (u := 3) rfl
          refine bodyPost_ret (HP _ _ z ⟨kd, f, a, tok⟩ rfl HB.out) rfl ?_
          rw [← HR.out, EN.out]
          exact ⟨rfl, H9.out⟩
      | nil =>
        have EB := Lib.hid (takeM_nil ED.out)
        simp only [List.length_nil] at *
        go_upto_region 12 with fail
        clear cq fq ED
        generalize w3.setCell ⟨b, 3, none⟩ (.slice A' 0 c') = wb at *
        obtain ⟨lc, hlc⟩ : ∃ lc, dropM s.off ([]) = lc := ⟨_, rfl⟩
        have ED := Lib.hid hlc
        clear hlc
        have KC := KD
        clear KD
        have HBM2 : Hid (([] : List Tk).length < 1000000) := Lib.hid (by first | exact HMB.out.2 | simp)
        -- world wb, state { s with mic := [], told := 0, mac := [] }: the row mic is dropped; its outcome is lc; KD is what stands then
        obtain ⟨F2, ⟨o, P, H, hF⟩, hk2⟩ := KC.out.open_
        have hb := (H.part 0).1
        have hr := (H.part 2).1
        have cq : (wb : World).cell? ⟨b, 4, none⟩ = some (.slice o.A2 ({ s with mic := [], told := 0, mac := [] }).mic.length o.c2) := hb.cellOf 4 _ rfl
        have hdr := rl_drop ⟨o, P, H, hF⟩ hr HBM2.out
        rw [ED.out] at hdr
        have HDR := Lib.hid hdr
        have HB := Lib.hid hb
        have HH := Lib.hid H
        have HF := Lib.hid hF
        have HK2 := Lib.hid hk2
        clear hb hr H hF hk2 hdr
        go_wp2_with fail
        refine HDR.out.mono ?_
        rintro e w3 ⟨A', c', G', rfl, hr', hT, hG⟩
        have hb3 := HB.out.keep hT (fun e => e)
        have cq : w3.cell? ⟨b, 4, none⟩ = some (.slice o.A2 ({ s with mic := [], told := 0, mac := [] }).mic.length o.c2) := hb3.cellOf 4 _ rfl
        have fq := hb3.free 4
        have kd := HK2.out _ _ (HH.out.set_mic HF.out (l' := lc) (by rw [← ED.out]; exact dropM_sub _ _) hT hr' hG)
        have KD : Hid (RNextK w1 (w3.setCell ⟨b, 4, none⟩ (.slice A' (lc : List Tk).length c')) b z F { { s with mic := [], told := 0, mac := [] } with mic := lc }) := Lib.hid kd
        clear HDR HB HH HF HK2 hr' hT hG kd hb3
        cases lc with
        | cons t r =>
          have EN := Lib.hid (nextL_c HA.out EB.out (takeM_cons ED.out))
          have d7 : (0 : Int) < (r.length : Int) + 1 := by omega
          obtain ⟨F3, q3, hk3⟩ := KD.out.open_
          have hmi := rl_micro1 q3 (t := t) (r := r) rfl 1 (by omega)
          obtain ⟨kd, f, a, tok⟩ := t
          unfold tkv at hmi
          have HMI := Lib.hid hmi
          have HK3 := Lib.hid hk3
          simp only [List.length_cons] at *
          clear q3 hk3 hmi KD
          go_wp2_with fail
          clear cq fq
          refine HMI.out.mono ?_
          rintro e w4 ⟨rfl, h4⟩
          have HE := Lib.hid (HK3.out _ _ h4)
          clear h4 HMI HK3
          -- the answer is laid into its own block, and told
          have hB := blk_put4 HE.out.blk kd f a tok
          have h9 := rleft_put4 HE.out.left HT.out (by have hz := HZ.out; omega) HE.out.hz (fun k hk => by have := HE.out.hF k hk; have hz := HZ.out; omega) kd f a tok
          have HB := Lib.hid hB
          have H9 := Lib.hid h9
          clear hB h9
          have g0 := HE.out.blk.cellOf 0 _ rfl
          have g1 := HE.out.blk.cellOf 1 _ rfl
          have g2 := HE.out.blk.cellOf 2 _ rfl
          have g3 := HE.out.blk.cellOf 3 _ rfl
          have e0 := HE.out.blk.free 0
          have e1 := HE.out.blk.free 1
          have e2 := HE.out.blk.free 2
          have e3 := HE.out.blk.free 3
          clear HE
          go_wp2
          (try simp only [Exit.inBlock, Exit.then])
          have HP := ret_tk (fn := Tryz.f9) (p := 2) (u := 3) rfl
          refine bodyPost_ret (HP _ _ z ⟨kd, f, a, tok⟩ rfl HB.out) rfl ?_
          rw [← HR.out, EN.out]
          exact ⟨rfl, H9.out⟩
        | nil =>
          have EN := Lib.hid (nextL_d HA.out EB.out (takeM_nil ED.out))
          simp only [List.length_nil] at *
          go_upto_region 15 with fail
          clear cq fq
          generalize w3.setCell ⟨b, 4, none⟩ (.slice A' 0 c') = wc at *
          have HE : Hid (RNextK w1 wc b z F { s with told := 0, mic := [], mac := [] }) := KD
          clear KD
          obtain ⟨kd, f, a, tok, rfl, rfl, rfl, rfl⟩ : ∃ kd f a tok : Int, kd = 0 ∧ f = 0 ∧ a = 0 ∧ tok = 0 := ⟨0, 0, 0, 0, rfl, rfl, rfl, rfl⟩
          have hB := blk_put4 HE.out.blk 0 0 0 0
          have h9 := rleft_put4 HE.out.left HT.out (by have hz := HZ.out; omega) HE.out.hz (fun k hk => by have := HE.out.hF k hk; have hz := HZ.out; omega) 0 0 0 0
          have HB := Lib.hid hB
          have H9 := Lib.hid h9
          clear hB h9
          have g0 := HE.out.blk.cellOf 0 _ rfl
          have g1 := HE.out.blk.cellOf 1 _ rfl
          have g2 := HE.out.blk.cellOf 2 _ rfl
          have g3 := HE.out.blk.cellOf 3 _ rfl
          have e0 := HE.out.blk.free 0
          have e1 := HE.out.blk.free 1
          have e2 := HE.out.blk.free 2
          have e3 := HE.out.blk.free 3
          clear HE
          go_wp2
          (try simp only [Exit.inBlock, Exit.then])
          have HP := ret_tk (fn := Tryz.f9) (p := 2) (u := 3) rfl
          refine bodyPost_ret (HP _ _ z ⟨0, 0, 0, 0⟩ rfl HB.out) rfl ?_
          rw [← HR.out, EN.out]
          exact ⟨rfl, H9.out⟩
  · have d1 : decide ((s.told : Int) < (s.budget : Int)) = false := by simpa using hlt
    have HA : Hid ((if s.told < s.budget then takeM s.off s.mic else (none, s.mic)) = (none, s.mic)) := Lib.hid (by rw [if_neg hlt])
    go_wp2_with fail
    go_region
    have HKT := Lib.hid (HK.out.touch (Tch.refl NoBlk w1).drew)
    clear HK c0 c1
    generalize w1.drew = wd at *
    -- none of the micro ones is told: world wd, they are s.mic
    obtain ⟨F2, ⟨o, P, H, hF⟩, hk2⟩ := HKT.out.open_
    have c1 : (wd : World).cell? ⟨b, 1, none⟩ = some (.int .i64 s.told) := (H.part 0).1.cellOf 1 _ rfl
    have f1 : (wd : World).frozen? ⟨b, 1, none⟩ = false := (H.part 0).1.free 1
    have K3 := Lib.hid (hk2 _ _ (H.rest hF))
    have OKM := Lib.hid H.ok
    have cq : (wd : World).cell? ⟨b, 3, none⟩ = some (.slice o.A1 s.mac.length o.c1) := (H.part 0).1.cellOf 3 _ rfl
    have cq' : ((wd : World).setCell ⟨b, 1, none⟩ (.int .i64 0)).cell? ⟨b, 3, none⟩ = some (.slice o.A1 s.mac.length o.c1) := ((H.part 0).1.set 1 (.int .i64 0)).cellOf 3 _ rfl
    clear H hF hk2 HKT
    go_upto_region 6 with fail
    clear c1 f1 cq cq'
    generalize (wd : World).setCell ⟨b, 1, none⟩ (.int .i64 0) = wt at *
    obtain ⟨lb, hlb⟩ : ∃ lb, dropM s.off s.mac = lb := ⟨_, rfl⟩
    have ED := Lib.hid hlb
    clear hlb
    -- world wt, state { s with mic := s.mic, told := 0 }: the row mac is dropped; its outcome is lb; KD is what stands then
    obtain ⟨F2, ⟨o, P, H, hF⟩, hk2⟩ := K3.out.open_
    have hb := (H.part 0).1
    have hr := (H.part 1).1
    have cq : (wt : World).cell? ⟨b, 3, none⟩ = some (.slice o.A1 ({ s with mic := s.mic, told := 0 }).mac.length o.c1) := hb.cellOf 3 _ rfl
    have hdr := rl_drop ⟨o, P, H, hF⟩ hr HMB.out.1
    rw [ED.out] at hdr
    have HDR := Lib.hid hdr
    have HB := Lib.hid hb
    have HH := Lib.hid H
    have HF := Lib.hid hF
    have HK2 := Lib.hid hk2
    clear hb hr H hF hk2 hdr
    go_wp2_with fail
    refine HDR.out.mono ?_
    rintro e w3 ⟨A', c', G', rfl, hr', hT, hG⟩
    have hb3 := HB.out.keep hT (fun e => e)
    have cq : w3.cell? ⟨b, 3, none⟩ = some (.slice o.A1 ({ s with mic := s.mic, told := 0 }).mac.length o.c1) := hb3.cellOf 3 _ rfl
    have fq := hb3.free 3
    have kd := HK2.out _ _ (HH.out.set_mac HF.out (l' := lb) (by rw [← ED.out]; exact dropM_sub _ _) hT hr' hG)
    have KD : Hid (RNextK w1 (w3.setCell ⟨b, 3, none⟩ (.slice A' (lb : List Tk).length c')) b z F { { s with mic := s.mic, told := 0 } with mac := lb }) := Lib.hid kd
    clear HDR HB HH HF HK2 hr' hT hG kd hb3
    cases lb with
    | cons t r =>
      obtain ⟨kd, f, a, tok⟩ := t
      have EN := Lib.hid (nextL_b HA.out (takeM_cons ED.out))
      have d7 : (0 : Int) < (r.length : Int) + 1 := by omega
      simp only [List.length_cons] at *
      go_upto_region 8 with fail
      clear cq fq d7
      generalize w3.setCell ⟨b, 3, none⟩ (.slice A' (r.length + 1) c') = wb at *
      obtain ⟨F3, ⟨o3, P3, H3, hF3⟩, hk3⟩ := KD.out.open_
      have hb1 := (H3.part 0).1
      have hr1 : Rw wb 35 4 o3.A1 (r.length + 1) o3.c1 (tks (⟨kd, f, a, tok⟩ :: r)) o3.G1 := (H3.part 1).1
      have hcap := hr1.cap_le
      obtain ⟨g, off, eA, _, hcl⟩ := hr1.cells (by omega)
      have c3 : wb.cell? ⟨b, 3, none⟩ = some (.slice o3.A1 (r.length + 1) o3.c1) := hb1.cellOf 3 _ rfl
      rw [eA] at c3
      have l0 : wb.cell? ⟨g, off, none⟩ = some (.int .i64 kd) := hcl 0 _ rfl
      have l1 : wb.cell? ⟨g, off + 1, none⟩ = some (.int .i64 f) := hcl 1 _ rfl
      have l2 : wb.cell? ⟨g, off + 2, none⟩ = some (.int .i64 a) := hcl 2 _ rfl
      have l3 : wb.cell? ⟨g, off + 3, none⟩ = some (.int .i64 tok) := hcl 3 _ rfl
      have hpos : (0 : Int) < (r.length : Int) + 1 := by omega
      have T4 := (Tch.refl NoBlk wb).alloc (.cells #[.int .i64 kd, .int .i64 f, .int .i64 a, .int .i64 tok] 35)
      have hy : Blk (wb.alloc (.cells #[.int .i64 kd, .int .i64 f, .int .i64 a, .int .i64 tok] 35)) wb.heap.size 35 [.int .i64 kd, .int .i64 f, .int .i64 a, .int .i64 tok] := heap_alloc_new wb _
      have hyb : wb.heap.size ≠ b := fun e => by have := hb1.lt; omega
      have H4 := H3.keep T4 (fun _ _ _ h => h)
      have HK2 : Hid (∀ w' s', RLeft (wb.alloc (.cells #[.int .i64 kd, .int .i64 f, .int .i64 a, .int .i64 tok] 35)) w' b F3 s' → RNextK w1 w' b z F s') := Lib.hid (fun w' s' h => hk3 w' s' (h.ahead T4))
      have HF := Lib.hid hF3
      have HEA := Lib.hid eA
      clear KD H3 hF3 hk3 hb1 hr1 eA hcl
      go_upto_region 9 with fail
      clear l0 l1 l2 l3 c3 T4
      generalize wb.alloc (.cells #[.int .i64 kd, .int .i64 f, .int .i64 a, .int .i64 tok] 35) = w4 at *
      generalize wb.heap.size = y at *
      have hb2 := (H4.part 0).1
      have c3 : w4.cell? ⟨b, 3, none⟩ = some (.slice o3.A1 (r.length + 1) o3.c1) := hb2.cellOf 3 _ rfl
      rw [HEA.out] at c3
      have f3 := hb2.free 3
      have f2 := hb2.free 2
      have c2 := hb2.cellOf 2 _ rfl
      have HB := Lib.hid hb2
      have HH := Lib.hid H4
      have HYN := Lib.hid hyb
      clear H4 hb2
      have hc1 : (1 : Int) ≤ (r.length : Int) + 1 := by omega
      by_cases ec : o3.c1 = 1
      · obtain rfl : r = [] := List.eq_nil_of_length_eq_zero (by omega)
        rw [ec] at c3 hcap
        simp only [List.length_nil] at *
        -- the macro task is told, in world w4 with its own copy at y: the row's new place some ⟨g, off, none⟩
        have hv : ∀ v, (w4.setCell ⟨b, 3, none⟩ v).cell? ⟨y, 3, none⟩ = some (.int .i64 tok) := fun v => (hy.keep ((Tch.refl (· = b) w4).setCell (p := ⟨b, 3, none⟩) (fun _ => rfl) v) hyb).cellOf 3 _ rfl
        have HY := Lib.hid hy
        clear hy
        go_upto_region 11 with fail
        clear hv c3 f3 f2 c2
        have hb3 := (HB.out.set 3 (.slice (some ⟨g, off, none⟩) 0 0)).set 2 (.int .i64 tok)
        have T3 : Tch (· = b) w4 ((w4.setCell ⟨b, 3, none⟩ (.slice (some ⟨g, off, none⟩) 0 0)).setCell ⟨b, 2, none⟩ (.int .i64 tok)) := ((Tch.refl (· = b) w4).setCell (p := ⟨b, 3, none⟩) (fun _ => rfl) _).setCell (p := ⟨b, 2, none⟩) (fun _ => rfl) _
        have hy3 := HY.out.keep T3 HYN.out
        have hturn := HH.out.turn_mac HF.out (t := ⟨kd, f, a, tok⟩) rfl (k := 0) (by omega) T3 HEA.out (by rw [if_pos ec]; simpa [rcells, turnL, ec] using hb3)
        have HE := Lib.hid (HK2.out _ _ hturn)
        clear hturn T3 hb3 HB HH HF HK2
        generalize (w4.setCell ⟨b, 3, none⟩ (.slice (some ⟨g, off, none⟩) 0 0)).setCell ⟨b, 2, none⟩ (.int .i64 tok) = w5 at *
        have y0 := hy3.cellOf 0 _ rfl
        have y1 := hy3.cellOf 1 _ rfl
        have y2 := hy3.cellOf 2 _ rfl
        have y3 := hy3.cellOf 3 _ rfl
        clear hy3 HY
        -- the answer is laid into its own block, and told
        have hB := blk_put4 HE.out.blk kd f a tok
        have h9 := rleft_put4 HE.out.left HT.out (by have hz := HZ.out; omega) HE.out.hz (fun k hk => by have := HE.out.hF k hk; have hz := HZ.out; omega) kd f a tok
        have HB := Lib.hid hB
        have H9 := Lib.hid h9
        clear hB h9
        have g0 := HE.out.blk.cellOf 0 _ rfl
        have g1 := HE.out.blk.cellOf 1 _ rfl
        have g2 := HE.out.blk.cellOf 2 _ rfl
        have g3 := HE.out.blk.cellOf 3 _ rfl
        have e0 := HE.out.blk.free 0
        have e1 := HE.out.blk.free 1
        have e2 := HE.out.blk.free 2
        have e3 := HE.out.blk.free 3
        clear HE
        go_wp2
        (try simp only [Exit.inBlock, Exit.then])
        have HP := ret_tk (fn := Tryz.f9) (p := 2) (u := 3) rfl
        refine bodyPost_ret (HP _ _ z ⟨kd, f, a, tok⟩ rfl HB.out) rfl ?_
        rw [← HR.out, EN.out]
        exact ⟨rfl, H9.out⟩
      · skip
        -- the macro task is told, in world w4 with its own copy at y: the row's new place some ⟨g, off + 4, none⟩
        have hv : ∀ v, (w4.setCell ⟨b, 3, none⟩ v).cell? ⟨y, 3, none⟩ = some (.int .i64 tok) := fun v => (hy.keep ((Tch.refl (· = b) w4).setCell (p := ⟨b, 3, none⟩) (fun _ => rfl) v) hyb).cellOf 3 _ rfl
        have HY := Lib.hid hy
        clear hy
        go_upto_region 11 with fail
        clear hv c3 f3 f2 c2
        have hb3 := (HB.out.set 3 (.slice (some ⟨g, off + 4, none⟩) r.length (o3.c1 - 1))).set 2 (.int .i64 tok)
        have T3 : Tch (· = b) w4 ((w4.setCell ⟨b, 3, none⟩ (.slice (some ⟨g, off + 4, none⟩) r.length (o3.c1 - 1))).setCell ⟨b, 2, none⟩ (.int .i64 tok)) := ((Tch.refl (· = b) w4).setCell (p := ⟨b, 3, none⟩) (fun _ => rfl) _).setCell (p := ⟨b, 2, none⟩) (fun _ => rfl) _
        have hy3 := HY.out.keep T3 HYN.out
        have hturn := HH.out.turn_mac HF.out (t := ⟨kd, f, a, tok⟩) rfl (k := 0) (by omega) T3 HEA.out (by rw [if_neg ec]; simpa [rcells, turnL] using hb3)
        have HE := Lib.hid (HK2.out _ _ hturn)
        clear hturn T3 hb3 HB HH HF HK2
        generalize (w4.setCell ⟨b, 3, none⟩ (.slice (some ⟨g, off + 4, none⟩) r.length (o3.c1 - 1))).setCell ⟨b, 2, none⟩ (.int .i64 tok) = w5 at *
        have y0 := hy3.cellOf 0 _ rfl
        have y1 := hy3.cellOf 1 _ rfl
        have y2 := hy3.cellOf 2 _ rfl
        have y3 := hy3.cellOf 3 _ rfl
        clear hy3 HY
        -- the answer is laid into its own block, and told
        have hB := blk_put4 HE.out.blk kd f a tok
        have h9 := rleft_put4 HE.out.left HT.out (by have hz := HZ.out; omega) HE.out.hz (fun k hk => by have := HE.out.hF k hk; have hz := HZ.out; omega) kd f a tok
        have HB := Lib.hid hB
        have H9 := Lib.hid h9
        clear hB h9
        have g0 := HE.out.blk.cellOf 0 _ rfl
        have g1 := HE.out.blk.cellOf 1 _ rfl
        have g2 := HE.out.blk.cellOf 2 _ rfl
        have g3 := HE.out.blk.cellOf 3 _ rfl
        have e0 := HE.out.blk.free 0
        have e1 := HE.out.blk.free 1
        have e2 := HE.out.blk.free 2
        have e3 := HE.out.blk.free 3
        clear HE
        go_wp2
        (try simp only [Exit.inBlock, Exit.then])
        have HP := ret_tk (fn := Tryz.f9) (p := 2) (u := 3) rfl
        refine bodyPost_ret (HP _ _ z ⟨kd, f, a, tok⟩ rfl HB.out) rfl ?_
        rw [← HR.out, EN.out]
        exact ⟨rfl, H9.out⟩
    | nil =>
      have EB := Lib.hid (takeM_nil ED.out)
      simp only [List.length_nil] at *
      go_upto_region 12 with fail
      clear cq fq ED
      generalize w3.setCell ⟨b, 3, none⟩ (.slice A' 0 c') = wb at *
      obtain ⟨lc, hlc⟩ : ∃ lc, dropM s.off (s.mic) = lc := ⟨_, rfl⟩
      have ED := Lib.hid hlc
      clear hlc
      have KC := KD
      clear KD
      have HBM2 : Hid ((s.mic : List Tk).length < 1000000) := Lib.hid (by first | exact HMB.out.2 | simp)
      -- world wb, state { s with mic := s.mic, told := 0, mac := [] }: the row mic is dropped; its outcome is lc; KD is what stands then
      obtain ⟨F2, ⟨o, P, H, hF⟩, hk2⟩ := KC.out.open_
      have hb := (H.part 0).1
      have hr := (H.part 2).1
      have cq : (wb : World).cell? ⟨b, 4, none⟩ = some (.slice o.A2 ({ s with mic := s.mic, told := 0, mac := [] }).mic.length o.c2) := hb.cellOf 4 _ rfl
      have hdr := rl_drop ⟨o, P, H, hF⟩ hr HBM2.out
      rw [ED.out] at hdr
      have HDR := Lib.hid hdr
      have HB := Lib.hid hb
      have HH := Lib.hid H
      have HF := Lib.hid hF
      have HK2 := Lib.hid hk2
      clear hb hr H hF hk2 hdr
      go_wp2_with fail
      refine HDR.out.mono ?_
      rintro e w3 ⟨A', c', G', rfl, hr', hT, hG⟩
      have hb3 := HB.out.keep hT (fun e => e)
      have cq : w3.cell? ⟨b, 4, none⟩ = some (.slice o.A2 ({ s with mic := s.mic, told := 0, mac := [] }).mic.length o.c2) := hb3.cellOf 4 _ rfl
      have fq := hb3.free 4
      have kd := HK2.out _ _ (HH.out.set_mic HF.out (l' := lc) (by rw [← ED.out]; exact dropM_sub _ _) hT hr' hG)
      have KD : Hid (RNextK w1 (w3.setCell ⟨b, 4, none⟩ (.slice A' (lc : List Tk).length c')) b z F { { s with mic := s.mic, told := 0, mac := [] } with mic := lc }) := Lib.hid kd
      clear HDR HB HH HF HK2 hr' hT hG kd hb3
      cases lc with
      | cons t r =>
        have EN := Lib.hid (nextL_c HA.out EB.out (takeM_cons ED.out))
        have d7 : (0 : Int) < (r.length : Int) + 1 := by omega
        obtain ⟨F3, q3, hk3⟩ := KD.out.open_
        have hmi := rl_micro1 q3 (t := t) (r := r) rfl 1 (by omega)
        obtain ⟨kd, f, a, tok⟩ := t
        unfold tkv at hmi
        have HMI := Lib.hid hmi
        have HK3 := Lib.hid hk3
        simp only [List.length_cons] at *
        clear q3 hk3 hmi KD
        go_wp2_with fail
        clear cq fq
        refine HMI.out.mono ?_
        rintro e w4 ⟨rfl, h4⟩
        have HE := Lib.hid (HK3.out _ _ h4)
        clear h4 HMI HK3
        -- the answer is laid into its own block, and told
        have hB := blk_put4 HE.out.blk kd f a tok
        have h9 := rleft_put4 HE.out.left HT.out (by have hz := HZ.out; omega) HE.out.hz (fun k hk => by have := HE.out.hF k hk; have hz := HZ.out; omega) kd f a tok
        have HB := Lib.hid hB
        have H9 := Lib.hid h9
        clear hB h9
        have g0 := HE.out.blk.cellOf 0 _ rfl
        have g1 := HE.out.blk.cellOf 1 _ rfl
        have g2 := HE.out.blk.cellOf 2 _ rfl
        have g3 := HE.out.blk.cellOf 3 _ rfl
        have e0 := HE.out.blk.free 0
        have e1 := HE.out.blk.free 1
        have e2 := HE.out.blk.free 2
        have e3 := HE.out.blk.free 3
        clear HE
        go_wp2
        (try simp only [Exit.inBlock, Exit.then])
        have HP := ret_tk (fn := Tryz.f9) (p := 2) (u := 3) rfl
        refine bodyPost_ret (HP _ _ z ⟨kd, f, a, tok⟩ rfl HB.out) rfl ?_
        rw [← HR.out, EN.out]
        exact ⟨rfl, H9.out⟩
      | nil =>
        have EN := Lib.hid (nextL_d HA.out EB.out (takeM_nil ED.out))
        simp only [List.length_nil] at *
        go_upto_region 15 with fail
        clear cq fq
        generalize w3.setCell ⟨b, 4, none⟩ (.slice A' 0 c') = wc at *
        have HE : Hid (RNextK w1 wc b z F { s with told := 0, mic := [], mac := [] }) := KD
        clear KD
        obtain ⟨kd, f, a, tok, rfl, rfl, rfl, rfl⟩ : ∃ kd f a tok : Int, kd = 0 ∧ f = 0 ∧ a = 0 ∧ tok = 0 := ⟨0, 0, 0, 0, rfl, rfl, rfl, rfl⟩
        have hB := blk_put4 HE.out.blk 0 0 0 0
        have h9 := rleft_put4 HE.out.left HT.out (by have hz := HZ.out; omega) HE.out.hz (fun k hk => by have := HE.out.hF k hk; have hz := HZ.out; omega) 0 0 0 0
        have HB := Lib.hid hB
        have H9 := Lib.hid h9
        clear hB h9
        have g0 := HE.out.blk.cellOf 0 _ rfl
        have g1 := HE.out.blk.cellOf 1 _ rfl
        have g2 := HE.out.blk.cellOf 2 _ rfl
        have g3 := HE.out.blk.cellOf 3 _ rfl
        have e0 := HE.out.blk.free 0
        have e1 := HE.out.blk.free 1
        have e2 := HE.out.blk.free 2
        have e3 := HE.out.blk.free 3
        clear HE
        go_wp2
        (try simp only [Exit.inBlock, Exit.then])
        have HP := ret_tk (fn := Tryz.f9) (p := 2) (u := 3) rfl
        refine bodyPost_ret (HP _ _ z ⟨0, 0, 0, 0⟩ rfl HB.out) rfl ?_
        rw [← HR.out, EN.out]
        exact ⟨rfl, H9.out⟩
end Go.Proofs.YtipbimbnpikbcaaGreat
