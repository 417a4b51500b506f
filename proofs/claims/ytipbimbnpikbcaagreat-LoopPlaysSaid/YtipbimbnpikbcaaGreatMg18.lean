import Derived.Test.YtipbimbnpikbcaaGreatMg17
/- Whose turn it is. -/
namespace Go.Proofs.YtipbimbnpikbcaaGreat
open Go.RowKit

section
variable {w w' w1 : World} {b z : Nat} {s : Lp} {F : Nat → Prop}
theorem take_mic (h : LoopQ w b s F) {x : Option Tk} {r : List Tk} (e : takeM s.off s.mic = (x, r)) :
    Calls Tryz.prog 21 #[.pointer (some ⟨b, 4, none⟩), .func (.func 22) #[.pointer (some ⟨b, 0, none⟩)] #[]] w fun e w' => e = .returned (.tuple #[tkv (x.getD tk0), .bool x.isSome]) ∧ LoopLeft w w' b F { s with mic := r } := by
  have := row_take b 4 (fun l => { s with mic := l }) (row_mic b s) s.mic w F h
  dsimp only at this
  rw [e] at this
  exact this
theorem take_mac (h : LoopQ w b s F) {x : Option Tk} {r : List Tk} (e : takeM s.off s.mac = (x, r)) :
    Calls Tryz.prog 21 #[.pointer (some ⟨b, 3, none⟩), .func (.func 22) #[.pointer (some ⟨b, 0, none⟩)] #[]] w fun e w' => e = .returned (.tuple #[tkv (x.getD tk0), .bool x.isSome]) ∧ LoopLeft w w' b F { s with mac := r } := by
  have := row_take b 3 (fun l => { s with mac := l }) (row_mac b s) s.mac w F h
  dsimp only at this
  rw [e] at this
  exact this
/-- While the next one is looked for: the answer's own block is z. -/
structure NextK (w1 w : World) (b z : Nat) (F : Nat → Prop) (s : Lp) : Prop where
  left : LoopLeft w1 w b F s
  blk : Blk w z 35 [.int .i64 0, .int .i64 0, .int .i64 0, .int .i64 0]
  hz : z < w1.heap.size
  hF : ∀ k, F k → k < z
theorem NextK.open_ (h : NextK w1 w b z F s) : ∃ F2, LoopQ w b s F2 ∧ ∀ w' s', LoopLeft w w' b F2 s' → NextK w1 w' b z F s' := by
  obtain ⟨⟨l1, F2, q2, l2⟩, hb, hz, hF⟩ := h
  refine ⟨F2, q2, fun w' s' h' => ⟨LoopLeft.comp l1 l2 h', hb.keep h'.1 (fun e => ?_), hz, hF⟩⟩
  rcases l2 z e with e2 | e2
  · have := hF z e2
    omega
  · omega
theorem NextK.touch (h : NextK w1 w b z F s) (T : Tch NoBlk w w') : NextK w1 w' b z F s := ⟨h.left.then T, h.blk.keep T (fun h => h), h.hz, h.hF⟩
theorem loop_told0 (h : LoopQ w b s F) : LoopLeft w (w.setCell ⟨b, 1, none⟩ (.int .i64 0)) b F { s with told := 0 } := by
  obtain ⟨o, P, H, hF⟩ := h
  exact H.own hF ((Tch.refl (· = b) w).setCell (p := ⟨b, 1, none⟩) (fun _ => rfl) _) (s' := { s with told := 0 }) ((H.part 0).1.set 1 _) (fun i hi0 hp => by
      match i, hi0, hp with
      | 1, _, hp => exact hp
      | 2, _, hp => exact hp
      | 3, _, hp => exact hp
      | 4, _, hp => exact hp
      | 5, _, hp => exact hp
      | 6, _, hp => exact hp
      | 7, _, hp => exact hp
      | i + 8, _, hp => exact hp) H.sb H.ok.rest
theorem LoopQ.cells (h : LoopQ w b s F) : w.cell? ⟨b, 0, none⟩ = some (.int .i64 s.budget) ∧ w.cell? ⟨b, 1, none⟩ = some (.int .i64 s.told) ∧ w.frozen? ⟨b, 1, none⟩ = false := by
  obtain ⟨o, P, H, hF⟩ := h
  have hb := (H.part 0).1
  exact ⟨hb.cellOf 0 _ rfl, hb.cellOf 1 _ rfl, hb.free 1⟩
end

section
variable {s : Lp} {t : Tk} {m r r2 : List Tk}
theorem nextL_a (hl : s.told < s.budget) (e : takeM s.off s.mic = (some t, r)) : nextL s = (turnL { s with mic := r } t (s.told + 1), some t) := by
  unfold nextL
  rw [if_pos hl, e]
theorem nextL_b (ha : (if s.told < s.budget then takeM s.off s.mic else (none, s.mic)) = (none, m)) (eb : takeM s.off s.mac = (some t, r)) : nextL s = (turnL { s with mic := m, mac := r } t 0, some t) := by
  unfold nextL
  rw [ha, eb]
theorem nextL_c (ha : (if s.told < s.budget then takeM s.off s.mic else (none, s.mic)) = (none, m)) (eb : takeM s.off s.mac = (none, r)) (ec : takeM s.off m = (some t, r2)) : nextL s = (turnL { s with mic := r2, mac := r } t 1, some t) := by
  unfold nextL
  rw [ha]
  dsimp only
  rw [eb]
  dsimp only
  rw [ec]
theorem nextL_d (ha : (if s.told < s.budget then takeM s.off s.mic else (none, s.mic)) = (none, m)) (eb : takeM s.off s.mac = (none, r)) (ec : takeM s.off m = (none, r2)) : nextL s = ({ s with told := 0, mic := r2, mac := r }, none) := by
  unfold nextL
  rw [ha]
  dsimp only
  rw [eb]
  dsimp only
  rw [ec]
theorem fst_of {α β : Type} {p : α × β} {a : α} {b : β} (h : p = (a, b)) : p.1 = a := by rw [h]
end


set_option maxHeartbeats 8000000 in
set_option maxRecDepth 100000 in
theorem loop_next {w : World} {b : Nat} {s : Lp} {F : Nat → Prop} (h : LoopQ w b s F) :
    Calls Tryz.prog 8 #[.pointer (some ⟨b, 0, none⟩)] w fun e w' => e = .returned (.tuple #[tkv ((nextL s).2.getD tk0), .bool (nextL s).2.isSome]) ∧ LoopLeft w w' b F (nextL s).1 := by
  have TA := (Tch.refl NoBlk w).alloc (.cells #[.int .i64 0, .int .i64 0, .int .i64 0, .int .i64 0] 35)
  have hb1 : Blk (w.alloc (.cells #[.int .i64 0, .int .i64 0, .int .i64 0, .int .i64 0] 35)) w.heap.size 35 [.int .i64 0, .int .i64 0, .int .i64 0, .int .i64 0] := heap_alloc_new w _
  have hlt := h.lt
  have h1 := h.keep TA (fun _ _ h => h)
  have hK : NextK (w.alloc (.cells #[.int .i64 0, .int .i64 0, .int .i64 0, .int .i64 0] 35)) (w.alloc (.cells #[.int .i64 0, .int .i64 0, .int .i64 0, .int .i64 0] 35)) b w.heap.size F s := ⟨LoopLeft.same h1, hb1, hb1.lt, hlt⟩
  have c0 := h1.cells
  obtain ⟨c0, c1, _⟩ := c0
  obtain ⟨r, hr⟩ : ∃ r, nextL s = r := ⟨_, rfl⟩
  rw [hr]
  have HR := Lib.hid hr
  have htold := h.ok.told
  have hbud := h.ok.bud
  clear hb1 hlt h1 h hr
  go_enter Tryz.func8, Tryz.ntmps8
  go_wp2_with fail
  generalize w.alloc (.cells #[.int .i64 0, .int .i64 0, .int .i64 0, .int .i64 0] 35) = w1 at *
  generalize hz : w.heap.size = z at *
  have HZ := Lib.hid hz
  have HK := Lib.hid hK
  have HT := Lib.hid TA
  clear hz hK TA
  by_cases hlt : s.told < s.budget
  · have d1 : decide ((s.told : Int) < (s.budget : Int)) = true := by simpa using hlt
    have HL := Lib.hid hlt
    have hwr : IntKind.i64.wrap ((s.told : Int) + 1) = (s.told : Int) + 1 := by rw [IntKind.wrap_i64]; omega
    go_region
    have K2 := HK.out.touch (Tch.refl NoBlk w1).drew
    obtain ⟨F2, q2, hk2⟩ := K2.open_
    generalize w1.drew = wd at *
    obtain ⟨⟨xa, ra⟩, ea⟩ : ∃ p, takeM s.off s.mic = p := ⟨_, rfl⟩
    have EA := Lib.hid ea
    have OK2 := Lib.hid q2.ok
    have Q2 := Lib.hid q2
    have HK2 := Lib.hid hk2
    clear ea q2 hk2 HK K2 c0 c1
    go_wp2_with fail
    refine (take_mic Q2.out EA.out).mono ?_
    rintro e w3 ⟨rfl, h3⟩
    have K3 := Lib.hid (HK2.out _ _ h3)
    clear h3 Q2 HK2
    cases xa with
    | some t =>
      obtain ⟨kd, f, a, tok⟩ := t
      have ET := Lib.hid (OK2.out.mic _ (takeM_some (fst_of EA.out)))
      have EN := Lib.hid (nextL_a HL.out EA.out)
      have K4 := K3.out.touch ((Tch.refl NoBlk w3).alloc (.cells #[.int .i64 kd, .int .i64 f, .int .i64 a, .int .i64 tok] 35))
      have hbt : Blk (w3.alloc (.cells #[.int .i64 kd, .int .i64 f, .int .i64 a, .int .i64 tok] 35)) w3.heap.size 35 [.int .i64 kd, .int .i64 f, .int .i64 a, .int .i64 tok] := heap_alloc_new w3 _
      simp only [Option.getD_some, Option.isSome_some, tkv]
      go_wp2_with fail
      generalize w3.alloc (.cells #[.int .i64 kd, .int .i64 f, .int .i64 a, .int .i64 tok] 35) = w4 at *
      generalize w3.heap.size = zt at *
      have p0 := hbt.cellOf 0 _ rfl
      have p1 := hbt.cellOf 1 _ rfl
      have p2 := hbt.cellOf 2 _ rfl
      have p3 := hbt.cellOf 3 _ rfl
      obtain ⟨F4, q4, _⟩ := K4.open_
      obtain ⟨_, c1, _⟩ := q4.cells
      have K5 := K4.touch (Tch.refl NoBlk w4).drew
      obtain ⟨F5, q5, hk5⟩ := K5.open_
      have ht := loop_turn q5 ⟨kd, f, a, tok⟩ (s.told + 1) ET.out (by omega)
      rw [show ((s.told + 1 : Nat) : Int) = (s.told : Int) + 1 from by omega] at ht
      simp only [tkv] at ht
      have HTU := Lib.hid ht
      have HK5 := Lib.hid hk5
      clear ht hk5 q5 q4 K5 K4 hbt htold hbud
      go_region_law (go_simp; go_at_call 23; refine HTU.out.mono ?_; rintro e w6 ⟨rfl, h6⟩; have HE := Lib.hid (HK5.out _ _ h6); have g0 := HE.out.blk.cellOf 0 _ rfl; have g1 := HE.out.blk.cellOf 1 _ rfl; have g2 := HE.out.blk.cellOf 2 _ rfl; have g3 := HE.out.blk.cellOf 3 _ rfl; have e0 := HE.out.blk.free 0; have e1 := HE.out.blk.free 1; have e2 := HE.out.blk.free 2; have e3 := HE.out.blk.free 3; clear h6)
      all_goals
        go_wp2
        (try simp only [Exit.inBlock, Exit.then])
        have hB := blk_put4 HE.out.blk kd f a tok
        have h9 := left_put4 HE.out.left HT.out (by have hz := HZ.out; omega) HE.out.hz (fun k hk => by have := HE.out.hF k hk; have hz := HZ.out; omega) kd f a tok
        have HB := Lib.hid hB
        have H9 := Lib.hid h9
        clear hB h9 g0 g1 g2 g3 e0 e1 e2 e3 HE
        have HP := ret_tk (fn := Tryz.f8) (p := 2) (u := 3) rfl
        refine bodyPost_ret (HP _ _ z ⟨kd, f, a, tok⟩ rfl HB.out) rfl ?_
        rw [← HR.out, EN.out]
        exact ⟨rfl, H9.out⟩
    | none =>
      have HA : Hid ((if s.told < s.budget then takeM s.off s.mic else (none, s.mic)) = (none, ra)) := Lib.hid (by rw [if_pos HL.out]; exact EA.out)
      simp only [Option.getD_none, Option.isSome_none, tkv, tk0]
      have HKT := Lib.hid (K3.out.touch ((Tch.refl NoBlk w3).alloc (.cells #[.int .i64 0, .int .i64 0, .int .i64 0, .int .i64 0] 35)))
      clear K3 OK2 EA
      -- none of the micro ones is told: world w3.alloc (.cells #[.int .i64 0, .int .i64 0, .int .i64 0, .int .i64 0] 35), they are ra
      obtain ⟨F2, q2, hk2⟩ := HKT.out.open_
      obtain ⟨_, c1, f1⟩ := q2.cells
      have K3 := hk2 _ _ (loop_told0 q2)
      clear q2 hk2 HKT
      go_wp2_with fail
      clear c1 f1
      generalize (w3.alloc (.cells #[.int .i64 0, .int .i64 0, .int .i64 0, .int .i64 0] 35) : World).setCell ⟨b, 1, none⟩ (.int .i64 0) = wt at *
      obtain ⟨F3, q3, hk3⟩ := K3.open_
      obtain ⟨⟨xb, rb⟩, eb⟩ : ∃ p, takeM s.off s.mac = p := ⟨_, rfl⟩
      have EB := Lib.hid eb
      refine (take_mac q3 EB.out).mono ?_
      rintro e w4 ⟨rfl, h4⟩
      have K4 := Lib.hid (hk3 _ _ h4)
      have OK3 := Lib.hid q3.ok
      clear q3 hk3 h4 eb K3
      cases xb with
      | some t =>
        obtain ⟨kd, f, a, tok⟩ := t
        have ET := Lib.hid (OK3.out.mac _ (takeM_some (fst_of EB.out)))
        have EN := Lib.hid (nextL_b HA.out EB.out)
        simp only [Option.getD_some, Option.isSome_some, tkv]
        go_wp2_with fail
        have K5 := K4.out.touch ((Tch.refl NoBlk w4).alloc (.cells #[.int .i64 kd, .int .i64 f, .int .i64 a, .int .i64 tok] 35))
        generalize w4.alloc (.cells #[.int .i64 kd, .int .i64 f, .int .i64 a, .int .i64 tok] 35) = w5 at *
        obtain ⟨F5, q5, hk5⟩ := K5.open_
        refine (loop_turn q5 ⟨kd, f, a, tok⟩ 0 ET.out (by omega)).mono ?_
        rintro e w6 ⟨rfl, h6⟩
        have HE := Lib.hid (hk5 _ _ h6)
        simp only [tkv]
        clear q5 hk5 h6 K5 K4
        -- the answer is laid into its own block, and told: state $S$, task kd, f, a, tok
        have g0 := HE.out.blk.cellOf 0 _ rfl
        have g1 := HE.out.blk.cellOf 1 _ rfl
        have g2 := HE.out.blk.cellOf 2 _ rfl
        have g3 := HE.out.blk.cellOf 3 _ rfl
        have e0 := HE.out.blk.free 0
        have e1 := HE.out.blk.free 1
        have e2 := HE.out.blk.free 2
        have e3 := HE.out.blk.free 3
        go_wp2
        (try simp only [Exit.inBlock, Exit.then])
        refine bodyPost_ret (ret_tk rfl _ _ z ⟨kd, f, a, tok⟩ rfl (blk_put4 HE.out.blk _ _ _ _)) rfl ?_
        have hz := HZ.out
        have h9 := left_put4 HE.out.left HT.out (by omega) HE.out.hz (fun k hk => by have := HE.out.hF k hk; omega)
        rw [← HR.out, EN.out]
        exact ⟨rfl, h9 kd f a tok⟩
      | none =>
        simp only [Option.getD_none, Option.isSome_none, tkv, tk0]
        go_wp2_with fail
        have K5 := K4.out.touch ((Tch.refl NoBlk w4).alloc (.cells #[.int .i64 0, .int .i64 0, .int .i64 0, .int .i64 0] 35))
        generalize w4.alloc (.cells #[.int .i64 0, .int .i64 0, .int .i64 0, .int .i64 0] 35) = w5 at *
        obtain ⟨F5, q5, hk5⟩ := K5.open_
        obtain ⟨⟨xc, rc⟩, ec⟩ : ∃ p, takeM s.off (ra) = p := ⟨_, rfl⟩
        have EC := Lib.hid ec
        refine (take_mic q5 EC.out).mono ?_
        rintro e w6 ⟨rfl, h6⟩
        have K6 := Lib.hid (hk5 _ _ h6)
        have OK5 := Lib.hid q5.ok
        clear q5 hk5 h6 ec K5 K4
        cases xc with
        | some t =>
          obtain ⟨kd, f, a, tok⟩ := t
          have ET := Lib.hid (OK5.out.mic _ (takeM_some (fst_of EC.out)))
          have EN := Lib.hid (nextL_c HA.out EB.out EC.out)
          simp only [Option.getD_some, Option.isSome_some, tkv]
          go_wp2_with fail
          have K7 := K6.out.touch ((Tch.refl NoBlk w6).alloc (.cells #[.int .i64 kd, .int .i64 f, .int .i64 a, .int .i64 tok] 35))
          generalize w6.alloc (.cells #[.int .i64 kd, .int .i64 f, .int .i64 a, .int .i64 tok] 35) = w7 at *
          obtain ⟨F7, q7, hk7⟩ := K7.open_
          refine (loop_turn q7 ⟨kd, f, a, tok⟩ 1 ET.out (by omega)).mono ?_
          rintro e w8 ⟨rfl, h8⟩
          have HE := Lib.hid (hk7 _ _ h8)
          simp only [tkv]
          clear q7 hk7 h8 K7 K6
          -- the answer is laid into its own block, and told: state $S$, task kd, f, a, tok
          have g0 := HE.out.blk.cellOf 0 _ rfl
          have g1 := HE.out.blk.cellOf 1 _ rfl
          have g2 := HE.out.blk.cellOf 2 _ rfl
          have g3 := HE.out.blk.cellOf 3 _ rfl
          have e0 := HE.out.blk.free 0
          have e1 := HE.out.blk.free 1
          have e2 := HE.out.blk.free 2
          have e3 := HE.out.blk.free 3
          go_wp2
          (try simp only [Exit.inBlock, Exit.then])
          refine bodyPost_ret (ret_tk rfl _ _ z ⟨kd, f, a, tok⟩ rfl (blk_put4 HE.out.blk _ _ _ _)) rfl ?_
          have hz := HZ.out
          have h9 := left_put4 HE.out.left HT.out (by omega) HE.out.hz (fun k hk => by have := HE.out.hF k hk; omega)
          rw [← HR.out, EN.out]
          exact ⟨rfl, h9 kd f a tok⟩
        | none =>
          have EN := Lib.hid (nextL_d HA.out EB.out EC.out)
          simp only [Option.getD_none, Option.isSome_none, tkv, tk0]
          have HE := Lib.hid (K6.out.touch ((Tch.refl NoBlk w6).alloc (.cells #[.int .i64 0, .int .i64 0, .int .i64 0, .int .i64 0] 35)))
          clear K6
          -- the answer is laid into its own block, and told: state $S$, task 0, 0, 0, 0
          have g0 := HE.out.blk.cellOf 0 _ rfl
          have g1 := HE.out.blk.cellOf 1 _ rfl
          have g2 := HE.out.blk.cellOf 2 _ rfl
          have g3 := HE.out.blk.cellOf 3 _ rfl
          have e0 := HE.out.blk.free 0
          have e1 := HE.out.blk.free 1
          have e2 := HE.out.blk.free 2
          have e3 := HE.out.blk.free 3
          go_wp2
          (try simp only [Exit.inBlock, Exit.then])
          refine bodyPost_ret (ret_tk rfl _ _ z ⟨0, 0, 0, 0⟩ rfl (blk_put4 HE.out.blk _ _ _ _)) rfl ?_
          have hz := HZ.out
          have h9 := left_put4 HE.out.left HT.out (by omega) HE.out.hz (fun k hk => by have := HE.out.hF k hk; omega)
          rw [← HR.out, EN.out]
          exact ⟨rfl, h9 0 0 0 0⟩
  · have d1 : decide ((s.told : Int) < (s.budget : Int)) = false := by simpa using hlt
    have HA : Hid ((if s.told < s.budget then takeM s.off s.mic else (none, s.mic)) = (none, s.mic)) := Lib.hid (by rw [if_neg hlt])
    go_region
    have HKT := Lib.hid (HK.out.touch (Tch.refl NoBlk w1).drew)
    clear HK c0 c1
    generalize w1.drew = wd at *
    -- none of the micro ones is told: world wd, they are s.mic
    obtain ⟨F2, q2, hk2⟩ := HKT.out.open_
    obtain ⟨_, c1, f1⟩ := q2.cells
    have K3 := hk2 _ _ (loop_told0 q2)
    clear q2 hk2 HKT
    go_wp2_with fail
    clear c1 f1
    generalize (wd : World).setCell ⟨b, 1, none⟩ (.int .i64 0) = wt at *
    obtain ⟨F3, q3, hk3⟩ := K3.open_
    obtain ⟨⟨xb, rb⟩, eb⟩ : ∃ p, takeM s.off s.mac = p := ⟨_, rfl⟩
    have EB := Lib.hid eb
    refine (take_mac q3 EB.out).mono ?_
    rintro e w4 ⟨rfl, h4⟩
    have K4 := Lib.hid (hk3 _ _ h4)
    have OK3 := Lib.hid q3.ok
    clear q3 hk3 h4 eb K3
    cases xb with
    | some t =>
      obtain ⟨kd, f, a, tok⟩ := t
      have ET := Lib.hid (OK3.out.mac _ (takeM_some (fst_of EB.out)))
      have EN := Lib.hid (nextL_b HA.out EB.out)
      simp only [Option.getD_some, Option.isSome_some, tkv]
      go_wp2_with fail
      have K5 := K4.out.touch ((Tch.refl NoBlk w4).alloc (.cells #[.int .i64 kd, .int .i64 f, .int .i64 a, .int .i64 tok] 35))
      generalize w4.alloc (.cells #[.int .i64 kd, .int .i64 f, .int .i64 a, .int .i64 tok] 35) = w5 at *
      obtain ⟨F5, q5, hk5⟩ := K5.open_
      refine (loop_turn q5 ⟨kd, f, a, tok⟩ 0 ET.out (by omega)).mono ?_
      rintro e w6 ⟨rfl, h6⟩
      have HE := Lib.hid (hk5 _ _ h6)
      simp only [tkv]
      clear q5 hk5 h6 K5 K4
      -- the answer is laid into its own block, and told: state $S$, task kd, f, a, tok
      have g0 := HE.out.blk.cellOf 0 _ rfl
      have g1 := HE.out.blk.cellOf 1 _ rfl
      have g2 := HE.out.blk.cellOf 2 _ rfl
      have g3 := HE.out.blk.cellOf 3 _ rfl
      have e0 := HE.out.blk.free 0
      have e1 := HE.out.blk.free 1
      have e2 := HE.out.blk.free 2
      have e3 := HE.out.blk.free 3
      go_wp2
      (try simp only [Exit.inBlock, Exit.then])
      refine bodyPost_ret (ret_tk rfl _ _ z ⟨kd, f, a, tok⟩ rfl (blk_put4 HE.out.blk _ _ _ _)) rfl ?_
      have hz := HZ.out
      have h9 := left_put4 HE.out.left HT.out (by omega) HE.out.hz (fun k hk => by have := HE.out.hF k hk; omega)
      rw [← HR.out, EN.out]
      exact ⟨rfl, h9 kd f a tok⟩
    | none =>
      simp only [Option.getD_none, Option.isSome_none, tkv, tk0]
      go_wp2_with fail
      have K5 := K4.out.touch ((Tch.refl NoBlk w4).alloc (.cells #[.int .i64 0, .int .i64 0, .int .i64 0, .int .i64 0] 35))
      generalize w4.alloc (.cells #[.int .i64 0, .int .i64 0, .int .i64 0, .int .i64 0] 35) = w5 at *
      obtain ⟨F5, q5, hk5⟩ := K5.open_
      obtain ⟨⟨xc, rc⟩, ec⟩ : ∃ p, takeM s.off (s.mic) = p := ⟨_, rfl⟩
      have EC := Lib.hid ec
      refine (take_mic q5 EC.out).mono ?_
      rintro e w6 ⟨rfl, h6⟩
      have K6 := Lib.hid (hk5 _ _ h6)
      have OK5 := Lib.hid q5.ok
      clear q5 hk5 h6 ec K5 K4
      cases xc with
      | some t =>
        obtain ⟨kd, f, a, tok⟩ := t
        have ET := Lib.hid (OK5.out.mic _ (takeM_some (fst_of EC.out)))
        have EN := Lib.hid (nextL_c HA.out EB.out EC.out)
        simp only [Option.getD_some, Option.isSome_some, tkv]
        go_wp2_with fail
        have K7 := K6.out.touch ((Tch.refl NoBlk w6).alloc (.cells #[.int .i64 kd, .int .i64 f, .int .i64 a, .int .i64 tok] 35))
        generalize w6.alloc (.cells #[.int .i64 kd, .int .i64 f, .int .i64 a, .int .i64 tok] 35) = w7 at *
        obtain ⟨F7, q7, hk7⟩ := K7.open_
        refine (loop_turn q7 ⟨kd, f, a, tok⟩ 1 ET.out (by omega)).mono ?_
        rintro e w8 ⟨rfl, h8⟩
        have HE := Lib.hid (hk7 _ _ h8)
        simp only [tkv]
        clear q7 hk7 h8 K7 K6
        -- the answer is laid into its own block, and told: state $S$, task kd, f, a, tok
        have g0 := HE.out.blk.cellOf 0 _ rfl
        have g1 := HE.out.blk.cellOf 1 _ rfl
        have g2 := HE.out.blk.cellOf 2 _ rfl
        have g3 := HE.out.blk.cellOf 3 _ rfl
        have e0 := HE.out.blk.free 0
        have e1 := HE.out.blk.free 1
        have e2 := HE.out.blk.free 2
        have e3 := HE.out.blk.free 3
        go_wp2
        (try simp only [Exit.inBlock, Exit.then])
        refine bodyPost_ret (ret_tk rfl _ _ z ⟨kd, f, a, tok⟩ rfl (blk_put4 HE.out.blk _ _ _ _)) rfl ?_
        have hz := HZ.out
        have h9 := left_put4 HE.out.left HT.out (by omega) HE.out.hz (fun k hk => by have := HE.out.hF k hk; omega)
        rw [← HR.out, EN.out]
        exact ⟨rfl, h9 kd f a tok⟩
      | none =>
        have EN := Lib.hid (nextL_d HA.out EB.out EC.out)
        simp only [Option.getD_none, Option.isSome_none, tkv, tk0]
        have HE := Lib.hid (K6.out.touch ((Tch.refl NoBlk w6).alloc (.cells #[.int .i64 0, .int .i64 0, .int .i64 0, .int .i64 0] 35)))
        clear K6
        -- the answer is laid into its own block, and told: state $S$, task 0, 0, 0, 0
        have g0 := HE.out.blk.cellOf 0 _ rfl
        have g1 := HE.out.blk.cellOf 1 _ rfl
        have g2 := HE.out.blk.cellOf 2 _ rfl
        have g3 := HE.out.blk.cellOf 3 _ rfl
        have e0 := HE.out.blk.free 0
        have e1 := HE.out.blk.free 1
        have e2 := HE.out.blk.free 2
        have e3 := HE.out.blk.free 3
        go_wp2
        (try simp only [Exit.inBlock, Exit.then])
        refine bodyPost_ret (ret_tk rfl _ _ z ⟨0, 0, 0, 0⟩ rfl (blk_put4 HE.out.blk _ _ _ _)) rfl ?_
        have hz := HZ.out
        have h9 := left_put4 HE.out.left HT.out (by omega) HE.out.hz (fun k hk => by have := HE.out.hF k hk; omega)
        rw [← HR.out, EN.out]
        exact ⟨rfl, h9 0 0 0 0⟩
end Go.Proofs.YtipbimbnpikbcaaGreat

/- The promises of a loop; what waits for a time or a promise. -/
namespace Go.Proofs.YtipbimbnpikbcaaGreat
open Go.RowKit

section
variable {w w' : World} {b : Nat} {s s' : Lp} {F : Nat → Prop}
/-- A part of the number j alone, in the blocks that it had. -/
theorem LoopAt.oneSame {o : Pl} {P : Nat → Nat → Prop} (H : LoopAt w b s o P) (hF0 : ∀ k, F k ↔ ∃ i, P i k) (j : Nat) (hj0 : j ≠ 0) (T : Tch (P j) w w') (h0 : lcells s' o = lcells s o) (hj : LPart w' b s' o (P j) j)
    (same : ∀ i, i ≠ 0 → i ≠ j → LPart w' b s o (P i) i → LPart w' b s' o (P i) i) (hs : o.sb.length = s'.str.length) (hok : LOk s') : LoopQ w' b s' F ∧ Tch F w w' := by
  refine ⟨⟨o, P, ⟨fun i => ?_, H.dis, hs, hok⟩, hF0⟩, T.mono (fun k _ e => (hF0 k).2 ⟨j, e⟩)⟩
  by_cases e : i = j
  · subst e
    exact hj
  · have hk := (H.part i).keep T (fun k hk e2 => e (H.dis _ _ _ hk e2))
    by_cases e0 : i = 0
    · subst e0
      exact ⟨by rw [h0]; exact hk.1, hk.2⟩
    · exact same i e0 e hk
theorem loop_value (h : LoopQ w b s F) : ∃ p : Nat, w.cell? ⟨b, 7, none⟩ = some (.pointer (some ⟨p, 0, none⟩)) ∧ ∀ id, Calls Tryz.prog 58 #[.pointer (some ⟨p, 0, none⟩), .int .i64 id] w fun e w' => e = .returned (.tuple #[.int .i64 (valueM s.prs id).1, .bool (valueM s.prs id).2.1, .int .i64 (valueM s.prs id).2.2]) ∧ ∃ n, w' = w.drewN n := by
  obtain ⟨o, P, H, hF⟩ := h
  exact ⟨o.p, (H.part 0).1.cellOf 7 _ rfl, fun id => promise_value o.p s.prs (P 5) id w (H.part 5)⟩
theorem loop_pwaits (h : LoopQ w b s F) : ∃ p : Nat, w.cell? ⟨b, 7, none⟩ = some (.pointer (some ⟨p, 0, none⟩)) ∧ ∀ id, Calls Tryz.prog 59 #[.pointer (some ⟨p, 0, none⟩), .int .i64 id] w fun e w' => e = .returned (.int .i64 (waitsM s.prs id)) ∧ w' = w := by
  obtain ⟨o, P, H, hF⟩ := h
  exact ⟨o.p, (H.part 0).1.cellOf 7 _ rfl, fun id => promise_waits o.p s.prs (P 5) id w (H.part 5)⟩
theorem loop_plen (h : LoopQ w b s F) : ∃ p : Nat, w.cell? ⟨b, 7, none⟩ = some (.pointer (some ⟨p, 0, none⟩)) ∧ Calls Tryz.prog 89 #[.pointer (some ⟨p, 0, none⟩)] w fun e w' => e = .returned (.int .i64 s.prs.length) ∧ w' = w := by
  obtain ⟨o, P, H, hF⟩ := h
  exact ⟨o.p, (H.part 0).1.cellOf 7 _ rfl, promise_len o.p s.prs (P 5) w (H.part 5)⟩
theorem loop_pthen (h : LoopQ w b s F) (id k : Int) (hk : 0 ≤ k ∧ k < (s.wai.length : Int)) : ∃ p : Nat, w.cell? ⟨b, 7, none⟩ = some (.pointer (some ⟨p, 0, none⟩)) ∧ Calls Tryz.prog 61 #[.pointer (some ⟨p, 0, none⟩), .int .i64 id, .int .i64 k] w fun e w' => e = .returned (.tuple #[.int .i64 (thenM s.prs id k).2.1, .bool (thenM s.prs id k).2.2.1, .int .i64 (thenM s.prs id k).2.2.2]) ∧ LoopLeft w w' b F { s with prs := (thenM s.prs id k).1 } := by
  obtain ⟨o, P, H, hF⟩ := h
  refine ⟨o.p, (H.part 0).1.cellOf 7 _ rfl, (promise_then o.p s.prs (P 5) id k w (H.part 5)).mono ?_⟩
  rintro e w' ⟨rfl, hq, T⟩
  obtain ⟨h1, h2⟩ := H.oneSame hF 5 (by decide) T (s' := { s with prs := (thenM s.prs id k).1 }) rfl hq (fun i hi0 hi1 hp => by
    match i, hi0, hi1, hp with
    | 1, _, _, hp => exact hp
    | 2, _, _, hp => exact hp
    | 3, _, _, hp => exact hp
    | 4, _, _, hp => exact hp
    | 6, _, _, hp => exact hp
    | 7, _, _, hp => exact hp
    | i + 8, _, _, hp => exact hp) H.sb (H.ok.thenP id hk)
  exact ⟨rfl, h2, F, h1, fun _ hk => .inl hk⟩
theorem loop_psettle (h : LoopQ w b s F) (id v : Int) : ∃ p : Nat, w.cell? ⟨b, 7, none⟩ = some (.pointer (some ⟨p, 0, none⟩)) ∧ Calls Tryz.prog 57 #[.pointer (some ⟨p, 0, none⟩), .int .i64 id, .int .i64 v] w fun e w' => ToldInts w w' e (settleM s.prs id v).2.1 (settleM s.prs id v).2.2 ∧ LoopQ w' b { s with prs := (settleM s.prs id v).1 } F ∧ Tch F w w' := by
  obtain ⟨o, P, H, hF⟩ := h
  refine ⟨o.p, (H.part 0).1.cellOf 7 _ rfl, (promise_settle o.p s.prs (P 5) id v w (H.part 5)).mono ?_⟩
  rintro e w' ⟨h1, hq, T⟩
  refine ⟨h1, H.oneSame hF 5 (by decide) T (s' := { s with prs := (settleM s.prs id v).1 }) rfl hq (fun i hi0 hi1 hp => ?_) H.sb (H.ok.settled id v)⟩
  match i, hi0, hi1, hp with
  | 1, _, _, hp => exact hp
  | 2, _, _, hp => exact hp
  | 3, _, _, hp => exact hp
  | 4, _, _, hp => exact hp
  | 6, _, _, hp => exact hp
  | 7, _, _, hp => exact hp
  | i + 8, _, _, hp => exact hp
/-- One that waits is read. -/
theorem LoopQ.wait (h : LoopQ w b s F) {k : Nat} (hk : k < s.wai.length) : ∃ g off c, w.cell? ⟨b, 5, none⟩ = some (.slice (some ⟨g, off, none⟩) s.wai.length c) ∧ s.wai.length ≤ c ∧ c ≤ 9223372036854775807 ∧
    w.cell? ⟨g, off + k * 4, none⟩ = some (.int .i64 (getL s k).kind) ∧ w.cell? ⟨g, off + k * 4 + 1, none⟩ = some (.int .i64 (getL s k).fn) ∧ w.cell? ⟨g, off + k * 4 + 2, none⟩ = some (.int .i64 (getL s k).arg) ∧ w.cell? ⟨g, off + k * 4 + 3, none⟩ = some (.int .i64 (getL s k).tok) := by
  obtain ⟨o, P, H, hF⟩ := h
  have hr := (H.part 3).1
  obtain ⟨g, off, e1, _, hc⟩ := hr.cells (by omega)
  have c5 := (H.part 0).1.cellOf 5 _ rfl
  rw [e1] at c5
  obtain ⟨t0, t1, t2, t3⟩ := tks_get s.wai k hk
  have ek : getL s (k : Int) = s.wai.getD k tk0 := by simp [getL]
  rw [ek]
  exact ⟨g, off, o.c3, c5, hr.cap_le.1, hr.cap_le.2, hc _ _ t0, hc _ _ t1, hc _ _ t2, hc _ _ t3⟩
end
end Go.Proofs.YtipbimbnpikbcaaGreat
