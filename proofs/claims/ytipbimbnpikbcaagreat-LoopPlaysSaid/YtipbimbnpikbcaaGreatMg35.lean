import Derived.Test.YtipbimbnpikbcaaGreatMg32
import Derived.Test.YtipbimbnpikbcaaGreatMg34
/- The document's loop: moves, Write, Read, Settle. -/
namespace Go.Proofs.YtipbimbnpikbcaaGreat
open Go.RowKit

section
variable {w w' : World} {b : Nat} {s s' : Lp} {F : Nat → Prop} {o o' : RPl} {P : Nat → Nat → Prop}
/-- One part j, and the loop's own cells, are others; where the loop lies then. -/
theorem RLoopAt.updF (H : RLoopAt w b s o P) (hF0 : ∀ k, F k ↔ ∃ i, P i k) (j : Nat) (hj0 : j ≠ 0) {F' : Nat → Prop} (T : Tch (fun k => P 0 k ∨ P j k) w w') (h0 : Blk w' b 58 (rcells s' o')) (hj : RPart w' b s' o' F' j) (hF : ∀ k, F' k → P j k ∨ w.heap.size ≤ k)
    (same : ∀ i, i ≠ 0 → i ≠ j → RSame s o s' o' i) (hs : o'.sb.length = s'.str.length) (hok : LOk s') : Tch F w w' ∧ ∃ F2, RLoopQ w' b s' F2 ∧ ∀ k, F2 k → F' k ∨ F k := by
  refine ⟨T.mono (fun k _ e => (hF0 k).2 (e.elim (fun e => ⟨_, e⟩) (fun e => ⟨_, e⟩))), fun k => ∃ i, (if i = j then F' k else P i k), ⟨o', fun i k => if i = j then F' k else P i k, ⟨fun i => ?_, fun i i' k h1 h2 => ?_, hs, hok⟩, fun k => Iff.rfl⟩, fun k hk => ?_⟩
  · by_cases e : i = j
    · subst e
      simp only [if_true]
      exact hj
    · simp only [if_neg e]
      by_cases e0 : i = 0
      · subst e0
        exact ⟨h0, (H.part 0).2⟩
      · exact (H.part i).keepB T (fun k hk e2 => e2.elim (fun e2 => e0 (H.dis _ _ _ hk e2)) (fun e2 => e (H.dis _ _ _ hk e2))) h0 (same i e0 e)
  · try dsimp only at h1 h2
    by_cases e : i = j <;> by_cases e' : i' = j
    · rw [e, e']
    · rw [if_pos e] at h1
      rw [if_neg e'] at h2
      rcases hF k h1 with h1 | h1
      · rw [e]; exact H.dis _ _ _ h1 h2
      · have := (H.part i').lt k h2
        omega
    · rw [if_neg e] at h1
      rw [if_pos e'] at h2
      rcases hF k h2 with h2 | h2
      · rw [e']; exact H.dis _ _ _ h1 h2
      · have := (H.part i).lt k h1
        omega
    · rw [if_neg e] at h1
      rw [if_neg e'] at h2
      exact H.dis _ _ _ h1 h2
  · obtain ⟨i, hi⟩ := hk
    try dsimp only at hi
    by_cases e : i = j
    · rw [if_pos e] at hi
      exact .inl hi
    · rw [if_neg e] at hi
      exact .inr ((hF0 k).2 ⟨_, hi⟩)
/-- A stream of the document's loop, by itself. -/
theorem rl_str (h : RLoopQ w b s F) {i : Nat} (hi : i < s.str.length) : ∃ (q g c : Nat) (Fq : Nat → Prop), w.cell? ⟨b, 11, none⟩ = some (.slice (some ⟨g, 0, none⟩) s.str.length c) ∧ s.str.length ≤ c ∧ c ≤ 9223372036854775807 ∧ w.cell? ⟨g, i, none⟩ = some (.pointer (some ⟨q, 0, none⟩)) ∧
    RefStrQ w q (s.str.getD i (0, ⟨[], [], []⟩)).1 (s.str.getD i (0, ⟨[], [], []⟩)).2 Fq ∧ (s.str.getD i (0, ⟨[], [], []⟩)).1 ≤ 32 ∧ (∀ k, Fq k → F k) ∧
    ∀ w' st F', Tch Fq w w' → RefStrQ w' q (s.str.getD i (0, ⟨[], [], []⟩)).1 st F' → (∀ k, F' k → Fq k ∨ w.heap.size ≤ k) → Tch F w w' ∧ ∃ F2, RLoopQ w' b { s with str := s.str.set i ((s.str.getD i (0, ⟨[], [], []⟩)).1, st) } F2 ∧ ∀ k, F2 k → F' k ∨ F k := by
  obtain ⟨o, P, H, hF⟩ := h
  have h7 := (H.part 7).1
  have hsb := H.sb
  obtain ⟨g, eA, _, hc⟩ := h7.cells (by omega)
  have c9 := (H.part 0).1.cellOf 11 _ rfl
  rw [eA] at c9
  have hq : i < o.sb.length := by omega
  have e1 : o.sb[i]? = some (o.sb[i]) := List.getElem?_eq_getElem hq
  have e2 : s.str[i]? = some (s.str.getD i (0, ⟨[], [], []⟩)) := by simp [List.getD_eq_getElem?_getD, hi]
  have hp : RSPart w (P (i + 8)) o.sb[i]? s.str[i]? := H.part (i + 8)
  rw [e1, e2] at hp
  refine ⟨o.sb[i], g, o.c4, P (i + 8), c9, h7.cap_le.1, h7.cap_le.2, hc i _ (by simp [ptr, hq]), hp.1, hp.2, fun k hk => (hF k).2 ⟨_, hk⟩, fun w' st F' T hst hF' => ?_⟩
  have hnb : ¬ P (i + 8) b := H.nb (by omega)
  refine H.updF hF (i + 8) (by omega) (F' := F') (s' := { s with str := s.str.set i ((s.str.getD i (0, ⟨[], [], []⟩)).1, st) }) (o' := o) (T.mono (fun k _ e => .inr e)) ?_ ?_ hF' (fun j hj0 hj1 => ?_) (by simp [hsb]) (H.ok.strs (by simp; exact H.ok.str))
  · have := (H.part 0).1.keep T hnb
    simpa [rcells] using this
  · show RSPart w' _ o.sb[i]? (s.str.set i _)[i]?
    rw [e1, List.getElem?_set_self hi]
    exact ⟨hst, hp.2⟩
  · match j, hj0, hj1 with
    | 1, _, _ => exact ⟨rfl, rfl, rfl, rfl⟩
    | 2, _, _ => exact ⟨rfl, rfl, rfl, rfl⟩
    | 3, _, _ => exact ⟨rfl, rfl, rfl, rfl⟩
    | 4, _, _ => exact ⟨rfl, rfl, rfl, rfl⟩
    | 5, _, _ => exact ⟨rfl, rfl⟩
    | 6, _, _ => exact ⟨rfl, rfl, rfl, rfl⟩
    | 7, _, _ => exact ⟨by simp, rfl, rfl, rfl, rfl⟩
    | j + 8, _, hj1 => exact ⟨rfl, by show (s.str.set i _)[j]? = _; rw [List.getElem?_set_ne (by omega)]⟩
theorem rl_plen (h : RLoopQ w b s F) : ∃ A c, w.cell? ⟨b, 8, none⟩ = some (.slice A s.prs.length c) := by
  obtain ⟨o, P, H, hF⟩ := h
  obtain ⟨A, c, h1, _⟩ := H.prs.lenOf
  exact ⟨A, c, (H.part 0).1.cellOf 8 _ h1⟩
theorem rl_settle (h : RLoopQ w b s F) (id v : Int) (hn : s.mic.length + (settleM s.prs id v).2.1.length < 1000000) :
    Calls Tryz.prog 41 #[.pointer (some ⟨b, 0, none⟩), .int .i64 id, .int .i64 v] w fun e w' => e = .returned (.int .i64 (settleL s id v).2) ∧ RLeft w w' b F (settleL s id v).1 := by
  have hm := rl_tell h id v hn
  generalize settleL s id v = R at *
  have HM := Lib.hid hm
  clear hm hn h
  go_enter Tryz.func41, Tryz.ntmps41
  go_wp2_with fail
  refine HM.out.mono ?_
  rintro e w2 ⟨rfl, h2⟩
  go_wp2
  go_ret
  exact ⟨rfl, h2⟩
end
/-- While the promises are told. -/
structure RMvK (w2 wr : World) (b : Nat) (F : Nat → Prop) (s : Lp) (out : List (Int × Int)) (j : Nat) (A : Option Addr) (cap : Nat) (G : Option Nat) : Prop where
  left : RLeft w2 wr b F (settlesL s (out.take j))
  sl : Sl wr 144 2 A out.length cap (gots out) G
set_option maxHeartbeats 4000000 in
set_option maxRecDepth 100000 in
theorem rl_moves_read {w : World} {b : Nat} {s : Lp} {F : Nat → Prop} (h : RLoopQ w b s F) (hF0 : ∀ k, F k → k < w.heap.size) (id : Int) (hn : loadL s < 1000000)  :
    Calls Tryz.prog 77 #[.pointer (some ⟨b, 0, none⟩), .int .i64 id, .int .i64 0, .bool true] w fun e w' => e = .returned (.tuple #[.int .i64 (readL s id).2.1, .int .i64 (readL s id).2.2]) ∧ RLeft w w' b F (readL s id).1 := by
  obtain ⟨R, hR⟩ : ∃ R, readL s id = R := ⟨_, rfl⟩
  rw [hR]
  have HR := Lib.hid hR
  have HQ := Lib.hid h
  clear hR
  by_cases ho : id < 0 ∨ (s.str.length : Int) ≤ id
  · have E1 := Lib.hid (show (s, 0, 2) = R by have := HR.out; simpa [readL, movesL, ho] using this)
    obtain ⟨o, P, H, hF⟩ := h
    have c11 := (H.part 0).1.cellOf 11 _ rfl
    clear HR H hF
    by_cases h0 : id < 0
    · have d1 : decide (id < 0) = true := by simpa using h0
      clear ho
      go_enter Tryz.func77, Tryz.ntmps77
      go_wp2
      go_ret2
      rw [← E1.out]
      exact ⟨rfl, RLeft.same HQ.out⟩
    · have d1 : decide (id < 0) = false := by simpa using h0
      have d2 : (s.str.length : Int) ≤ id := by omega
      clear ho
      go_enter Tryz.func77, Tryz.ntmps77
      go_wp2
      go_ret2
      rw [← E1.out]
      exact ⟨rfl, RLeft.same HQ.out⟩
  · obtain ⟨i, rfl⟩ := Int.eq_ofNat_of_zero_le (show 0 ≤ id by omega)
    have hi : i < s.str.length := by omega
    have d1 : decide ((i : Int) < 0) = false := by simp
    have d2 : ¬ ((s.str.length : Int) ≤ (i : Int)) := by omega
    have d3 : (i : Int) < (s.str.length : Int) := by omega
    obtain ⟨q, g, c, Fq, c11, hc1, hc2, cq, hq, hr32, hqF, hset⟩ := rl_str h hi
    obtain ⟨pA, pc, c8⟩ := rl_plen h
    by_cases hl : 512 ≤ s.prs.length
    · have E1 := Lib.hid (show (s, 0, 3) = R by
        have := HR.out
        simp only [readL, movesL] at this
        rw [if_neg ho, if_pos hl] at this
        exact this)
      have hlI : (512 : Int) ≤ (s.prs.length : Int) := by omega
      clear HR ho hq hr32 hqF hset hi cq
      go_enter Tryz.func77, Tryz.ntmps77
      go_wp2
      go_ret2
      rw [← E1.out]
      exact ⟨rfl, RLeft.same HQ.out⟩
    · have hlI : ¬ ((512 : Int) ≤ (s.prs.length : Int)) := by omega
      generalize hx : s.str.getD i (0, ⟨[], [], []⟩) = x at *
      have hdoes := refstr_read q x.1 x.2 Fq (s.prs.length : Int) w hq hr32
      obtain ⟨en, he⟩ : ∃ en, (readM x.2 s.prs.length).2.2 = en := ⟨_, rfl⟩
      obtain ⟨out, hout⟩ : ∃ out, (readM x.2 s.prs.length).2.1 = out := ⟨_, rfl⟩
      obtain ⟨st, hst⟩ : ∃ st, (readM x.2 s.prs.length).1 = st := ⟨_, rfl⟩
      unfold RefLeft at hdoes
      rw [he, hout, hst] at hdoes
      have hlN : s.prs.length < 512 := by omega
      have E0 := Lib.hid (show (if en ≠ 0 then ({ s with str := s.str.set i (x.1, st) }, 0, en) else (settlesL (promiseL { s with str := s.str.set i (x.1, st) }).1 out, s.prs.length, 0)) = R by
        have := HR.out
        simp only [readL, movesL] at this
        rw [if_neg ho, if_neg hl, show ((i : Int)).toNat = i from rfl, hx] at this
        try dsimp only at this
        rw [he, hout, hst] at this
        exact this)
      have HD := Lib.hid hdoes
      have HSET := Lib.hid hset
      have HN := Lib.hid hn
      have HF0 := Lib.hid hF0
      have HHN := Lib.hid hlN
      have HQF := Lib.hid hqF
      clear HR ho hq hr32 hqF hset hdoes hi hx he hout hst hl hn hF0 h hlN
      go_enter Tryz.func77, Tryz.ntmps77
      go_wp2_with fail
      refine HD.out.mono ?_
      rintro e wc ⟨⟨A, cap, G, rfl, hsl, hG⟩, hT3, F', hq3, hF3, hap⟩
      obtain ⟨t1, F1, q1, l1⟩ := HSET.out wc st F' hT3 hq3 hF3
      have hap := hap A _ _ _ rfl
      rw [hsl.blk] at hap
      have hg1 : ∀ g, G = some g → ¬ F1 g := fun g hg e => by
        rcases l1 g e with h2 | h2
        · exact hap g hg h2
        · have := hG g hg
          have := HF0.out g h2
          omega
      have hl1 : ∀ k, F1 k → F k ∨ w.heap.size ≤ k := fun k hk => by
        rcases l1 k hk with h2 | h2
        · exact (hF3 k h2).imp_left (HQF.out k)
        · exact .inl h2
      have hcap := hsl.cap_le
      have HSL := Lib.hid hsl
      have HG := Lib.hid hG
      have HT1 := Lib.hid t1
      have HL1 := Lib.hid hl1
      have HQ1 := Lib.hid q1
      have HG1 := Lib.hid hg1
      clear hsl hG hq3 hT3 hF3 t1 q1 l1 hap hg1 hl1 HD HSET cq c11 c8 HQF
      by_cases hen : en = 0
      · have hpr : promiseL { s with str := s.str.set i (x.1, st) } = ((promiseL { s with str := s.str.set i (x.1, st) }).1, s.prs.length, 0) := by
          have := HHN.out
          unfold promiseL makeM
          dsimp only
          rw [if_neg (by omega)]
        have E1 : Hid ((settlesL (promiseL { s with str := s.str.set i (x.1, st) }).1 out, s.prs.length, 0) = R) := Lib.hid (by have := E0.out; rw [if_neg (by simpa using hen)] at this; exact this)
        have hP := rl_pmake HQ1.out
        rw [hpr] at hP
        have hld : loadL (promiseL { s with str := s.str.set i (x.1, st) }).1 < 1000000 := by rw [loadL_promise]; exact HN.out
        generalize (promiseL { s with str := s.str.set i (x.1, st) }).1 = s2 at *
        have HP := Lib.hid hP
        have HLD := Lib.hid hld
        clear hP hpr hld E0 HHN HQ1
        subst hen
        go_wp2_with fail
        refine HP.out.mono ?_
        rintro e w4 ⟨rfl, h4⟩
        have hsl4 := HSL.out.keep h4.1 (fun g hg e => HG1.out g hg e)
        obtain ⟨t4, F4, q4, l4⟩ := h4
        have hgF : ∀ g, G = some g → ¬ F4 g := fun g hg e => by
          have h3 := HSL.out.lt g hg
          rcases l4 g e with h2 | h2
          · exact HG1.out g hg h2
          · omega
        have hgl : ∀ g, G = some g → g < w4.heap.size := fun g hg => hsl4.lt g hg
        have HK : Hid (RMvK w4 w4 b F4 s2 out 0 A cap G) := Lib.hid ⟨by have := RLeft.same q4; simpa [settlesL] using this, hsl4⟩
        have HGF := Lib.hid hgF
        have HGL := Lib.hid hgl
        have HT4 := Lib.hid t4
        have HL4 := Lib.hid l4
        clear HP hsl4 t4 q4 l4 hgF hgl HSL HG HG1
        go_wp2_with fail
        go_loopw [13] (fun y wr => ∃ j : Nat, y = .int .i64 j ∧ j ≤ out.length ∧ RMvK w4 wr b F4 s2 out j A cap G) (fun y _ => out.length - (intOf y).toNat)
        case atStart => exact ⟨0, rfl, Nat.zero_le _, HK.out⟩
        case round =>
          clear HK
          obtain ⟨j, rfl, hj, hK⟩ := hrel
          by_cases hjl : j < out.length
          · have hjI : (j : Int) < (out.length : Int) := by omega
            obtain ⟨gg, rfl, rfl, hcl⟩ := hK.sl.cells (by omega)
            obtain ⟨g0, g1⟩ := gots_get out j hjl
            have cj0 := hcl _ _ g0
            have cj1 := hcl _ _ g1
            have hnx : settlesL s2 (out.take (j + 1)) = (settleL (settlesL s2 (out.take j)) (out.getD j (0, 0)).1 (out.getD j (0, 0)).2).1 := by
              rw [List.take_add_one, List.getElem?_eq_getElem hjl]
              simp only [Option.toList_some]
              rw [settlesL_snoc]
              simp [List.getD_eq_getElem?_getD, hjl]
            have hset : ∀ id v, (settlesL s2 (out.take j)).mic.length + (settleM (settlesL s2 (out.take j)).prs id v).2.1.length < 1000000 := fun id v => by
              have h1 := settle_le (settlesL s2 (out.take j)) id v
              rw [loadL_settles] at h1
              have := HLD.out
              omega
            generalize out.getD j (0, 0) = pp at *
            obtain ⟨pw, pv⟩ := pp
            dsimp only at cj0 cj1 hnx
            obtain ⟨l1, F3, q3, l3⟩ := hK.left
            have hST := rl_tell (q3.keep (Tch.refl NoBlk wr).drew (fun _ _ h => h)) pw pv (hset pw pv)
            have HST := Lib.hid hST
            have HL1 := Lib.hid l1
            have HL3 := Lib.hid l3
            have HSL := Lib.hid hK.sl
            have HNX := Lib.hid hnx
            have HJ := Lib.hid hjl
            clear hK q3 l1 l3 hST hset hnx hcl g0 g1 hj
            go_wp2_with fail
            go_region_law (go_simp; go_at_call 72; refine HST.out.mono ?_; rintro e w6 ⟨rfl, h6⟩; have H6 := Lib.hid h6; clear h6)
            all_goals
              have h6 := H6.out
              have hlf := RLeft.comp HL1.out HL3.out (h6.ahead (Tch.refl NoBlk wr).drew)
              rw [← HNX.out] at hlf
              have hslf := (HSL.out.keep (Tch.refl NoBlk wr).drew (fun _ _ h => h)).keep h6.1 (fun g' e hf => by
                rcases HL3.out g' hf with h3 | h3
                · exact HGF.out g' e h3
                · have := HGL.out g' e
                  omega)
              have HLF := Lib.hid hlf
              have HSF := Lib.hid hslf
              clear hlf hslf h6 H6 HST cj0 cj1
              go_wp2
              go_roundw
              case rel => exact ⟨j + 1, num (by omega), HJ.out, ⟨HLF.out, HSF.out⟩⟩
              case measure => simp [intOf]; omega
          · have hjI : ¬ ((j : Int) < (out.length : Int)) := by omega
            have hje : j = out.length := by omega
            have HL : Hid (RLeft w4 wr b F4 (settlesL s2 out)) := Lib.hid (by have := hK.left; rw [hje, List.take_of_length_le (Nat.le_refl _)] at this; exact this)
            clear hK hj hjl hje
            go_wp2
            go_ret2
            rw [← E1.out]
            refine ⟨rfl, ?_⟩
            exact RLeft.comp HT1.out HL1.out (RLeft.comp HT4.out HL4.out HL.out)
      · have E1 := Lib.hid (show ({ s with str := s.str.set i (x.1, st) }, 0, en) = R by have := E0.out; rw [if_pos hen] at this; exact this)
        clear E0
        go_wp2
        go_ret2
        rw [← E1.out]
        exact ⟨rfl, HT1.out, F1, HQ1.out, HL1.out⟩
set_option maxHeartbeats 4000000 in
set_option maxRecDepth 100000 in
theorem rl_moves_write {w : World} {b : Nat} {s : Lp} {F : Nat → Prop} (h : RLoopQ w b s F) (hF0 : ∀ k, F k → k < w.heap.size) (id : Int) (hn : loadL s < 1000000) (v : Int) :
    Calls Tryz.prog 77 #[.pointer (some ⟨b, 0, none⟩), .int .i64 id, .int .i64 v, .bool false] w fun e w' => e = .returned (.tuple #[.int .i64 (writeL s id v).2.1, .int .i64 (writeL s id v).2.2]) ∧ RLeft w w' b F (writeL s id v).1 := by
  obtain ⟨R, hR⟩ : ∃ R, writeL s id v = R := ⟨_, rfl⟩
  rw [hR]
  have HR := Lib.hid hR
  have HQ := Lib.hid h
  clear hR
  by_cases ho : id < 0 ∨ (s.str.length : Int) ≤ id
  · have E1 := Lib.hid (show (s, 0, 2) = R by have := HR.out; simpa [writeL, movesL, ho] using this)
    obtain ⟨o, P, H, hF⟩ := h
    have c11 := (H.part 0).1.cellOf 11 _ rfl
    clear HR H hF
    by_cases h0 : id < 0
    · have d1 : decide (id < 0) = true := by simpa using h0
      clear ho
      go_enter Tryz.func77, Tryz.ntmps77
      go_wp2
      go_ret2
      rw [← E1.out]
      exact ⟨rfl, RLeft.same HQ.out⟩
    · have d1 : decide (id < 0) = false := by simpa using h0
      have d2 : (s.str.length : Int) ≤ id := by omega
      clear ho
      go_enter Tryz.func77, Tryz.ntmps77
      go_wp2
      go_ret2
      rw [← E1.out]
      exact ⟨rfl, RLeft.same HQ.out⟩
  · obtain ⟨i, rfl⟩ := Int.eq_ofNat_of_zero_le (show 0 ≤ id by omega)
    have hi : i < s.str.length := by omega
    have d1 : decide ((i : Int) < 0) = false := by simp
    have d2 : ¬ ((s.str.length : Int) ≤ (i : Int)) := by omega
    have d3 : (i : Int) < (s.str.length : Int) := by omega
    obtain ⟨q, g, c, Fq, c11, hc1, hc2, cq, hq, hr32, hqF, hset⟩ := rl_str h hi
    obtain ⟨pA, pc, c8⟩ := rl_plen h
    by_cases hl : 512 ≤ s.prs.length
    · have E1 := Lib.hid (show (s, 0, 3) = R by
        have := HR.out
        simp only [writeL, movesL] at this
        rw [if_neg ho, if_pos hl] at this
        exact this)
      have hlI : (512 : Int) ≤ (s.prs.length : Int) := by omega
      clear HR ho hq hr32 hqF hset hi cq
      go_enter Tryz.func77, Tryz.ntmps77
      go_wp2
      go_ret2
      rw [← E1.out]
      exact ⟨rfl, RLeft.same HQ.out⟩
    · have hlI : ¬ ((512 : Int) ≤ (s.prs.length : Int)) := by omega
      generalize hx : s.str.getD i (0, ⟨[], [], []⟩) = x at *
      have hdoes := refstr_write q x.1 x.2 Fq v (s.prs.length : Int) w hq hr32
      obtain ⟨en, he⟩ : ∃ en, (writeM x.1 x.2 v s.prs.length).2.2 = en := ⟨_, rfl⟩
      obtain ⟨out, hout⟩ : ∃ out, (writeM x.1 x.2 v s.prs.length).2.1 = out := ⟨_, rfl⟩
      obtain ⟨st, hst⟩ : ∃ st, (writeM x.1 x.2 v s.prs.length).1 = st := ⟨_, rfl⟩
      unfold RefLeft at hdoes
      rw [he, hout, hst] at hdoes
      have hlN : s.prs.length < 512 := by omega
      have E0 := Lib.hid (show (if en ≠ 0 then ({ s with str := s.str.set i (x.1, st) }, 0, en) else (settlesL (promiseL { s with str := s.str.set i (x.1, st) }).1 out, s.prs.length, 0)) = R by
        have := HR.out
        simp only [writeL, movesL] at this
        rw [if_neg ho, if_neg hl, show ((i : Int)).toNat = i from rfl, hx] at this
        try dsimp only at this
        rw [he, hout, hst] at this
        exact this)
      have HD := Lib.hid hdoes
      have HSET := Lib.hid hset
      have HN := Lib.hid hn
      have HF0 := Lib.hid hF0
      have HHN := Lib.hid hlN
      have HQF := Lib.hid hqF
      clear HR ho hq hr32 hqF hset hdoes hi hx he hout hst hl hn hF0 h hlN
      go_enter Tryz.func77, Tryz.ntmps77
      go_wp2_with fail
      refine HD.out.mono ?_
      rintro e wc ⟨⟨A, cap, G, rfl, hsl, hG⟩, hT3, F', hq3, hF3, hap⟩
      obtain ⟨t1, F1, q1, l1⟩ := HSET.out wc st F' hT3 hq3 hF3
      have hap := hap A _ _ _ rfl
      rw [hsl.blk] at hap
      have hg1 : ∀ g, G = some g → ¬ F1 g := fun g hg e => by
        rcases l1 g e with h2 | h2
        · exact hap g hg h2
        · have := hG g hg
          have := HF0.out g h2
          omega
      have hl1 : ∀ k, F1 k → F k ∨ w.heap.size ≤ k := fun k hk => by
        rcases l1 k hk with h2 | h2
        · exact (hF3 k h2).imp_left (HQF.out k)
        · exact .inl h2
      have hcap := hsl.cap_le
      have HSL := Lib.hid hsl
      have HG := Lib.hid hG
      have HT1 := Lib.hid t1
      have HL1 := Lib.hid hl1
      have HQ1 := Lib.hid q1
      have HG1 := Lib.hid hg1
      clear hsl hG hq3 hT3 hF3 t1 q1 l1 hap hg1 hl1 HD HSET cq c11 c8 HQF
      by_cases hen : en = 0
      · have hpr : promiseL { s with str := s.str.set i (x.1, st) } = ((promiseL { s with str := s.str.set i (x.1, st) }).1, s.prs.length, 0) := by
          have := HHN.out
          unfold promiseL makeM
          dsimp only
          rw [if_neg (by omega)]
        have E1 : Hid ((settlesL (promiseL { s with str := s.str.set i (x.1, st) }).1 out, s.prs.length, 0) = R) := Lib.hid (by have := E0.out; rw [if_neg (by simpa using hen)] at this; exact this)
        have hP := rl_pmake HQ1.out
        rw [hpr] at hP
        have hld : loadL (promiseL { s with str := s.str.set i (x.1, st) }).1 < 1000000 := by rw [loadL_promise]; exact HN.out
        generalize (promiseL { s with str := s.str.set i (x.1, st) }).1 = s2 at *
        have HP := Lib.hid hP
        have HLD := Lib.hid hld
        clear hP hpr hld E0 HHN HQ1
        subst hen
        go_wp2_with fail
        refine HP.out.mono ?_
        rintro e w4 ⟨rfl, h4⟩
        have hsl4 := HSL.out.keep h4.1 (fun g hg e => HG1.out g hg e)
        obtain ⟨t4, F4, q4, l4⟩ := h4
        have hgF : ∀ g, G = some g → ¬ F4 g := fun g hg e => by
          have h3 := HSL.out.lt g hg
          rcases l4 g e with h2 | h2
          · exact HG1.out g hg h2
          · omega
        have hgl : ∀ g, G = some g → g < w4.heap.size := fun g hg => hsl4.lt g hg
        have HK : Hid (RMvK w4 w4 b F4 s2 out 0 A cap G) := Lib.hid ⟨by have := RLeft.same q4; simpa [settlesL] using this, hsl4⟩
        have HGF := Lib.hid hgF
        have HGL := Lib.hid hgl
        have HT4 := Lib.hid t4
        have HL4 := Lib.hid l4
        clear HP hsl4 t4 q4 l4 hgF hgl HSL HG HG1
        go_wp2_with fail
        go_loopw [13] (fun y wr => ∃ j : Nat, y = .int .i64 j ∧ j ≤ out.length ∧ RMvK w4 wr b F4 s2 out j A cap G) (fun y _ => out.length - (intOf y).toNat)
        case atStart => exact ⟨0, rfl, Nat.zero_le _, HK.out⟩
        case round =>
          clear HK
          obtain ⟨j, rfl, hj, hK⟩ := hrel
          by_cases hjl : j < out.length
          · have hjI : (j : Int) < (out.length : Int) := by omega
            obtain ⟨gg, rfl, rfl, hcl⟩ := hK.sl.cells (by omega)
            obtain ⟨g0, g1⟩ := gots_get out j hjl
            have cj0 := hcl _ _ g0
            have cj1 := hcl _ _ g1
            have hnx : settlesL s2 (out.take (j + 1)) = (settleL (settlesL s2 (out.take j)) (out.getD j (0, 0)).1 (out.getD j (0, 0)).2).1 := by
              rw [List.take_add_one, List.getElem?_eq_getElem hjl]
              simp only [Option.toList_some]
              rw [settlesL_snoc]
              simp [List.getD_eq_getElem?_getD, hjl]
            have hset : ∀ id v, (settlesL s2 (out.take j)).mic.length + (settleM (settlesL s2 (out.take j)).prs id v).2.1.length < 1000000 := fun id v => by
              have h1 := settle_le (settlesL s2 (out.take j)) id v
              rw [loadL_settles] at h1
              have := HLD.out
              omega
            generalize out.getD j (0, 0) = pp at *
            obtain ⟨pw, pv⟩ := pp
            dsimp only at cj0 cj1 hnx
            obtain ⟨l1, F3, q3, l3⟩ := hK.left
            have hST := rl_tell (q3.keep (Tch.refl NoBlk wr).drew (fun _ _ h => h)) pw pv (hset pw pv)
            have HST := Lib.hid hST
            have HL1 := Lib.hid l1
            have HL3 := Lib.hid l3
            have HSL := Lib.hid hK.sl
            have HNX := Lib.hid hnx
            have HJ := Lib.hid hjl
            clear hK q3 l1 l3 hST hset hnx hcl g0 g1 hj
            go_wp2_with fail
            go_region_law (go_simp; go_at_call 72; refine HST.out.mono ?_; rintro e w6 ⟨rfl, h6⟩; have H6 := Lib.hid h6; clear h6)
            all_goals
              have h6 := H6.out
              have hlf := RLeft.comp HL1.out HL3.out (h6.ahead (Tch.refl NoBlk wr).drew)
              rw [← HNX.out] at hlf
              have hslf := (HSL.out.keep (Tch.refl NoBlk wr).drew (fun _ _ h => h)).keep h6.1 (fun g' e hf => by
                rcases HL3.out g' hf with h3 | h3
                · exact HGF.out g' e h3
                · have := HGL.out g' e
                  omega)
              have HLF := Lib.hid hlf
              have HSF := Lib.hid hslf
              clear hlf hslf h6 H6 HST cj0 cj1
              go_wp2
              go_roundw
              case rel => exact ⟨j + 1, num (by omega), HJ.out, ⟨HLF.out, HSF.out⟩⟩
              case measure => simp [intOf]; omega
          · have hjI : ¬ ((j : Int) < (out.length : Int)) := by omega
            have hje : j = out.length := by omega
            have HL : Hid (RLeft w4 wr b F4 (settlesL s2 out)) := Lib.hid (by have := hK.left; rw [hje, List.take_of_length_le (Nat.le_refl _)] at this; exact this)
            clear hK hj hjl hje
            go_wp2
            go_ret2
            rw [← E1.out]
            refine ⟨rfl, ?_⟩
            exact RLeft.comp HT1.out HL1.out (RLeft.comp HT4.out HL4.out HL.out)
      · have E1 := Lib.hid (show ({ s with str := s.str.set i (x.1, st) }, 0, en) = R by have := E0.out; rw [if_pos hen] at this; exact this)
        clear E0
        go_wp2
        go_ret2
        rw [← E1.out]
        exact ⟨rfl, HT1.out, F1, HQ1.out, HL1.out⟩
section
variable {w : World} {b : Nat} {s : Lp} {F : Nat → Prop}
theorem rl_read (h : RLoopQ w b s F) (id : Int) (hn : loadL s < 1000000) :
    Calls Tryz.prog 45 #[.pointer (some ⟨b, 0, none⟩), .int .i64 id] w fun e w' => e = .returned (.tuple #[.int .i64 (readL s id).2.1, .int .i64 (readL s id).2.2]) ∧ RLeft w w' b F (readL s id).1 := by
  have hm := rl_moves_read h h.lt id hn
  generalize readL s id = R at *
  have HM := Lib.hid hm
  clear hm hn h
  go_enter Tryz.func45, Tryz.ntmps45
  go_wp2_with fail
  refine HM.out.mono ?_
  rintro e w2 ⟨rfl, h2⟩
  go_wp2
  go_ret2
  exact ⟨rfl, h2⟩
theorem rl_write (h : RLoopQ w b s F) (id v : Int) (hn : loadL s < 1000000) :
    Calls Tryz.prog 44 #[.pointer (some ⟨b, 0, none⟩), .int .i64 id, .int .i64 v] w fun e w' => e = .returned (.tuple #[.int .i64 (writeL s id v).2.1, .int .i64 (writeL s id v).2.2]) ∧ RLeft w w' b F (writeL s id v).1 := by
  have hm := rl_moves_write h h.lt id hn v
  generalize writeL s id v = R at *
  have HM := Lib.hid hm
  clear hm hn h
  go_enter Tryz.func44, Tryz.ntmps44
  go_wp2_with fail
  refine HM.out.mono ?_
  rintro e w2 ⟨rfl, h2⟩
  go_wp2
  go_ret2
  exact ⟨rfl, h2⟩
end
end Go.Proofs.YtipbimbnpikbcaaGreat
