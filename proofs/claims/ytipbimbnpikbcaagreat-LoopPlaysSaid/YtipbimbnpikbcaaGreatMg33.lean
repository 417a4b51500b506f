import Derived.Test.YtipbimbnpikbcaaGreatMg19
import Derived.Test.YtipbimbnpikbcaaGreatMg32
import Derived.Deep.CutRange
/- Write and Read: a stream of a loop; its promises are told. -/
namespace Go.Proofs.YtipbimbnpikbcaaGreat
open Go.RowKit

section
variable {w w' : World} {b : Nat} {s : Lp} {F : Nat → Prop}
/-- A stream of a loop, by itself. -/
theorem loop_str (h : LoopQ w b s F) {i : Nat} (hi : i < s.str.length) : ∃ (q g c : Nat) (Fq : Nat → Prop), w.cell? ⟨b, 9, none⟩ = some (.slice (some ⟨g, 0, none⟩) s.str.length c) ∧ s.str.length ≤ c ∧ c ≤ 9223372036854775807 ∧ w.cell? ⟨g, i, none⟩ = some (.pointer (some ⟨q, 0, none⟩)) ∧
    StreamQ w q (s.str.getD i (0, ⟨[], [], []⟩)).1 (s.str.getD i (0, ⟨[], [], []⟩)).2 Fq ∧ (∀ k, Fq k → F k) ∧
    ∀ w' st, Tch Fq w w' → StreamQ w' q (s.str.getD i (0, ⟨[], [], []⟩)).1 st Fq → LoopQ w' b { s with str := s.str.set i ((s.str.getD i (0, ⟨[], [], []⟩)).1, st) } F := by
  obtain ⟨o, P, H, hF⟩ := h
  have h7 := (H.part 7).1
  have hsb := H.sb
  obtain ⟨g, eA, _, hc⟩ := h7.cells (by omega)
  have c9 := (H.part 0).1.cellOf 9 _ rfl
  rw [eA] at c9
  have hq : i < o.sb.length := by omega
  have e1 : o.sb[i]? = some (o.sb[i]) := List.getElem?_eq_getElem hq
  have e2 : s.str[i]? = some (s.str.getD i (0, ⟨[], [], []⟩)) := by simp [List.getD_eq_getElem?_getD, hi]
  have hp : SPart w (P (i + 8)) o.sb[i]? s.str[i]? := H.part (i + 8)
  rw [e1, e2] at hp
  refine ⟨o.sb[i], g, o.c4, P (i + 8), c9, h7.cap_le.1, h7.cap_le.2, hc i _ (by simp [ptr, hq]), hp, fun k hk => (hF k).2 ⟨_, hk⟩, fun w' st T hst => ?_⟩
  refine (H.oneSame hF (i + 8) (by omega) T (s' := { s with str := s.str.set i ((s.str.getD i (0, ⟨[], [], []⟩)).1, st) }) ?_ ?_ (fun j hj0 hj1 hp => ?_) (by simp [hsb]) (H.ok.strs (by simp; exact H.ok.str))).1
  · simp [lcells]
  · show SPart w' _ o.sb[i]? (s.str.set i _)[i]?
    rw [e1, List.getElem?_set_self hi]
    exact hst
  · match j, hj0, hj1, hp with
    | 1, _, _, hp => exact hp
    | 2, _, _, hp => exact hp
    | 3, _, _, hp => exact hp
    | 4, _, _, hp => exact hp
    | 5, _, _, hp => exact hp
    | 6, _, _, hp => exact hp
    | 7, _, _, hp => exact ⟨by simpa using hp.1, hp.2⟩
    | j + 8, _, hj1, hp =>
      show SPart w' _ o.sb[j]? (s.str.set i _)[j]?
      rw [List.getElem?_set_ne (by omega)]
      exact hp
end
/-- While the promises are told. -/
structure MvK (w2 wr : World) (b : Nat) (F : Nat → Prop) (s : Lp) (out : List (Int × Int)) (j : Nat) (A : Option Addr) (cap : Nat) (G : Option Nat) : Prop where
  left : LoopLeft w2 wr b F (settlesL s (out.take j))
  sl : Sl wr 144 2 A out.length cap (gots out) G
/-- Write's closure. -/
theorem loop_wclo (q room : Nat) (st : St) (F : Nat → Prop) (who v : Int) (z : Nat) (w : World) (h : StreamQ w q room st F) (hz : w.cell? ⟨z, 0, none⟩ = some (.int .i64 v)) :
    Calls Tryz.prog 64 #[.pointer (some ⟨q, 0, none⟩), .int .i64 who, .pointer (some ⟨z, 0, none⟩)] w fun e w' =>
      Told w w' e (writeM room st v who).2.1 (writeM room st v who).2.2 ∧ StreamQ w' q room (writeM room st v who).1 F ∧ Tch F w w' := by
  go_enter Tryz.func64, Tryz.ntmps64
  go_wp2_with fail
  refine (stream_write q room st F v who w h).mono ?_
  rintro e w2 ⟨⟨A, cap, G, rfl, hsl, hG⟩, hq, hT⟩
  have HS := Lib.hid hsl
  clear hsl
  go_wp2
  go_ret2
  exact ⟨⟨A, cap, G, rfl, HS.out, hG⟩, hq, hT⟩
set_option maxHeartbeats 4000000 in
set_option maxRecDepth 100000 in
theorem loop_moves_read {w : World} {b : Nat} {s : Lp} {F : Nat → Prop} (h : LoopQ w b s F) (hF0 : ∀ k, F k → k < w.heap.size) (id : Int) (hn : loadL s < 1000000)  :
    Calls Tryz.prog 63 #[.pointer (some ⟨b, 0, none⟩), .int .i64 id, .func (.func 66) #[] #[]] w fun e w' => e = .returned (.tuple #[.int .i64 (readL s id).2.1, .int .i64 (readL s id).2.2]) ∧ LoopLeft w w' b F (readL s id).1 := by
  obtain ⟨R, hR⟩ : ∃ R, readL s id = R := ⟨_, rfl⟩
  rw [hR]
  have HR := Lib.hid hR
  have HQ := Lib.hid h
  clear hR
  by_cases ho : id < 0 ∨ (s.str.length : Int) ≤ id
  · have E1 := Lib.hid (show (s, 0, 2) = R by have := HR.out; simpa [readL, movesL, ho] using this)
    obtain ⟨o, P, H, hF⟩ := h
    have c9 := (H.part 0).1.cellOf 9 _ rfl
    clear HR H hF 
    by_cases h0 : id < 0
    · have d1 : decide (id < 0) = true := by simpa using h0
      clear ho
      go_enter Tryz.func63, Tryz.ntmps63
      go_wp2
      go_ret2
      rw [← E1.out]
      exact ⟨rfl, LoopLeft.same HQ.out⟩
    · have d1 : decide (id < 0) = false := by simpa using h0
      have d2 : (s.str.length : Int) ≤ id := by omega
      clear ho
      go_enter Tryz.func63, Tryz.ntmps63
      go_wp2
      go_ret2
      rw [← E1.out]
      exact ⟨rfl, LoopLeft.same HQ.out⟩
  · obtain ⟨i, rfl⟩ := Int.eq_ofNat_of_zero_le (show 0 ≤ id by omega)
    have hi : i < s.str.length := by omega
    have d1 : decide ((i : Int) < 0) = false := by simp
    have d2 : ¬ ((s.str.length : Int) ≤ (i : Int)) := by omega
    have d3 : (i : Int) < (s.str.length : Int) := by omega
    obtain ⟨q, g, c, Fq, c9, hc1, hc2, cq, hq, hqF, hset⟩ := loop_str h hi
    obtain ⟨p, c7, hlen⟩ := loop_plen h
    by_cases hl : 512 ≤ s.prs.length
    · have E1 := Lib.hid (show (s, 0, 3) = R by
        have := HR.out
        simp only [readL, movesL] at this
        rw [if_neg ho, if_pos hl] at this
        exact this)
      have hlI : (512 : Int) ≤ (s.prs.length : Int) := by omega
      have HLEN := Lib.hid hlen
      clear HR ho hq hqF hset hlen hi cq 
      go_enter Tryz.func63, Tryz.ntmps63
      go_wp2_with fail
      refine HLEN.out.mono ?_
      rintro e w2 ⟨rfl, hw⟩
      subst hw
      go_wp2
      go_ret2
      rw [← E1.out]
      exact ⟨rfl, LoopLeft.same HQ.out⟩
    · have hlI : ¬ ((512 : Int) ≤ (s.prs.length : Int)) := by omega
      obtain ⟨p', c7', hlen'⟩ := loop_plen (h.keep (Tch.refl NoBlk w).drew (fun _ _ h => h))
      obtain rfl : p = p' := by
        have : w.cell? ⟨b, 7, none⟩ = some (.pointer (some ⟨p', 0, none⟩)) := c7'
        rw [c7] at this
        injection this with this
        injection this with this
        injection this with this
        injection this with this
      generalize hx : s.str.getD i (0, ⟨[], [], []⟩) = x at *
      have hdoes := stream_read q x.1 x.2 Fq (s.prs.length : Int) w.drew (hq.keep (Tch.refl NoBlk w).drew (fun _ _ h => h))
      obtain ⟨en, he⟩ : ∃ en, (readM x.2 s.prs.length).2.2 = en := ⟨_, rfl⟩
      obtain ⟨out, hout⟩ : ∃ out, (readM x.2 s.prs.length).2.1 = out := ⟨_, rfl⟩
      obtain ⟨st, hst⟩ : ∃ st, (readM x.2 s.prs.length).1 = st := ⟨_, rfl⟩
      rw [he, hout, hst] at hdoes
      have hlN : s.prs.length < 512 := by omega
      have E0 := Lib.hid (show (if en ≠ 0 then ({ s with str := s.str.set i (x.1, st) }, 0, en) else (settlesL (promiseL { s with str := s.str.set i (x.1, st) }).1 out, s.prs.length, 0)) = R by
        have := HR.out
        simp only [readL, movesL] at this
        rw [if_neg ho, if_neg hl, show ((i : Int)).toNat = i from rfl, hx] at this
        try dsimp only at this
        rw [he, hout, hst] at this
        exact this)
      have HLEN := Lib.hid hlen
      have HLEN' := Lib.hid hlen'
      have HD := Lib.hid hdoes
      have HSET := Lib.hid (fun w' (T : Tch Fq w.drew w') hs => hset w' st (((Tch.refl _ w).drew).trans T) hs)
      have HQF := Lib.hid hqF
      have HN := Lib.hid hn
      have HF0 := Lib.hid hF0
      clear HR ho hq hqF hset hlen hlen' hdoes hi hx he hout hst hl c7' hn hF0 h 
      go_enter Tryz.func63, Tryz.ntmps63
      go_wp2_with fail
      refine HLEN.out.mono ?_
      rintro e w2 ⟨rfl, hw⟩
      subst hw
      go_upto_region 5 with fail
      go_cut [8, 9] from 36 to 36 (fun y z wx => ∃ (A : Option Addr) (cap : Nat) (G : Option Nat), y = .slice A out.length cap ∧ z = .int .i64 en ∧ Sl wx 144 2 A out.length cap (gots out) G ∧ (∀ g, G = some g → w2.heap.size ≤ g) ∧ LoopQ wx b { s with str := s.str.set i (x.1, st) } F ∧ Tch Fq w2 wx)
      case first =>
        clear E0 HN HF0 HQF hlN
        go_wp2_with fail
        go_region_law (first | (go_simp; go_at_call 89; refine HLEN'.out.mono ?_; rintro e w3 ⟨rfl, hw⟩; subst hw) | (go_simp; go_at_call 66; refine HD.out.mono ?_; rintro e w3 ⟨⟨A, cap, G, rfl, hsl, hG⟩, hq3, hT3⟩; have HSL := Lib.hid hsl; have HG := Lib.hid hG; have HQ3 := Lib.hid (HSET.out w3 hT3 hq3); have HT3 := Lib.hid hT3; clear hsl hG hq3 hT3))
        all_goals
          go_wp2
          go_meet
          exact ⟨A, cap, G, rfl, rfl, HSL.out, HG.out, HQ3.out, ((Tch.refl _ w2).drew).trans HT3.out⟩
      case rest =>
      obtain ⟨A, cap, G, rfl, rfl, hsl, hG, hq3, hT3⟩ := hcut
      have HSL := Lib.hid hsl
      have HG := Lib.hid hG
      have HQ3 := Lib.hid hq3
      have HT3 := Lib.hid hT3
      have hcap := hsl.cap_le
      have HHN := Lib.hid hlN
      clear hsl hG hq3 hT3 HD HSET HLEN HLEN' cq c9 c7 hlN
      have hs1l : LoopLeft w2 wc b F { s with str := s.str.set i (x.1, st) } := ⟨HT3.out.mono (fun k _ e => HQF.out k e), F, HQ3.out, fun _ hk => .inl hk⟩
      have HS1 := Lib.hid hs1l
      clear hs1l
      by_cases hen : en = 0
      · have hpr : promiseL { s with str := s.str.set i (x.1, st) } = ((promiseL { s with str := s.str.set i (x.1, st) }).1, s.prs.length, 0) := by
          have := HHN.out
          unfold promiseL makeM
          dsimp only
          rw [if_neg (by omega)]
        have E1 : Hid ((settlesL (promiseL { s with str := s.str.set i (x.1, st) }).1 out, s.prs.length, 0) = R) := Lib.hid (by have := E0.out; rw [if_neg (by simpa using hen)] at this; exact this)
        have hP := loop_promise HQ3.out
        rw [hpr] at hP
        have hld : loadL (promiseL { s with str := s.str.set i (x.1, st) }).1 < 1000000 := by rw [loadL_promise]; exact HN.out
        generalize (promiseL { s with str := s.str.set i (x.1, st) }).1 = s2 at *
        have HP := Lib.hid hP
        have HLD := Lib.hid hld
        clear hP hpr hld E0 HQ3 HHN
        subst hen
        go_wp2_with fail
        refine HP.out.mono ?_
        rintro e w4 ⟨rfl, h4⟩
        have hsl4 := HSL.out.keep h4.1 (fun g hg e => by
          have h1 := HG.out g hg
          have h2 := HF0.out g e
          omega)
        obtain ⟨t4, F4, q4, l4⟩ := h4
        have hgF : ∀ g, G = some g → ¬ F4 g := fun g hg e => by
          have h1 := HG.out g hg
          have h3 := HSL.out.lt g hg
          rcases l4 g e with h2 | h2
          · have := HF0.out g h2
            omega
          · omega
        have hgl : ∀ g, G = some g → g < w4.heap.size := fun g hg => hsl4.lt g hg
        have HK : Hid (MvK w4 w4 b F4 s2 out 0 A cap G) := Lib.hid ⟨by have := LoopLeft.same q4; simpa [settlesL] using this, hsl4⟩
        have HGF := Lib.hid hgF
        have HGL := Lib.hid hgl
        have HT4 := Lib.hid t4
        have HL4 := Lib.hid l4
        clear HP hsl4 t4 q4 l4 hgF hgl HSL HG
        go_wp2_with fail
        go_loopw [66] (fun y wr => ∃ j : Nat, y = .int .i64 j ∧ j ≤ out.length ∧ MvK w4 wr b F4 s2 out j A cap G) (fun y _ => out.length - (intOf y).toNat)
        case atStart => exact ⟨0, rfl, Nat.zero_le _, HK.out⟩
        case round =>
          clear HK
          obtain ⟨j, rfl, hj, hK⟩ := hrel
          by_cases hjl : j < out.length
          · have hjI : (j : Int) < (out.length : Int) := by omega
            obtain ⟨gg, rfl, rfl, hcl⟩ := hK.sl.cells (by omega)
            obtain ⟨g0, g1⟩ := gots_get out j hjl
            have cj0 := hcl _ _ g0
            have cj1 := hcl _ _ g1
            have hnx : settlesL s2 (out.take (j + 1)) = (settleL (settlesL s2 (out.take j)) (out.getD j (0, 0)).1 (out.getD j (0, 0)).2).1 := by
              rw [List.take_add_one, List.getElem?_eq_getElem hjl]
              simp only [Option.toList_some]
              rw [settlesL_snoc]
              simp [List.getD_eq_getElem?_getD, hjl]
            have hset : ∀ id v, (settlesL s2 (out.take j)).mic.length + (settleM (settlesL s2 (out.take j)).prs id v).2.1.length < 1000000 := fun id v => by
              have h1 := settle_le (settlesL s2 (out.take j)) id v
              rw [loadL_settles] at h1
              have := HLD.out
              omega
            generalize out.getD j (0, 0) = pp at *
            obtain ⟨pw, pv⟩ := pp
            dsimp only at cj0 cj1 hnx
            obtain ⟨l1, F3, q3, l3⟩ := hK.left
            have TB := (Tch.refl NoBlk wr).alloc (.cells #[.int .i64 pw, .int .i64 pv] 144)
            have hST := loop_settle (q3.keep TB (fun _ _ h => h)) pw pv (hset pw pv)
            have HST := Lib.hid hST
            have HTB := Lib.hid TB
            have HL1 := Lib.hid l1
            have HL3 := Lib.hid l3
            have HSL := Lib.hid hK.sl
            have HNX := Lib.hid hnx
            have HJ := Lib.hid hjl
            clear hK q3 l1 l3 hST TB hset hnx hcl g0 g1 hj
            go_wp2_with fail
            refine HST.out.mono ?_
            rintro e w6 ⟨rfl, h6⟩
            have hlf := LoopLeft.comp HL1.out HL3.out (h6.ahead HTB.out)
            rw [← HNX.out] at hlf
            have hslf := (HSL.out.keep HTB.out (fun _ _ h => h)).keep h6.1 (fun g' e hf => by
              rcases HL3.out g' hf with h3 | h3
              · exact HGF.out g' e h3
              · have := HGL.out g' e
                omega)
            have HLF := Lib.hid hlf
            have HSF := Lib.hid hslf
            clear hlf hslf h6 HST cj0 cj1
            go_wp2
            go_roundw
            case rel => exact ⟨j + 1, num (by omega), HJ.out, ⟨HLF.out, HSF.out⟩⟩
            case measure => simp [intOf]; omega
          · have hjI : ¬ ((j : Int) < (out.length : Int)) := by omega
            have hje : j = out.length := by omega
            have HL : Hid (LoopLeft w4 wr b F4 (settlesL s2 out)) := Lib.hid (by have := hK.left; rw [hje, List.take_of_length_le (Nat.le_refl _)] at this; exact this)
            clear hK hj hjl hje
            go_wp2
            go_ret2
            rw [← E1.out]
            refine ⟨rfl, ?_⟩
            exact LoopLeft.comp (HS1.out.1.trans HT4.out) (fun k hk => (HL4.out k hk).imp_right (fun e => Nat.le_trans HS1.out.1.size e)) HL.out
      · have E1 := Lib.hid (show ({ s with str := s.str.set i (x.1, st) }, 0, en) = R by have := E0.out; rw [if_pos hen] at this; exact this)
        clear E0 HQ3
        go_wp2
        go_ret2
        rw [← E1.out]
        exact ⟨rfl, HS1.out⟩
set_option maxHeartbeats 4000000 in
set_option maxRecDepth 100000 in
theorem loop_moves_write {w : World} {b : Nat} {s : Lp} {F : Nat → Prop} (h : LoopQ w b s F) (hF0 : ∀ k, F k → k < w.heap.size) (id : Int) (hn : loadL s < 1000000) (v : Int) (z : Nat) (hz : w.cell? ⟨z, 0, none⟩ = some (.int .i64 v)) :
    Calls Tryz.prog 63 #[.pointer (some ⟨b, 0, none⟩), .int .i64 id, .func (.func 64) #[] #[.pointer (some ⟨z, 0, none⟩)]] w fun e w' => e = .returned (.tuple #[.int .i64 (writeL s id v).2.1, .int .i64 (writeL s id v).2.2]) ∧ LoopLeft w w' b F (writeL s id v).1 := by
  obtain ⟨R, hR⟩ : ∃ R, writeL s id v = R := ⟨_, rfl⟩
  rw [hR]
  have HR := Lib.hid hR
  have HQ := Lib.hid h
  clear hR
  by_cases ho : id < 0 ∨ (s.str.length : Int) ≤ id
  · have E1 := Lib.hid (show (s, 0, 2) = R by have := HR.out; simpa [writeL, movesL, ho] using this)
    obtain ⟨o, P, H, hF⟩ := h
    have c9 := (H.part 0).1.cellOf 9 _ rfl
    clear HR H hF hz
    by_cases h0 : id < 0
    · have d1 : decide (id < 0) = true := by simpa using h0
      clear ho
      go_enter Tryz.func63, Tryz.ntmps63
      go_wp2
      go_ret2
      rw [← E1.out]
      exact ⟨rfl, LoopLeft.same HQ.out⟩
    · have d1 : decide (id < 0) = false := by simpa using h0
      have d2 : (s.str.length : Int) ≤ id := by omega
      clear ho
      go_enter Tryz.func63, Tryz.ntmps63
      go_wp2
      go_ret2
      rw [← E1.out]
      exact ⟨rfl, LoopLeft.same HQ.out⟩
  · obtain ⟨i, rfl⟩ := Int.eq_ofNat_of_zero_le (show 0 ≤ id by omega)
    have hi : i < s.str.length := by omega
    have d1 : decide ((i : Int) < 0) = false := by simp
    have d2 : ¬ ((s.str.length : Int) ≤ (i : Int)) := by omega
    have d3 : (i : Int) < (s.str.length : Int) := by omega
    obtain ⟨q, g, c, Fq, c9, hc1, hc2, cq, hq, hqF, hset⟩ := loop_str h hi
    obtain ⟨p, c7, hlen⟩ := loop_plen h
    by_cases hl : 512 ≤ s.prs.length
    · have E1 := Lib.hid (show (s, 0, 3) = R by
        have := HR.out
        simp only [writeL, movesL] at this
        rw [if_neg ho, if_pos hl] at this
        exact this)
      have hlI : (512 : Int) ≤ (s.prs.length : Int) := by omega
      have HLEN := Lib.hid hlen
      clear HR ho hq hqF hset hlen hi cq hz
      go_enter Tryz.func63, Tryz.ntmps63
      go_wp2_with fail
      refine HLEN.out.mono ?_
      rintro e w2 ⟨rfl, hw⟩
      subst hw
      go_wp2
      go_ret2
      rw [← E1.out]
      exact ⟨rfl, LoopLeft.same HQ.out⟩
    · have hlI : ¬ ((512 : Int) ≤ (s.prs.length : Int)) := by omega
      obtain ⟨p', c7', hlen'⟩ := loop_plen (h.keep (Tch.refl NoBlk w).drew (fun _ _ h => h))
      obtain rfl : p = p' := by
        have : w.cell? ⟨b, 7, none⟩ = some (.pointer (some ⟨p', 0, none⟩)) := c7'
        rw [c7] at this
        injection this with this
        injection this with this
        injection this with this
        injection this with this
      generalize hx : s.str.getD i (0, ⟨[], [], []⟩) = x at *
      have hdoes := loop_wclo q x.1 x.2 Fq (s.prs.length : Int) v z w.drew (hq.keep (Tch.refl NoBlk w).drew (fun _ _ h => h)) hz
      obtain ⟨en, he⟩ : ∃ en, (writeM x.1 x.2 v s.prs.length).2.2 = en := ⟨_, rfl⟩
      obtain ⟨out, hout⟩ : ∃ out, (writeM x.1 x.2 v s.prs.length).2.1 = out := ⟨_, rfl⟩
      obtain ⟨st, hst⟩ : ∃ st, (writeM x.1 x.2 v s.prs.length).1 = st := ⟨_, rfl⟩
      rw [he, hout, hst] at hdoes
      have hlN : s.prs.length < 512 := by omega
      have E0 := Lib.hid (show (if en ≠ 0 then ({ s with str := s.str.set i (x.1, st) }, 0, en) else (settlesL (promiseL { s with str := s.str.set i (x.1, st) }).1 out, s.prs.length, 0)) = R by
        have := HR.out
        simp only [writeL, movesL] at this
        rw [if_neg ho, if_neg hl, show ((i : Int)).toNat = i from rfl, hx] at this
        try dsimp only at this
        rw [he, hout, hst] at this
        exact this)
      have HLEN := Lib.hid hlen
      have HLEN' := Lib.hid hlen'
      have HD := Lib.hid hdoes
      have HSET := Lib.hid (fun w' (T : Tch Fq w.drew w') hs => hset w' st (((Tch.refl _ w).drew).trans T) hs)
      have HQF := Lib.hid hqF
      have HN := Lib.hid hn
      have HF0 := Lib.hid hF0
      clear HR ho hq hqF hset hlen hlen' hdoes hi hx he hout hst hl c7' hn hF0 h hz
      go_enter Tryz.func63, Tryz.ntmps63
      go_wp2_with fail
      refine HLEN.out.mono ?_
      rintro e w2 ⟨rfl, hw⟩
      subst hw
      go_upto_region 5 with fail
      go_cut [8, 9] from 36 to 36 (fun y z wx => ∃ (A : Option Addr) (cap : Nat) (G : Option Nat), y = .slice A out.length cap ∧ z = .int .i64 en ∧ Sl wx 144 2 A out.length cap (gots out) G ∧ (∀ g, G = some g → w2.heap.size ≤ g) ∧ LoopQ wx b { s with str := s.str.set i (x.1, st) } F ∧ Tch Fq w2 wx)
      case first =>
        clear E0 HN HF0 HQF hlN
        go_wp2_with fail
        go_region_law (first | (go_simp; go_at_call 89; refine HLEN'.out.mono ?_; rintro e w3 ⟨rfl, hw⟩; subst hw) | (go_simp; go_at_call 64; refine HD.out.mono ?_; rintro e w3 ⟨⟨A, cap, G, rfl, hsl, hG⟩, hq3, hT3⟩; have HSL := Lib.hid hsl; have HG := Lib.hid hG; have HQ3 := Lib.hid (HSET.out w3 hT3 hq3); have HT3 := Lib.hid hT3; clear hsl hG hq3 hT3))
        all_goals
          go_wp2
          go_meet
          exact ⟨A, cap, G, rfl, rfl, HSL.out, HG.out, HQ3.out, ((Tch.refl _ w2).drew).trans HT3.out⟩
      case rest =>
      obtain ⟨A, cap, G, rfl, rfl, hsl, hG, hq3, hT3⟩ := hcut
      have HSL := Lib.hid hsl
      have HG := Lib.hid hG
      have HQ3 := Lib.hid hq3
      have HT3 := Lib.hid hT3
      have hcap := hsl.cap_le
      have HHN := Lib.hid hlN
      clear hsl hG hq3 hT3 HD HSET HLEN HLEN' cq c9 c7 hlN
      have hs1l : LoopLeft w2 wc b F { s with str := s.str.set i (x.1, st) } := ⟨HT3.out.mono (fun k _ e => HQF.out k e), F, HQ3.out, fun _ hk => .inl hk⟩
      have HS1 := Lib.hid hs1l
      clear hs1l
      by_cases hen : en = 0
      · have hpr : promiseL { s with str := s.str.set i (x.1, st) } = ((promiseL { s with str := s.str.set i (x.1, st) }).1, s.prs.length, 0) := by
          have := HHN.out
          unfold promiseL makeM
          dsimp only
          rw [if_neg (by omega)]
        have E1 : Hid ((settlesL (promiseL { s with str := s.str.set i (x.1, st) }).1 out, s.prs.length, 0) = R) := Lib.hid (by have := E0.out; rw [if_neg (by simpa using hen)] at this; exact this)
        have hP := loop_promise HQ3.out
        rw [hpr] at hP
        have hld : loadL (promiseL { s with str := s.str.set i (x.1, st) }).1 < 1000000 := by rw [loadL_promise]; exact HN.out
        generalize (promiseL { s with str := s.str.set i (x.1, st) }).1 = s2 at *
        have HP := Lib.hid hP
        have HLD := Lib.hid hld
        clear hP hpr hld E0 HQ3 HHN
        subst hen
        go_wp2_with fail
        refine HP.out.mono ?_
        rintro e w4 ⟨rfl, h4⟩
        have hsl4 := HSL.out.keep h4.1 (fun g hg e => by
          have h1 := HG.out g hg
          have h2 := HF0.out g e
          omega)
        obtain ⟨t4, F4, q4, l4⟩ := h4
        have hgF : ∀ g, G = some g → ¬ F4 g := fun g hg e => by
          have h1 := HG.out g hg
          have h3 := HSL.out.lt g hg
          rcases l4 g e with h2 | h2
          · have := HF0.out g h2
            omega
          · omega
        have hgl : ∀ g, G = some g → g < w4.heap.size := fun g hg => hsl4.lt g hg
        have HK : Hid (MvK w4 w4 b F4 s2 out 0 A cap G) := Lib.hid ⟨by have := LoopLeft.same q4; simpa [settlesL] using this, hsl4⟩
        have HGF := Lib.hid hgF
        have HGL := Lib.hid hgl
        have HT4 := Lib.hid t4
        have HL4 := Lib.hid l4
        clear HP hsl4 t4 q4 l4 hgF hgl HSL HG
        go_wp2_with fail
        go_loopw [66] (fun y wr => ∃ j : Nat, y = .int .i64 j ∧ j ≤ out.length ∧ MvK w4 wr b F4 s2 out j A cap G) (fun y _ => out.length - (intOf y).toNat)
        case atStart => exact ⟨0, rfl, Nat.zero_le _, HK.out⟩
        case round =>
          clear HK
          obtain ⟨j, rfl, hj, hK⟩ := hrel
          by_cases hjl : j < out.length
          · have hjI : (j : Int) < (out.length : Int) := by omega
            obtain ⟨gg, rfl, rfl, hcl⟩ := hK.sl.cells (by omega)
            obtain ⟨g0, g1⟩ := gots_get out j hjl
            have cj0 := hcl _ _ g0
            have cj1 := hcl _ _ g1
            have hnx : settlesL s2 (out.take (j + 1)) = (settleL (settlesL s2 (out.take j)) (out.getD j (0, 0)).1 (out.getD j (0, 0)).2).1 := by
              rw [List.take_add_one, List.getElem?_eq_getElem hjl]
              simp only [Option.toList_some]
              rw [settlesL_snoc]
              simp [List.getD_eq_getElem?_getD, hjl]
            have hset : ∀ id v, (settlesL s2 (out.take j)).mic.length + (settleM (settlesL s2 (out.take j)).prs id v).2.1.length < 1000000 := fun id v => by
              have h1 := settle_le (settlesL s2 (out.take j)) id v
              rw [loadL_settles] at h1
              have := HLD.out
              omega
            generalize out.getD j (0, 0) = pp at *
            obtain ⟨pw, pv⟩ := pp
            dsimp only at cj0 cj1 hnx
            obtain ⟨l1, F3, q3, l3⟩ := hK.left
            have TB := (Tch.refl NoBlk wr).alloc (.cells #[.int .i64 pw, .int .i64 pv] 144)
            have hST := loop_settle (q3.keep TB (fun _ _ h => h)) pw pv (hset pw pv)
            have HST := Lib.hid hST
            have HTB := Lib.hid TB
            have HL1 := Lib.hid l1
            have HL3 := Lib.hid l3
            have HSL := Lib.hid hK.sl
            have HNX := Lib.hid hnx
            have HJ := Lib.hid hjl
            clear hK q3 l1 l3 hST TB hset hnx hcl g0 g1 hj
            go_wp2_with fail
            refine HST.out.mono ?_
            rintro e w6 ⟨rfl, h6⟩
            have hlf := LoopLeft.comp HL1.out HL3.out (h6.ahead HTB.out)
            rw [← HNX.out] at hlf
            have hslf := (HSL.out.keep HTB.out (fun _ _ h => h)).keep h6.1 (fun g' e hf => by
              rcases HL3.out g' hf with h3 | h3
              · exact HGF.out g' e h3
              · have := HGL.out g' e
                omega)
            have HLF := Lib.hid hlf
            have HSF := Lib.hid hslf
            clear hlf hslf h6 HST cj0 cj1
            go_wp2
            go_roundw
            case rel => exact ⟨j + 1, num (by omega), HJ.out, ⟨HLF.out, HSF.out⟩⟩
            case measure => simp [intOf]; omega
          · have hjI : ¬ ((j : Int) < (out.length : Int)) := by omega
            have hje : j = out.length := by omega
            have HL : Hid (LoopLeft w4 wr b F4 (settlesL s2 out)) := Lib.hid (by have := hK.left; rw [hje, List.take_of_length_le (Nat.le_refl _)] at this; exact this)
            clear hK hj hjl hje
            go_wp2
            go_ret2
            rw [← E1.out]
            refine ⟨rfl, ?_⟩
            exact LoopLeft.comp (HS1.out.1.trans HT4.out) (fun k hk => (HL4.out k hk).imp_right (fun e => Nat.le_trans HS1.out.1.size e)) HL.out
      · have E1 := Lib.hid (show ({ s with str := s.str.set i (x.1, st) }, 0, en) = R by have := E0.out; rw [if_pos hen] at this; exact this)
        clear E0 HQ3
        go_wp2
        go_ret2
        rw [← E1.out]
        exact ⟨rfl, HS1.out⟩
end Go.Proofs.YtipbimbnpikbcaaGreat
