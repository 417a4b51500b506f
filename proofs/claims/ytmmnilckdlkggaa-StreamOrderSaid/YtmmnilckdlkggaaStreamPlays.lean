/- StreamPlays' walk. -/
import Derived.Test.YtmmnilckdlkggaaStreamLaw
import Derived.Test.YtmmnilckdlkggaaRefRead
import Derived.Test.YtmmnilckdlkggaaRefWrite
import Derived.Test.YtmmnilckdlkggaaActsR
import Derived.Deep.QuietTactic
namespace Go.Proofs.Ytmmnilckdlkggaa
open Go.RowKit

theorem stream_few (a : Option Addr) (n cap : Nat) (w : World) (h : n ≤ cap) (_hc : cap ≤ 9223372036854775807) :
    Calls Try.prog 15 #[.slice a n cap] w fun e w' => e = .returned (.slice a (min n 250) cap) ∧ w' = w := by
  go_enter Try.func15, Try.ntmps15
  go_wp2
  · go_ret
    rw [show min n 250 = 250 from by omega]
    exact ⟨rfl, rfl⟩
  · go_ret
    rw [show min n 250 = n from by omega]
    exact ⟨rfl, rfl⟩

/-- A stream and the document's, each in blocks of its own. -/
structure PlayI (w0 w : World) (b room : Nat) (s : St) (F : Nat → Prop) (b' : Nat) (s' : St) (F' : Nat → Prop) : Prop where
  one : StrI w0 w b room s F
  two : RefStrQ w b' room s' F'
  ne : ∀ i, F i → F' i → False
  base : ∀ i, F' i → w0.heap.size ≤ i

section
variable {w0 w w' : World} {b room : Nat} {s : St} {F : Nat → Prop} {b' : Nat} {s' : St} {F' : Nat → Prop}
theorem PlayI.keep {S : Nat → Prop} (h : PlayI w0 w b room s F b' s' F') (ht : Tch S w w') (hS : ∀ i, S i → ¬ F i ∧ ¬ F' i) (hB : ∀ i, S i → w0.heap.size ≤ i) : PlayI w0 w' b room s F b' s' F' :=
  ⟨h.one.keep ht (fun i hi hs => (hS i hs).1 hi) hB, h.two.keep ht (fun i hi hs => (hS i hs).2 hi), h.ne, h.base⟩
theorem PlayI.none (h : PlayI w0 w b room s F b' s' F') (ht : Tch NoBlk w w') : PlayI w0 w' b room s F b' s' F' := h.keep ht (fun _ h => h.elim) (fun _ h => h.elim)

theorem PlayI.left {t : St} {e : Ending} {r : St × List (Int × Int) × Int} (h : PlayI w0 w b room s F b' s' F') (hr : RefLeft w w' b' room F' e r) (hm : r = (t, r.2.1, r.2.2)) :
    Told w w' e r.2.1 r.2.2 ∧ Tch F' w w' ∧ ∃ F2, PlayI w0 w' b room s F b' t F2 := by
  obtain ⟨h1, h2, F2, h3, h4⟩ := hr
  refine ⟨h1, h2, F2, ⟨h.one.keep h2 (fun i x y => h.ne i x y) h.base, ?_, ?_, ?_⟩⟩
  · rw [hm] at h3
    exact h3
  · intro i x y
    rcases h4 i y with z | z
    · exact h.ne i x z
    · have := h.one.q.lt i x
      omega
  · intro i y
    rcases h4 i y with z | z
    · exact h.base i z
    · exact Nat.le_trans h.one.below.size z

theorem play_write (h : PlayI w0 w b room s F b' s' F') (value who : Int) (t : St) (l : List (Int × Int)) (en : Int) (hm : writeM room s value who = (t, l, en)) :
    Calls Try.prog 11 #[.pointer (some ⟨b, 0, none⟩), .int .i64 value, .int .i64 who] w fun e w' =>
      ∃ A cap G, e = .returned (.tuple #[.slice A l.length cap, .int .i64 en]) ∧ Sl w' 34 2 A l.length cap (gots l) G ∧ (∀ g, G = some g → w.heap.size ≤ g) ∧ (∀ g, G = some g → ¬ F' g) ∧ Tch F w w' ∧ PlayI w0 w' b room t F b' s' F' := by
  refine (str_write h.one value who t l en hm).mono ?_
  rintro e w' ⟨A, c, G, rfl, h1, h2, h3, h4⟩
  exact ⟨A, c, G, rfl, h1, h2, fun g hg hf => by have := h2 g hg; have := h.two.lt g hf; omega, h4, ⟨h3, h.two.keep h4 (fun i x y => h.ne i y x), h.ne, h.base⟩⟩
theorem play_read (h : PlayI w0 w b room s F b' s' F') (who : Int) (t : St) (l : List (Int × Int)) (en : Int) (hm : readM s who = (t, l, en)) :
    Calls Try.prog 10 #[.pointer (some ⟨b, 0, none⟩), .int .i64 who] w fun e w' =>
      ∃ A cap G, e = .returned (.tuple #[.slice A l.length cap, .int .i64 en]) ∧ Sl w' 34 2 A l.length cap (gots l) G ∧ (∀ g, G = some g → w.heap.size ≤ g) ∧ (∀ g, G = some g → ¬ F' g) ∧ Tch F w w' ∧ PlayI w0 w' b room t F b' s' F' := by
  refine (str_read h.one who t l en hm).mono ?_
  rintro e w' ⟨A, c, G, rfl, h1, h2, h3, h4⟩
  exact ⟨A, c, G, rfl, h1, h2, fun g hg hf => by have := h2 g hg; have := h.two.lt g hf; omega, h4, ⟨h3, h.two.keep h4 (fun i x y => h.ne i y x), h.ne, h.base⟩⟩
theorem play_rwrite (h : PlayI w0 w b room s F b' s' F') (hroom : room ≤ 32) (value who : Int) (t : St) (l : List (Int × Int)) (en : Int) (hm : writeM room s' value who = (t, l, en)) :
    Calls Try.prog 17 #[.pointer (some ⟨b', 0, none⟩), .int .i64 value, .int .i64 who] w fun e w' =>
      ∃ A cap G F2, e = .returned (.tuple #[.slice A l.length cap, .int .i64 en]) ∧ Sl w' 34 2 A l.length cap (gots l) G ∧ Tch F' w w' ∧ PlayI w0 w' b room s F b' t F2 := by
  refine (refstr_write b' room s' F' value who w h.two hroom).mono ?_
  rw [hm]
  intro e w' hr
  obtain ⟨⟨A, c, G, rfl, h1, h2⟩, h3, F2, h4⟩ := h.left hr rfl
  exact ⟨A, c, G, F2, rfl, h1, h3, h4⟩
theorem play_rread (h : PlayI w0 w b room s F b' s' F') (hroom : room ≤ 32) (who : Int) (t : St) (l : List (Int × Int)) (en : Int) (hm : readM s' who = (t, l, en)) :
    Calls Try.prog 16 #[.pointer (some ⟨b', 0, none⟩), .int .i64 who] w fun e w' =>
      ∃ A cap G F2, e = .returned (.tuple #[.slice A l.length cap, .int .i64 en]) ∧ Sl w' 34 2 A l.length cap (gots l) G ∧ Tch F' w w' ∧ PlayI w0 w' b room s F b' t F2 := by
  refine (refstr_read b' room s' F' who w h.two hroom).mono ?_
  rw [hm]
  intro e w' hr
  obtain ⟨⟨A, c, G, rfl, h1, h2⟩, h3, F2, h4⟩ := h.left hr rfl
  exact ⟨A, c, G, F2, rfl, h1, h3, h4⟩
end

theorem streamPlays_no (x0 : Int) (a : Option Addr) (n cap : Nat) (w : World) (hx : x0 < 1 ∨ 32 < x0) :
    Calls Try.prog 5 #[.int .i64 x0, .slice a n cap] w fun e w' => e = .returned (.bool true) ∧ Below w.heap.size w w' := by
  have HX := Lib.hid hx
  clear hx
  go_enter Try.func5, Try.ntmps5
  go_wp2_with fail
  refine (stream_shown w).mono ?_
  rintro e w1 ⟨rfl, hT1⟩
  have B1 := below_no (Below.refl _ w) hT1
  clear hT1
  go_wp2_with fail
  refine (stream_new_no x0 _ HX.out).mono ?_
  rintro e w2 ⟨rfl, rfl⟩
  go_wp2_with fail
  refine (refstr_new_no x0 _ HX.out).mono ?_
  rintro e w2 ⟨rfl, rfl⟩
  go_wp2
  go_ret
  exact ⟨rfl, B1⟩


set_option maxHeartbeats 4000000 in
set_option maxRecDepth 100000 in
theorem streamPlays_yes (room : Nat) (a : Option Addr) (cap n : Nat) (V : Nat → Nat → Value) (l : List Ac) (w : World) (h1 : 1 ≤ room) (h2 : room ≤ 32) (h : TripsIn w a cap n V) (hn : l.length = n)
    (hl : ∀ i, i < l.length → V i 0 = .bool (l.getD i ac0).1 ∧ V i 1 = .int .i64 (l.getD i ac0).2.1 ∧ V i 2 = .int .i64 (l.getD i ac0).2.2) :
    Calls Try.prog 5 #[.int .i64 room, .slice a n cap] w fun e w' => e = .returned (.bool true) ∧ Below w.heap.size w w' := by
  obtain ⟨hle, hc, he⟩ := h
  have HE := Lib.hid he
  have HL := Lib.hid hl
  clear he hl
  go_enter Try.func5, Try.ntmps5
  go_wp2_with fail
  refine (stream_shown w).mono ?_
  rintro e w1 ⟨rfl, hT1⟩
  have B1 := below_no (Below.refl _ w) hT1
  clear hT1
  go_wp2_with fail
  refine (str_new w w1 room h1 h2 B1).mono ?_
  rintro e w2 ⟨b, F, rfl, hI2, hF2, hT2⟩
  have B2 := hI2.below
  clear hT2 hF2 B1
  go_wp2_with fail
  refine (refstr_new_yes room w2 h1 h2).mono ?_
  rintro e w3 ⟨b', F', rfl, hQ3, hF3, hT3⟩
  have hP3 : PlayI w w3 b room ⟨[], [], []⟩ F b' ⟨[], [], []⟩ F' := ⟨hI2.keep hT3 (fun _ _ h => h) (fun _ h => h.elim), hQ3, fun i x y => by have := hI2.q.lt i x; have := hF3 i y; omega, fun i y => by have := hF3 i y; have := B2.size; omega⟩
  clear hI2 B2 hQ3 hF3 hT3
  go_wp2_with fail
  refine (stream_few a n cap _ hle hc).mono ?_
  rintro e w4 ⟨rfl, rfl⟩
  go_wp2_with fail
  go_loopw [43] (fun i wr => ∃ (k : Nat) (s : St) (F' : Nat → Prop), i = .int .i64 k ∧ k ≤ min n 250 ∧ PlayI w wr b room s F b' s F') (fun i _ => min n 250 - (intOf i).toNat)
  case atStart => exact ⟨0, _, _, rfl, Nat.zero_le _, hP3⟩
  case round =>
    clear hP3
    obtain ⟨k, s, F', rfl, hk, hP⟩ := hrel
    by_cases hlt : k < min n 250
    · obtain ⟨ba, off, rfl, hcell⟩ := HE.out (by omega)
      have hkn : k < n := by omega
      obtain ⟨v0, v1, v2⟩ := HL.out k (by omega)
      have hc0 := hcell k hkn 0 (by omega)
      have hc1 := hcell k hkn 1 (by omega)
      have hc2 := hcell k hkn 2 (by omega)
      rw [v0] at hc0
      rw [v1] at hc1
      rw [v2] at hc2
      have hw0 : wr.cell? ⟨ba, off + (k * 3 + 0), none⟩ = _ := (hP.one.below.cell (p := ⟨ba, off + (k * 3 + 0), none⟩) (World.block_lt_of_cell? w _ hc0)).trans hc0
      have hw1 : wr.cell? ⟨ba, off + (k * 3 + 1), none⟩ = _ := (hP.one.below.cell (p := ⟨ba, off + (k * 3 + 1), none⟩) (World.block_lt_of_cell? w _ hc1)).trans hc1
      have hw2 : wr.cell? ⟨ba, off + (k * 3 + 2), none⟩ = _ := (hP.one.below.cell (p := ⟨ba, off + (k * 3 + 2), none⟩) (World.block_lt_of_cell? w _ hc2)).trans hc2
      have HK : Hid (k + 1 ≤ min n 250) := Lib.hid (by omega)
      have hx0 : wr.cell? ⟨ba, off + k * 3, none⟩ = _ := hw0
      have hx1 : wr.cell? ⟨ba, off + k * 3 + 1, none⟩ = _ := hw1
      have hx2 : wr.cell? ⟨ba, off + k * 3 + 2, none⟩ = _ := hw2
      clear hcell hc0 hc1 hc2 v0 v1 v2 hw0 hw1 hw2
      generalize (l.getD k ac0) = act at *
      obtain ⟨rdp, who, value⟩ := act
      dsimp only at hx0 hx1 hx2
      have hP1 := hP.none ((Tch.refl NoBlk wr).alloc (.cells #[.bool rdp, .int .i64 who, .int .i64 value] 45))
      have hA := Blk.new wr 45 [.bool rdp, .int .i64 who, .int .i64 value]
      have HF := Lib.hid (fun i (hi : F i) => hP.one.q.lt i hi)
      clear hP
      cases rdp with
      | true =>
        obtain ⟨r, hr⟩ : ∃ r, readM s who = r := ⟨_, rfl⟩
        obtain ⟨s2, x, en⟩ := r
        have HR := Lib.hid hr
        clear hr
        go_wp2_with fail
        generalize wr.alloc (.cells #[.bool true, .int .i64 who, .int .i64 value] 45) = wA at *
        generalize wr.heap.size = ga at *
        have hgF : ¬ F ga := fun hi => absurd (HF.out ga hi) (by omega)
        have hca0 := hA.cellOf 0 _ rfl
        have hca1 := hA.cellOf 1 _ rfl
        have hca2 := hA.cellOf 2 _ rfl
        have hP1l := hP1.one.below.size
        clear hx0 hx1 hx2 HF HE
        refine (play_read hP1 who _ _ _ HR.out).mono ?_
        rintro e w5 ⟨A5, c5, G5, rfl, hs5, _, hg5, hT5, hP5⟩
        have hA5 := hA.keep hT5 hgF
        have hca1 := hA5.cellOf 1 _ rfl
        have HG5 := Lib.hid hg5
        clear hP1 hA hT5 hg5 hca0 hca2
        go_wp2_with fail
        refine (play_rread hP5 h2 who _ _ _ HR.out).mono ?_
        rintro e w6 ⟨A6, c6, G6, F6, rfl, hs6, hT6, hP6⟩
        clear hP5 hA5 hca1 HR
        -- who waits, the round's test
        have hg : ∀ g, G5 = some g → ¬ F' g := HG5.out
        have hsx := hs5.keep hT6 hg
        clear hg
        generalize s2 = s2 at *
        go_wp2_with fail
        refine (stream_waits b room s2 F _ hP6.one.q).mono ?_
        rintro e w7 ⟨rfl, n7, rfl⟩
        have hsx7 := hsx.drewN n7
        have hsy7 := hs6.drewN n7
        have hP := hP6.none ((Tch.refl NoBlk _).drewN n7)
        clear hsx hP6 hs6 hT6
        generalize w6.drewN n7 = w7 at *
        obtain ⟨R1, d1, E1, R2, d2, E2, R3, d3, E3, hR, _⟩ := hP.two
        have hl1 := hR.blk.cellOf 1 _ rfl
        have hl2 := hR.blk.cellOf 2 _ rfl
        have hl3 := hR.blk.cellOf 3 _ rfl
        have hb1 := hR.s1.cap_le
        have hb2 := hR.s2.cap_le
        have hb3 := hR.s3.cap_le
        have hde0 : (en != en) = false := by simp
        have hde1 : ((s2.bf.length : Int) != (s2.bf.length : Int)) = false := by simp
        have hde2 : ((s2.rd.length : Int) != (s2.rd.length : Int)) = false := by simp
        have hde3 : ((s2.wr.length : Int) != (s2.wr.length : Int)) = false := by simp
        have HP := Lib.hid hP
        have HSX := Lib.hid hsx7
        have HSY := Lib.hid hsy7
        clear hR hsx7 hsy7 hP
        go_wp2_with fail
        go_quiet (first | (go_at_call 12; exact Calls.quiet_of (stream_same _ _ _ _ _ _ _ _ _ (HSX.out.drewN _) (HSY.out.drewN _) rfl)) | (go_at_call 13; exact Calls.quiet_of_same (stream_len b room s2 F _ (HP.out.one.q.keep ((Tch.refl NoBlk _).drewN _) (fun _ _ h => h)))))
        go_wp2
        go_roundw
        case rel => exact ⟨k + 1, s2, _, num (by omega), HK.out, HP.out.none ((Tch.refl NoBlk _).drewN _)⟩
        case measure => simp [intOf]; omega
      | false =>
        obtain ⟨r, hr⟩ : ∃ r, writeM room s value who = r := ⟨_, rfl⟩
        obtain ⟨s2, x, en⟩ := r
        have HR := Lib.hid hr
        clear hr
        go_wp2_with fail
        generalize wr.alloc (.cells #[.bool false, .int .i64 who, .int .i64 value] 45) = wA at *
        generalize wr.heap.size = ga at *
        have hgF : ¬ F ga := fun hi => absurd (HF.out ga hi) (by omega)
        have hca0 := hA.cellOf 0 _ rfl
        have hca1 := hA.cellOf 1 _ rfl
        have hca2 := hA.cellOf 2 _ rfl
        have hP1l := hP1.one.below.size
        clear hx0 hx1 hx2 HF HE
        refine (play_write hP1 value who _ _ _ HR.out).mono ?_
        rintro e w5 ⟨A5, c5, G5, rfl, hs5, _, hg5, hT5, hP5⟩
        have hA5 := hA.keep hT5 hgF
        have hca1 := hA5.cellOf 1 _ rfl
        have hca2 := hA5.cellOf 2 _ rfl
        have HG5 := Lib.hid hg5
        clear hP1 hA hT5 hg5 hca0
        go_wp2_with fail
        refine (play_rwrite hP5 h2 value who _ _ _ HR.out).mono ?_
        rintro e w6 ⟨A6, c6, G6, F6, rfl, hs6, hT6, hP6⟩
        clear hP5 hA5 hca1 hca2 HR
        -- who waits, the round's test
        have hg : ∀ g, G5 = some g → ¬ F' g := HG5.out
        have hsx := hs5.keep hT6 hg
        clear hg
        generalize s2 = s2 at *
        go_wp2_with fail
        refine (stream_waits b room s2 F _ hP6.one.q).mono ?_
        rintro e w7 ⟨rfl, n7, rfl⟩
        have hsx7 := hsx.drewN n7
        have hsy7 := hs6.drewN n7
        have hP := hP6.none ((Tch.refl NoBlk _).drewN n7)
        clear hsx hP6 hs6 hT6
        generalize w6.drewN n7 = w7 at *
        obtain ⟨R1, d1, E1, R2, d2, E2, R3, d3, E3, hR, _⟩ := hP.two
        have hl1 := hR.blk.cellOf 1 _ rfl
        have hl2 := hR.blk.cellOf 2 _ rfl
        have hl3 := hR.blk.cellOf 3 _ rfl
        have hb1 := hR.s1.cap_le
        have hb2 := hR.s2.cap_le
        have hb3 := hR.s3.cap_le
        have hde0 : (en != en) = false := by simp
        have hde1 : ((s2.bf.length : Int) != (s2.bf.length : Int)) = false := by simp
        have hde2 : ((s2.rd.length : Int) != (s2.rd.length : Int)) = false := by simp
        have hde3 : ((s2.wr.length : Int) != (s2.wr.length : Int)) = false := by simp
        have HP := Lib.hid hP
        have HSX := Lib.hid hsx7
        have HSY := Lib.hid hsy7
        clear hR hsx7 hsy7 hP
        go_wp2_with fail
        go_quiet (first | (go_at_call 12; exact Calls.quiet_of (stream_same _ _ _ _ _ _ _ _ _ (HSX.out.drewN _) (HSY.out.drewN _) rfl)) | (go_at_call 13; exact Calls.quiet_of_same (stream_len b room s2 F _ (HP.out.one.q.keep ((Tch.refl NoBlk _).drewN _) (fun _ _ h => h)))))
        go_wp2
        go_roundw
        case rel => exact ⟨k + 1, s2, _, num (by omega), HK.out, HP.out.none ((Tch.refl NoBlk _).drewN _)⟩
        case measure => simp [intOf]; omega
    · have hge : min n 250 ≤ k := by omega
      clear hlt
      have HB := Lib.hid hP.one.below
      go_wp2
      go_ret
      exact ⟨rfl, HB.out⟩

theorem streamPlays_walk (x0 : Int) (a : Option Addr) (cap : Nat) (l : List Ac) (V : Nat → Nat → Value) (w : World) (h0 : IntKind.i64.min ≤ x0 ∧ x0 ≤ IntKind.i64.max) (h : TripsIn w a cap l.length V)
    (hl : ∀ i, i < l.length → V i 0 = .bool (l.getD i ac0).1 ∧ V i 1 = .int .i64 (l.getD i ac0).2.1 ∧ V i 2 = .int .i64 (l.getD i ac0).2.2) :
    Calls Try.prog 5 #[.int .i64 x0, .slice a l.length cap] w fun e w' => e = .returned (.bool true) ∧ Below w.heap.size w w' := by
  by_cases hx : x0 < 1 ∨ 32 < x0
  · exact streamPlays_no x0 a _ cap w hx
  · obtain ⟨m, rfl⟩ := Int.eq_ofNat_of_zero_le (show 0 ≤ x0 by omega)
    exact streamPlays_yes m a cap _ V l w (by omega) (by omega) h rfl hl
end Go.Proofs.Ytmmnilckdlkggaa
