/- PromisePlays' walk. -/
import Derived.Test.YtfmkjnlelijnoaaRefPrsDo
import Derived.Test.YtfmkjnlelijnoaaActsK
import Derived.Deep.CutRange
import Derived.Deep.QuietTactic
namespace Go.Proofs.Ytfmkjnlelijnoaa
open Go.RowKit

/-- The document's table by itself. -/
def RefTab (w : World) (b : Nat) (l : List Pr) (F : Nat → Prop) : Prop := ∃ v, RefPrsQ w b 39 [v] 0 l F
theorem RefTab.keep {w w' : World} {b : Nat} {l : List Pr} {F S : Nat → Prop} (h : RefTab w b l F) (ht : Tch S w w') (hS : ∀ k, F k → ¬ S k) : RefTab w' b l F := by
  obtain ⟨v, h⟩ := h
  exact ⟨v, h.keep ht hS⟩
theorem RefTab.lt {w : World} {b : Nat} {l : List Pr} {F : Nat → Prop} (h : RefTab w b l F) : ∀ k, F k → k < w.heap.size := by
  obtain ⟨v, h⟩ := h
  exact h.lt
theorem RefTab.cellOf {w : World} {b : Nat} {l : List Pr} {F : Nat → Prop} (h : RefTab w b l F) : ∃ A c, w.cell? ⟨b, 0, none⟩ = some (.slice A l.length c) ∧ l.length ≤ c ∧ c ≤ 9223372036854775807 := by
  obtain ⟨v, h⟩ := h
  obtain ⟨A, c, h1, h2⟩ := h.lenOf
  obtain ⟨vs, A', c', G, h, _⟩ := h
  exact ⟨A, c, h.blk.cellOf 0 _ h1, h2⟩

/-- A table and the document's, each in blocks of its own. -/
structure PlayP (w0 w : World) (b : Nat) (l : List Pr) (F : Nat → Prop) (b' : Nat) (l2 : List Pr) (F' : Nat → Prop) : Prop where
  one : PrsI w0 w b l F
  two : RefTab w b' l2 F'
  ne : ∀ i, F i → F' i → False
  base : ∀ i, F' i → w0.heap.size ≤ i

section
variable {w0 w w' : World} {b : Nat} {l : List Pr} {F : Nat → Prop} {b' : Nat} {l2 : List Pr} {F' : Nat → Prop}
theorem PlayP.none (h : PlayP w0 w b l F b' l2 F') (ht : Tch NoBlk w w') : PlayP w0 w' b l F b' l2 F' :=
  ⟨h.one.keep ht (fun _ _ h => h) (fun _ h => h.elim), h.two.keep ht (fun _ _ h => h), h.ne, h.base⟩
theorem plp_make (h : PlayP w0 w b l F b' l2 F') (l' : List Pr) (x y : Nat) (hm : makeM l = (l', x, y)) :
    Calls Try.prog 11 #[.pointer (some ⟨b, 0, none⟩)] w fun e w' => e = .returned (.tuple #[.int .i64 x, .int .i64 y]) ∧ Tch F w w' ∧ ∃ F2, PlayP w0 w' b l' F2 b' l2 F' ∧ ∀ k, F2 k → F k ∨ w.heap.size ≤ k := by
  refine (prs_make h.one l' x y hm).mono ?_
  rintro e w' ⟨rfl, hT, F2, h1, h2⟩
  refine ⟨rfl, hT, F2, ⟨h1, h.two.keep hT (fun i x y => h.ne i y x), fun i x y => ?_, h.base⟩, h2⟩
  rcases h2 i x with z | z
  · exact h.ne i z y
  · have := h.two.lt i y
    omega
theorem plp_then (h : PlayP w0 w b l F b' l2 F') (id react : Int) (l' : List Pr) (x : Int) (t : Bool) (y : Nat) (hm : thenM l id react = (l', x, t, y)) :
    Calls Try.prog 14 #[.pointer (some ⟨b, 0, none⟩), .int .i64 id, .int .i64 react] w fun e w' => e = .returned (.tuple #[.int .i64 x, .bool t, .int .i64 y]) ∧ Tch F w w' ∧ PlayP w0 w' b l' F b' l2 F' := by
  refine (prs_then h.one id react l' x t y hm).mono ?_
  rintro e w' ⟨rfl, h1, hT⟩
  exact ⟨rfl, hT, h1, h.two.keep hT (fun i x y => h.ne i y x), h.ne, h.base⟩
theorem plp_settle (h : PlayP w0 w b l F b' l2 F') (id value : Int) (l' : List Pr) (x : List Int) (y : Nat) (hm : settleM l id value = (l', x, y)) :
    Calls Try.prog 12 #[.pointer (some ⟨b, 0, none⟩), .int .i64 id, .int .i64 value] w fun e w' => ∃ A cap G, e = .returned (.tuple #[.slice A x.length cap, .int .i64 y]) ∧ Sl w' 3 1 A x.length cap (ints x) G ∧ (∀ g, G = some g → ¬ F' g) ∧ Tch F w w' ∧ PlayP w0 w' b l' F b' l2 F' := by
  refine (prs_settle h.one id value l' x y hm).mono ?_
  rintro e w' ⟨A, c, G, rfl, h1, h2, h3, hT⟩
  exact ⟨A, c, G, rfl, h1, fun g hg hf => by have := h2 g hg; have := h.two.lt g hf; omega, hT, h3, h.two.keep hT (fun i x y => h.ne i y x), h.ne, h.base⟩
theorem PlayP.left {l2' : List Pr} {v : Value} (h : PlayP w0 w b l F b' l2 F') (hr : PrsLeft w w' b' 39 [v] 0 F' l2') : Tch F' w w' ∧ ∃ F2, PlayP w0 w' b l F b' l2' F2 := by
  obtain ⟨hT, v2, F2, h1, h2⟩ := hr
  refine ⟨hT, F2, h.one.keep hT (fun i x y => h.ne i x y) h.base, ⟨v2, h1⟩, fun i x y => ?_, fun i y => ?_⟩
  · rcases h2 i y with z | z
    · exact h.ne i x z
    · have := h.one.q.lt i x
      omega
  · rcases h2 i y with z | z
    · exact h.base i z
    · exact Nat.le_trans h.one.below.size z
theorem plp_rmake (h : PlayP w0 w b l F b' l2 F') (l' : List Pr) (x y : Nat) (hm : makeM l2 = (l', x, y)) :
    Calls Try.prog 15 #[.pointer (some ⟨b', 0, none⟩)] w fun e w' => e = .returned (.tuple #[.int .i64 x, .int .i64 y]) ∧ Tch F' w w' ∧ ∃ F2, PlayP w0 w' b l F b' l' F2 := by
  obtain ⟨v, h2⟩ := h.two
  refine (refprs_make b' 0 _ [v] l2 F' w h2).mono ?_
  rw [hm]
  rintro e w' ⟨rfl, hr⟩
  exact ⟨rfl, h.left hr⟩
theorem plp_rthen (h : PlayP w0 w b l F b' l2 F') (id react : Int) (l' : List Pr) (x : Int) (t : Bool) (y : Nat) (hm : thenM l2 id react = (l', x, t, y)) :
    Calls Try.prog 16 #[.pointer (some ⟨b', 0, none⟩), .int .i64 id, .int .i64 react] w fun e w' => e = .returned (.tuple #[.int .i64 x, .bool t, .int .i64 y]) ∧ Tch F' w w' ∧ ∃ F2, PlayP w0 w' b l F b' l' F2 := by
  obtain ⟨v, h2⟩ := h.two
  refine (refprs_then b' 0 _ [v] l2 F' id react w h2).mono ?_
  rw [hm]
  rintro e w' ⟨rfl, hr⟩
  exact ⟨rfl, h.left hr⟩
theorem plp_rsettle (h : PlayP w0 w b l F b' l2 F') (id value : Int) (l' : List Pr) (x : List Int) (y : Nat) (hm : settleM l2 id value = (l', x, y)) :
    Calls Try.prog 17 #[.pointer (some ⟨b', 0, none⟩), .int .i64 id, .int .i64 value] w fun e w' => ∃ A cap G, e = .returned (.tuple #[.slice A x.length cap, .int .i64 y]) ∧ Sl w' 3 1 A x.length cap (ints x) G ∧ Tch F' w w' ∧ ∃ F2, PlayP w0 w' b l F b' l' F2 := by
  obtain ⟨v, h2⟩ := h.two
  refine (refprs_settle b' 0 _ [v] l2 F' id value w h2).mono ?_
  rw [hm]
  rintro e w' ⟨hT, F2, ⟨A, c, G, rfl, hs, _⟩, hQ, hF⟩
  exact ⟨A, c, G, rfl, hs, hT, F2, h.one.keep hT (fun i x y => h.ne i x y) h.base, ⟨v, hQ⟩, fun i x y => h.ne i x (hF i y), fun i y => h.base i (hF i y)⟩
theorem plp_value (h : PlayP w0 w b l F b' l2 F') (id : Int) (x : Int) (t : Bool) (y : Nat) (hm : valueM l2 id = (x, t, y)) :
    Calls Try.prog 19 #[.pointer (some ⟨b', 0, none⟩), .int .i64 id] w fun e w' => e = .returned (.tuple #[.int .i64 x, .bool t, .int .i64 y]) ∧ ∃ n, w' = w.drewN n := by
  obtain ⟨v, h2⟩ := h.two
  refine (refprs_value b' 0 _ [v] l2 F' id w h2).mono ?_
  rw [hm]
  exact fun _ _ h => h
theorem plp_waits (h : PlayP w0 w b l F b' l2 F') (id : Int) (n : Nat) (hm : waitsM l2 id = n) :
    Calls Try.prog 22 #[.pointer (some ⟨b', 0, none⟩), .int .i64 id] w fun e w' => e = .returned (.int .i64 n) ∧ w' = w := by
  obtain ⟨v, h2⟩ := h.two
  rw [← hm]
  exact refprs_waits b' 0 _ [v] l2 F' id w h2
end
theorem reftab_new (w : World) : RefTab (w.alloc (.cells #[.slice none 0 0] 39)) w.heap.size [] (PrF w.heap.size [] none) :=
  ⟨.slice none 0 0, [], none, 0, none, ⟨Blk.new w _ _, rfl, Sl.nil _ _ _, by simp, by simp, by simp, by simp, by simp, by simp⟩, rfl, fun _ => Iff.rfl⟩


set_option maxHeartbeats 4000000 in
set_option maxRecDepth 100000 in
theorem promisePlays_walk (a : Option Addr) (cap : Nat) (l : List Ak) (V : Nat → Nat → Value) (w : World) (h : TripsIn w a cap l.length V)
    (hl : ∀ i, i < l.length → (V i 0 = .int .u8 ((l.getD i ak0).1 : Int) ∧ (l.getD i ak0).1 ≤ 255) ∧ V i 1 = .int .i64 (l.getD i ak0).2.1 ∧ V i 2 = .int .i64 (l.getD i ak0).2.2) :
    Calls Try.prog 4 #[.slice a l.length cap] w fun e w' => e = .returned (.bool true) ∧ Below w.heap.size w w' := by
  obtain ⟨hle, hc, he⟩ := h
  have HE := Lib.hid he
  have HL := Lib.hid hl
  clear he hl
  obtain ⟨n, hn⟩ : ∃ n, n = min l.length 150 := ⟨_, rfl⟩
  have hnl : n ≤ l.length := by omega
  go_enter Try.func4, Try.ntmps4
  go_wp2_with fail
  refine (promise_shown w).mono ?_
  rintro e w1 ⟨rfl, hT1⟩
  have B1 := below_no (Below.refl _ w) hT1
  clear hT1
  go_wp2_with fail
  refine (prs_new B1).mono ?_
  rintro e w2 ⟨b, F, rfl, h2, _, _⟩
  clear B1
  have hP3 : PlayP w (w2.alloc (.cells #[.slice none 0 0] 39)) b [] F w2.heap.size [] (PrF w2.heap.size [] none) := by
    refine ⟨h2.alloc _, reftab_new w2, fun i x y => ?_, fun i y => ?_⟩
    · have := h2.q.lt i x
      rcases y with rfl | y | ⟨j, z, hz, _⟩
      · omega
      · cases y
      · simp at hz
    · have := h2.below.size
      rcases y with rfl | y | ⟨j, z, hz, _⟩
      · omega
      · cases y
      · simp at hz
  clear h2
  go_upto_region 6 with fail
  generalize w2.alloc (.cells #[.slice none 0 0] 39) = w3 at *
  generalize w2.heap.size = b' at *
  go_cut [39, 40, 41] from 35 to 35 (fun x y z wx => x = .slice a n cap ∧ y = .int .i64 n ∧ z = .int .i64 0 ∧ w3 = wx)
  case first =>
    clear hP3
    go_wp2_with fail
    · have hk : n = 150 := by omega
      go_meet
      exact ⟨by rw [hk], by rw [hk]; rfl, rfl, rfl⟩
    · have hk : n = l.length := by omega
      go_meet
      exact ⟨by rw [hk], by rw [hk], rfl, rfl⟩
  case rest =>
  obtain ⟨rfl, rfl, rfl, rfl⟩ := hcut
  clear hn
  go_wp2_with fail
  go_loopw [41] (fun i wr => ∃ (k : Nat) (t : List Pr) (F F' : Nat → Prop), i = .int .i64 k ∧ k ≤ n ∧ PlayP w wr b t F b' t F') (fun i _ => n - (intOf i).toNat)
  case atStart => exact ⟨0, [], _, _, rfl, Nat.zero_le _, hP3⟩
  case round =>
    clear hP3
    obtain ⟨k, t, F, F', rfl, hk, hP⟩ := hrel
    by_cases hlt : k < n
    · obtain ⟨ba, off, rfl, hcell⟩ := HE.out (by omega)
      have hkn : k < l.length := by omega
      obtain ⟨⟨v0, hm⟩, v1, v2⟩ := HL.out k (by omega)
      have hc0 := hcell k hkn 0 (by omega)
      have hc1 := hcell k hkn 1 (by omega)
      have hc2 := hcell k hkn 2 (by omega)
      rw [v0] at hc0
      rw [v1] at hc1
      rw [v2] at hc2
      have hw0 : wr.cell? ⟨ba, off + (k * 3 + 0), none⟩ = _ := (hP.one.below.cell (p := ⟨ba, off + (k * 3 + 0), none⟩) (World.block_lt_of_cell? w _ hc0)).trans hc0
      have hw1 : wr.cell? ⟨ba, off + (k * 3 + 1), none⟩ = _ := (hP.one.below.cell (p := ⟨ba, off + (k * 3 + 1), none⟩) (World.block_lt_of_cell? w _ hc1)).trans hc1
      have hw2 : wr.cell? ⟨ba, off + (k * 3 + 2), none⟩ = _ := (hP.one.below.cell (p := ⟨ba, off + (k * 3 + 2), none⟩) (World.block_lt_of_cell? w _ hc2)).trans hc2
      have hx0 : wr.cell? ⟨ba, off + k * 3, none⟩ = _ := hw0
      have hx1 : wr.cell? ⟨ba, off + k * 3 + 1, none⟩ = _ := hw1
      have hx2 : wr.cell? ⟨ba, off + k * 3 + 2, none⟩ = _ := hw2
      have HK : Hid (k + 1 ≤ n) := Lib.hid (by omega)
      clear hcell hc0 hc1 hc2 v0 v1 v2 hw0 hw1 hw2
      generalize (l.getD k ak0) = act at *
      obtain ⟨m, av, bv⟩ := act
      dsimp only at hx0 hx1 hx2 hm
      have hP1 := hP.none ((Tch.refl NoBlk wr).alloc (.cells #[.int .u8 (m : Int), .int .i64 av, .int .i64 bv] 41))
      have hA := Blk.new wr 41 [.int .u8 (m : Int), .int .i64 av, .int .i64 bv]
      have HF1 := Lib.hid (fun i (hi : F i) => hP.one.q.lt i hi)
      have HF2 := Lib.hid (fun i (hi : F' i) => hP.two.lt i hi)
      clear hP
      have hq4 : m % 4 = 0 ∨ m % 4 = 1 ∨ m % 4 = 2 ∨ m % 4 = 3 := by omega
      rcases hq4 with hq | hq | hq | hq
      · have hmq : (m : Int) % 4 = 0 := by omega
        clear hq
        obtain ⟨r, hr⟩ : ∃ r, makeM t = r := ⟨_, rfl⟩
        obtain ⟨t', x, en⟩ := r
        have HR := Lib.hid hr
        have g1 : ((x : Int) == (x : Int)) = true := by simp
        have g2 : ((en : Int) == (en : Int)) = true := by simp
        clear hr
        go_wp2_with fail
        generalize wr.alloc (.cells #[.int .u8 (m : Int), .int .i64 av, .int .i64 bv] 41) = wA at *
        generalize wr.heap.size = ga at *
        have hgF : ¬ F ga := fun hi => absurd (HF1.out ga hi) (by omega)
        have hgF' : ¬ F' ga := fun hi => absurd (HF2.out ga hi) (by omega)
        have hlA := hA.lt
        clear hx0 hx1 hx2 HF1 HF2 HE
        refine (plp_make hP1 _ _ _ HR.out).mono ?_
        rintro e w5 ⟨rfl, hT5, F5, hP5, _⟩
        have hA := hA.keep hT5 hgF
        clear hP1 hT5
        go_wp2_with fail
        refine (plp_rmake hP5 _ _ _ HR.out).mono ?_
        rintro e w6 ⟨rfl, hT6, F6, hP6⟩
        have hA := hA.keep hT6 hgF'
        clear hP5 hT6 HR
        -- what is told of the act's promise, the round's test; world w6, state t'
        have hca := hA.cellOf 1 _ rfl
        obtain ⟨r, hr⟩ : ∃ r, valueM t' av = r := ⟨_, rfl⟩
        obtain ⟨vv, vt, ve⟩ := r
        have EV := Lib.hid hr
        clear hr
        go_wp2_with fail
        refine (prs_value hP6.one av _ _ _ EV.out).mono ?_
        rintro e w0 ⟨rfl, n7, rfl⟩
        have hP7 := hP6.none ((Tch.refl NoBlk _).drewN n7)
        have hA7 := hA.drewN n7
        have hca7 := hA7.cellOf 1 _ rfl
        clear hP6 hA hca
        generalize w6.drewN n7 = w7 at *
        go_wp2_with fail
        refine (plp_value hP7 av _ _ _ EV.out).mono ?_
        rintro e w0 ⟨rfl, n8, rfl⟩
        have hP8 := hP7.none ((Tch.refl NoBlk _).drewN n8)
        have hA8 := hA7.drewN n8
        clear hP7 hA7 hca7 EV
        generalize w7.drewN n8 = w8 at *
        obtain ⟨tA, tc, htab, htc⟩ := hP8.two.cellOf
        have hca8 := hA8.cellOf 1 _ rfl
        have f1 : (vv != vv) = false := by simp
        have f2 : (vt != vt) = false := by simp
        have f3 : ((ve : Int) != (ve : Int)) = false := by simp
        have f4 : (((t' : List Pr).length : Int) != ((t' : List Pr).length : Int)) = false := by simp
        obtain ⟨wn, hwn⟩ : ∃ n, waitsM t' av = n := ⟨_, rfl⟩
        have f5 : ((wn : Int) != (wn : Int)) = false := by simp
        have EW := Lib.hid hwn
        have HP := Lib.hid hP8
        clear hwn hP8 hA8
        go_wp2_with fail
        go_quiet (first | (go_at_call 20; exact Calls.quiet_of_same (prs_len (HP.out.none ((Tch.refl NoBlk _).drewN _)).one _ rfl)) | (go_at_call 21; exact Calls.quiet_of_same (prs_waits (HP.out.none ((Tch.refl NoBlk _).drewN _)).one av _ EW.out)) | (go_at_call 22; exact Calls.quiet_of_same (plp_waits (HP.out.none ((Tch.refl NoBlk _).drewN _)) av _ EW.out)))
        go_wp2
        go_roundw
        case rel => exact ⟨k + 1, t', _, _, num (by omega), HK.out, HP.out.none ((Tch.refl NoBlk _).drewN _)⟩
        case measure => simp [intOf]; omega
      · have hmq : (m : Int) % 4 = 1 := by omega
        clear hq
        obtain ⟨r, hr⟩ : ∃ r, thenM t av bv = r := ⟨_, rfl⟩
        obtain ⟨t', x, is, en⟩ := r
        have HR := Lib.hid hr
        have g1 : (x == x) = true := by simp
        have g3 : (is == is) = true := by simp
        have g2 : ((en : Int) == (en : Int)) = true := by simp
        clear hr
        go_wp2_with fail
        generalize wr.alloc (.cells #[.int .u8 (m : Int), .int .i64 av, .int .i64 bv] 41) = wA at *
        generalize wr.heap.size = ga at *
        have hgF : ¬ F ga := fun hi => absurd (HF1.out ga hi) (by omega)
        have hgF' : ¬ F' ga := fun hi => absurd (HF2.out ga hi) (by omega)
        have hlA := hA.lt
        clear hx0 hx1 hx2 HF1 HF2 HE
        refine (plp_then hP1 av bv _ _ _ _ HR.out).mono ?_
        rintro e w5 ⟨rfl, hT5, hP5⟩
        have hA := hA.keep hT5 hgF
        have hd1 := hA.cellOf 1 _ rfl
        have hd2 := hA.cellOf 2 _ rfl
        clear hP1 hT5
        go_wp2_with fail
        refine (plp_rthen hP5 av bv _ _ _ _ HR.out).mono ?_
        rintro e w6 ⟨rfl, hT6, F6, hP6⟩
        have hA := hA.keep hT6 hgF'
        clear hP5 hT6 HR hd1 hd2
        -- what is told of the act's promise, the round's test; world w6, state t'
        have hca := hA.cellOf 1 _ rfl
        obtain ⟨r, hr⟩ : ∃ r, valueM t' av = r := ⟨_, rfl⟩
        obtain ⟨vv, vt, ve⟩ := r
        have EV := Lib.hid hr
        clear hr
        go_wp2_with fail
        refine (prs_value hP6.one av _ _ _ EV.out).mono ?_
        rintro e w0 ⟨rfl, n7, rfl⟩
        have hP7 := hP6.none ((Tch.refl NoBlk _).drewN n7)
        have hA7 := hA.drewN n7
        have hca7 := hA7.cellOf 1 _ rfl
        clear hP6 hA hca
        generalize w6.drewN n7 = w7 at *
        go_wp2_with fail
        refine (plp_value hP7 av _ _ _ EV.out).mono ?_
        rintro e w0 ⟨rfl, n8, rfl⟩
        have hP8 := hP7.none ((Tch.refl NoBlk _).drewN n8)
        have hA8 := hA7.drewN n8
        clear hP7 hA7 hca7 EV
        generalize w7.drewN n8 = w8 at *
        obtain ⟨tA, tc, htab, htc⟩ := hP8.two.cellOf
        have hca8 := hA8.cellOf 1 _ rfl
        have f1 : (vv != vv) = false := by simp
        have f2 : (vt != vt) = false := by simp
        have f3 : ((ve : Int) != (ve : Int)) = false := by simp
        have f4 : (((t' : List Pr).length : Int) != ((t' : List Pr).length : Int)) = false := by simp
        obtain ⟨wn, hwn⟩ : ∃ n, waitsM t' av = n := ⟨_, rfl⟩
        have f5 : ((wn : Int) != (wn : Int)) = false := by simp
        have EW := Lib.hid hwn
        have HP := Lib.hid hP8
        clear hwn hP8 hA8
        go_wp2_with fail
        go_quiet (first | (go_at_call 20; exact Calls.quiet_of_same (prs_len (HP.out.none ((Tch.refl NoBlk _).drewN _)).one _ rfl)) | (go_at_call 21; exact Calls.quiet_of_same (prs_waits (HP.out.none ((Tch.refl NoBlk _).drewN _)).one av _ EW.out)) | (go_at_call 22; exact Calls.quiet_of_same (plp_waits (HP.out.none ((Tch.refl NoBlk _).drewN _)) av _ EW.out)))
        go_wp2
        go_roundw
        case rel => exact ⟨k + 1, t', _, _, num (by omega), HK.out, HP.out.none ((Tch.refl NoBlk _).drewN _)⟩
        case measure => simp [intOf]; omega
      · have hmq : (m : Int) % 4 = 2 := by omega
        clear hq
        obtain ⟨r, hr⟩ : ∃ r, settleM t av bv = r := ⟨_, rfl⟩
        obtain ⟨t', x, en⟩ := r
        have HR := Lib.hid hr
        have g2 : ((en : Int) == (en : Int)) = true := by simp
        clear hr
        go_wp2_with fail
        generalize wr.alloc (.cells #[.int .u8 (m : Int), .int .i64 av, .int .i64 bv] 41) = wA at *
        generalize wr.heap.size = ga at *
        have hgF : ¬ F ga := fun hi => absurd (HF1.out ga hi) (by omega)
        have hgF' : ¬ F' ga := fun hi => absurd (HF2.out ga hi) (by omega)
        have hlA := hA.lt
        clear hx0 hx1 hx2 HF1 HF2 HE
        refine (plp_settle hP1 av bv _ _ _ HR.out).mono ?_
        rintro e w5 ⟨A5, c5, G5, rfl, hs5, hg5, hT5, hP5⟩
        have hA := hA.keep hT5 hgF
        have hd1 := hA.cellOf 1 _ rfl
        have hd2 := hA.cellOf 2 _ rfl
        clear hP1 hT5
        go_wp2_with fail
        refine (plp_rsettle hP5 av bv _ _ _ HR.out).mono ?_
        rintro e w6 ⟨A6, c6, G6, rfl, hs6, hT6, F6, hP6⟩
        have hA := hA.keep hT6 hgF'
        have hs5 := hs5.keep hT6 hg5
        clear hP5 hT6 HR hd1 hd2 hg5
        go_wp2_with fail
        refine (ints_same _ _ _ _ x x _ _ _ hs5 hs6 rfl).mono ?_
        rintro e w0 ⟨rfl, n9, rfl⟩
        have hP9 := hP6.none ((Tch.refl NoBlk _).drewN n9)
        have hA := hA.drewN n9
        clear hP6 hs5 hs6
        generalize w6.drewN n9 = w9 at *
        -- what is told of the act's promise, the round's test; world w9, state t'
        have hca := hA.cellOf 1 _ rfl
        obtain ⟨r, hr⟩ : ∃ r, valueM t' av = r := ⟨_, rfl⟩
        obtain ⟨vv, vt, ve⟩ := r
        have EV := Lib.hid hr
        clear hr
        go_wp2_with fail
        refine (prs_value hP9.one av _ _ _ EV.out).mono ?_
        rintro e w0 ⟨rfl, n7, rfl⟩
        have hP7 := hP9.none ((Tch.refl NoBlk _).drewN n7)
        have hA7 := hA.drewN n7
        have hca7 := hA7.cellOf 1 _ rfl
        clear hP9 hA hca
        generalize w9.drewN n7 = w7 at *
        go_wp2_with fail
        refine (plp_value hP7 av _ _ _ EV.out).mono ?_
        rintro e w0 ⟨rfl, n8, rfl⟩
        have hP8 := hP7.none ((Tch.refl NoBlk _).drewN n8)
        have hA8 := hA7.drewN n8
        clear hP7 hA7 hca7 EV
        generalize w7.drewN n8 = w8 at *
        obtain ⟨tA, tc, htab, htc⟩ := hP8.two.cellOf
        have hca8 := hA8.cellOf 1 _ rfl
        have f1 : (vv != vv) = false := by simp
        have f2 : (vt != vt) = false := by simp
        have f3 : ((ve : Int) != (ve : Int)) = false := by simp
        have f4 : (((t' : List Pr).length : Int) != ((t' : List Pr).length : Int)) = false := by simp
        obtain ⟨wn, hwn⟩ : ∃ n, waitsM t' av = n := ⟨_, rfl⟩
        have f5 : ((wn : Int) != (wn : Int)) = false := by simp
        have EW := Lib.hid hwn
        have HP := Lib.hid hP8
        clear hwn hP8 hA8
        go_wp2_with fail
        go_quiet (first | (go_at_call 20; exact Calls.quiet_of_same (prs_len (HP.out.none ((Tch.refl NoBlk _).drewN _)).one _ rfl)) | (go_at_call 21; exact Calls.quiet_of_same (prs_waits (HP.out.none ((Tch.refl NoBlk _).drewN _)).one av _ EW.out)) | (go_at_call 22; exact Calls.quiet_of_same (plp_waits (HP.out.none ((Tch.refl NoBlk _).drewN _)) av _ EW.out)))
        go_wp2
        go_roundw
        case rel => exact ⟨k + 1, t', _, _, num (by omega), HK.out, HP.out.none ((Tch.refl NoBlk _).drewN _)⟩
        case measure => simp [intOf]; omega
      · have hmq : (m : Int) % 4 = 3 := by omega
        clear hq
        go_wp2_with fail
        generalize wr.alloc (.cells #[.int .u8 (m : Int), .int .i64 av, .int .i64 bv] 41) = wA at *
        generalize wr.heap.size = ga at *
        have hgF : ¬ F ga := fun hi => absurd (HF1.out ga hi) (by omega)
        have hgF' : ¬ F' ga := fun hi => absurd (HF2.out ga hi) (by omega)
        have hlA := hA.lt
        clear hx0 hx1 hx2 HF1 HF2 HE
        -- what is told of the act's promise, the round's test; world wA, state t
        have hca := hA.cellOf 1 _ rfl
        obtain ⟨r, hr⟩ : ∃ r, valueM t av = r := ⟨_, rfl⟩
        obtain ⟨vv, vt, ve⟩ := r
        have EV := Lib.hid hr
        clear hr
        go_wp2_with fail
        refine (prs_value hP1.one av _ _ _ EV.out).mono ?_
        rintro e w0 ⟨rfl, n7, rfl⟩
        have hP7 := hP1.none ((Tch.refl NoBlk _).drewN n7)
        have hA7 := hA.drewN n7
        have hca7 := hA7.cellOf 1 _ rfl
        clear hP1 hA hca
        generalize wA.drewN n7 = w7 at *
        go_wp2_with fail
        refine (plp_value hP7 av _ _ _ EV.out).mono ?_
        rintro e w0 ⟨rfl, n8, rfl⟩
        have hP8 := hP7.none ((Tch.refl NoBlk _).drewN n8)
        have hA8 := hA7.drewN n8
        clear hP7 hA7 hca7 EV
        generalize w7.drewN n8 = w8 at *
        obtain ⟨tA, tc, htab, htc⟩ := hP8.two.cellOf
        have hca8 := hA8.cellOf 1 _ rfl
        have f1 : (vv != vv) = false := by simp
        have f2 : (vt != vt) = false := by simp
        have f3 : ((ve : Int) != (ve : Int)) = false := by simp
        have f4 : (((t : List Pr).length : Int) != ((t : List Pr).length : Int)) = false := by simp
        obtain ⟨wn, hwn⟩ : ∃ n, waitsM t av = n := ⟨_, rfl⟩
        have f5 : ((wn : Int) != (wn : Int)) = false := by simp
        have EW := Lib.hid hwn
        have HP := Lib.hid hP8
        clear hwn hP8 hA8
        go_wp2_with fail
        go_quiet (first | (go_at_call 20; exact Calls.quiet_of_same (prs_len (HP.out.none ((Tch.refl NoBlk _).drewN _)).one _ rfl)) | (go_at_call 21; exact Calls.quiet_of_same (prs_waits (HP.out.none ((Tch.refl NoBlk _).drewN _)).one av _ EW.out)) | (go_at_call 22; exact Calls.quiet_of_same (plp_waits (HP.out.none ((Tch.refl NoBlk _).drewN _)) av _ EW.out)))
        go_wp2
        go_roundw
        case rel => exact ⟨k + 1, t, _, _, num (by omega), HK.out, HP.out.none ((Tch.refl NoBlk _).drewN _)⟩
        case measure => simp [intOf]; omega
    · have hge : n ≤ k := by omega
      have HB := Lib.hid hP.one.below
      clear hlt hP
      go_wp2
      go_ret
      exact ⟨rfl, HB.out⟩
end Go.Proofs.Ytfmkjnlelijnoaa
