/- NamesOne's walk. -/
import Derived.Test.YtbhplnkcnmlbnaaNamesOrder
import Derived.Test.YtbhplnkcnmlbnaaRange
namespace Go.Proofs.Ytbhplnkcnmlbnaa
open Go.RowKit

theorem numb_get : ∀ (l : List ByteArray) (i k : Nat), (numb l i)[k]? = (l[k]?).map fun s => (s, .int .i64 ((i + k : Nat) : Int))
  | [], i, k => by simp [numb]
  | x :: r, i, 0 => by simp [numb]
  | x :: r, i, k + 1 => by
    rw [numb, List.getElem?_cons_succ, numb_get r (i + 1) k, List.getElem?_cons_succ, show i + 1 + k = i + (k + 1) from by omega]
theorem numb_length : ∀ (l : List ByteArray) (i : Nat), (numb l i).length = l.length
  | [], _ => rfl
  | x :: r, i => by rw [numb, List.length_cons, numb_length r, List.length_cons]

theorem upd_numb_old (s : ByteArray) (l : List ByteArray) (n : Nat) (h : npos s l 0 = some n) : upd (numb l 0) s (.int .i64 (n : Int)) = numb l 0 := by
  have h1 := lk_numb s l 0
  rw [h] at h1
  unfold lk at h1
  unfold upd
  cases hk : seek s (numb l 0) 0 with
  | none =>
    rw [hk] at h1
    cases h1
  | some p =>
    obtain ⟨i, u⟩ := p
    rw [hk] at h1
    simp only [Option.map_some, Option.some.injEq] at h1
    subst h1
    obtain ⟨_, h2⟩ := seek_spec s (numb l 0) 0 i _ hk
    rw [Nat.sub_zero] at h2
    apply List.ext_getElem?
    intro j
    show ((numb l 0).set i _)[j]? = _
    rw [List.getElem?_set]
    split
    · rename_i hij
      subst hij
      split
      · exact h2.symm
      · rename_i hge
        rw [List.getElem?_eq_none (by omega)]
    · rfl

theorem npos_nodup : ∀ (l : List ByteArray) (i k : Nat) (s : ByteArray), l.Nodup → l[k]? = some s → npos s l i = some (i + k)
  | [], i, k, s, _, h => by simp at h
  | x :: r, i, 0, s, _, h => by
    simp at h
    subst h
    simp [npos]
  | x :: r, i, k + 1, s, hn, h => by
    rw [List.getElem?_cons_succ] at h
    have h1 := List.nodup_cons.1 hn
    have hm : s ∈ r := List.mem_of_getElem? h
    have hne : s ≠ x := fun e => h1.1 (e ▸ hm)
    rw [npos, if_neg hne, npos_nodup r (i + 1) k s h1.2 h, show i + 1 + k = i + (k + 1) from by omega]

theorem nodup_snoc {l : List ByteArray} {s : ByteArray} (hl : l.Nodup) (h : npos s l 0 = none) : (l ++ [s]).Nodup := by
  rw [npos_none] at h
  rw [List.nodup_append]
  refine ⟨hl, by simp, ?_⟩
  intro a ha b hb
  simp at hb
  subst hb
  intro e
  exact h (e ▸ ha)

/-- A map of flags: those numbers are set. -/
def flags (l : List Nat) : List (Int × Value) := l.map fun (i : Nat) => ((i : Int), Value.bool true)
theorem lk_flags (l : List Nat) (i : Nat) (h : i ∉ l) : lk (flags l) (i : Int) = none := by
  rw [lk_none]
  intro p hp
  simp only [flags, List.mem_map] at hp
  obtain ⟨j, hj, rfl⟩ := hp
  intro e
  have : j = i := Int.ofNat.inj e
  exact h (this ▸ hj)
theorem upd_flags (l : List Nat) (i : Nat) (h : i ∉ l) : upd (flags l) (i : Int) (.bool true) = flags (l ++ [i]) := by
  have h1 := lk_flags l i h
  unfold lk at h1
  have h2 := Option.map_eq_none_iff.1 h1
  unfold upd
  rw [h2]
  simp [flags]
noncomputable def numKeys : KeyKind Try.prog 3 Int := intKeys Try.underlying3

/-- What the law holds: names L at b, a map at r of their numbers, a slice of strings X, each in blocks of its own, new since w0. -/
structure OneI (w0 w : World) (b : Nat) (L : List ByteArray) (r : Nat) (A : Option Addr) (c : Nat) (X : List ByteArray) (G : Option Nat) (F : Nat → Prop) : Prop where
  names : NamesQ w b L F
  map : MapAt w r (ents nameKeys (numb L 0))
  sl : Sl w 9 1 A X.length c (strs X) G
  nd : L.Nodup
  hF : ∀ j, F j → w0.heap.size ≤ j ∧ j ≠ r
  hG : ∀ g, G = some g → g ≠ r ∧ ¬ F g
  hr : w0.heap.size ≤ r
  below : Below w0.heap.size w0 w

/-- While a name is put, ahead of the map. -/
structure OneJ (w0 w : World) (b : Nat) (L M : List ByteArray) (r : Nat) (A : Option Addr) (c : Nat) (X : List ByteArray) (G : Option Nat) (F : Nat → Prop) : Prop where
  names : NamesQ w b L F
  map : MapAt w r (ents nameKeys (numb M 0))
  sl : Sl w 9 1 A X.length c (strs X) G
  nd : L.Nodup
  hF : ∀ j, F j → w0.heap.size ≤ j ∧ j ≠ r
  hG : ∀ g, G = some g → g ≠ r ∧ ¬ F g
  hr : w0.heap.size ≤ r
  below : Below w0.heap.size w0 w

theorem OneJ.same {w0 w : World} {b : Nat} {L : List ByteArray} {r : Nat} {A : Option Addr} {c : Nat} {X : List ByteArray} {G : Option Nat} {F : Nat → Prop} (h : OneJ w0 w b L L r A c X G F) : OneI w0 w b L r A c X G F :=
  ⟨h.names, h.map, h.sl, h.nd, h.hF, h.hG, h.hr, h.below⟩

theorem one_put {w0 w : World} {b : Nat} {L : List ByteArray} {r : Nat} {A : Option Addr} {c : Nat} {X : List ByteArray} {G : Option Nat} {F : Nat → Prop} (h : OneI w0 w b L r A c X G F) (s : ByteArray) (L' : List ByteArray) (x y : Nat) (hp : putM L s = (L', x, y)) (hd : L'.Nodup) :
    Calls Try.prog 11 #[.pointer (some ⟨b, 0, none⟩), .string s] w fun e w' => e = .returned (.tuple #[.int .i64 x, .int .i64 y]) ∧ ∃ F', OneJ w0 w' b L' L r A c X G F' := by
  refine (names_put b L F s w h.names).mono ?_
  rw [hp]
  rintro e w' ⟨rfl, hT, F', hN, hF'⟩
  refine ⟨rfl, F', hN, h.map.keep hT (fun hf => (h.hF r hf).2 rfl), h.sl.keep hT (fun j hj => (h.hG j hj).2), hd, fun j hj => ?_, fun g hg => ⟨(h.hG g hg).1, fun hf => ?_⟩, h.hr, below_tch h.below hT (fun k hk => (h.hF k hk).1)⟩
  · rcases hF' j hj with h1 | h1
    · exact h.hF j h1
    · exact ⟨Nat.le_trans h.below.size h1, by have := h.map.lt; omega⟩
  · rcases hF' g hf with h1 | h1
    · exact (h.hG g hg).2 h1
    · have := h.sl.lt g hg
      omega

theorem OneJ.upd {w0 w w' : World} {b : Nat} {L M : List ByteArray} {r : Nat} {A : Option Addr} {c : Nat} {X : List ByteArray} {G : Option Nat} {F : Nat → Prop} (h : OneJ w0 w b L M r A c X G F) (hm : MapAt w' r (ents nameKeys (numb L 0))) (hT : Tch (· = r) w w') : OneI w0 w' b L r A c X G F :=
  ⟨h.names.keep hT (fun k hk => (h.hF k hk).2), hm, h.sl.keep hT (fun g hg => (h.hG g hg).1), h.nd, h.hF, h.hG, h.hr, below_one h.below hT h.hr⟩

/-- The second loop: the names, their numbers' map, a walk over it, the flags of those that have come. -/
structure OneR (w0 w : World) (b : Nat) (L : List ByteArray) (r q it : Nat) (seen : List Nat) (F : Nat → Prop) : Prop where
  names : NamesQ w b L F
  map : MapAt w r (ents nameKeys (numb L 0))
  flg : MapAt w q (ents numKeys (flags seen))
  walk : RangeAt w it r L.length seen
  hF : ∀ j, F j → j ≠ q ∧ j ≠ it
  rq : r ≠ q
  ri : r ≠ it
  qi : q ≠ it
  base : w0.heap.size ≤ q ∧ w0.heap.size ≤ it
  below : Below w0.heap.size w0 w

/-- Whatever has come. -/
def OneRQ (w0 w : World) (b : Nat) (L : List ByteArray) (r q it : Nat) (F : Nat → Prop) : Prop := ∃ seen, OneR w0 w b L r q it seen F

theorem OneR.upd {w0 w w1 w2 : World} {b : Nat} {L : List ByteArray} {r q it : Nat} {seen : List Nat} {F : Nat → Prop} (h : OneR w0 w b L r q it seen F) (i : Nat) (hW : RangeAt w1 it r L.length (seen ++ [i])) (hT1 : Tch (· = it) w w1)
    (hm : MapAt w2 q (ents numKeys (flags (seen ++ [i])))) (hT2 : Tch (· = q) w1 w2) : OneR w0 w2 b L r q it (seen ++ [i]) F :=
  ⟨(h.names.keep hT1 (fun k hk => (h.hF k hk).2)).keep hT2 (fun k hk => (h.hF k hk).1), (h.map.keep hT1 h.ri).keep hT2 h.rq, hm, hW.keep hT2 (Ne.symm h.qi), h.hF, h.rq, h.ri, h.qi, h.base, below_one (below_one h.below hT1 h.base.2) hT2 h.base.1⟩

set_option maxHeartbeats 4000000 in
set_option maxRecDepth 100000 in
theorem namesOne_walk (a : Option Addr) (cap : Nat) (l : List ByteArray) (w : World) (h : StrsIn w a cap l) :
    Calls Try.prog 6 #[.slice a l.length cap] w fun e w' => e = .returned (.bool true) ∧ Below w.heap.size w w' := by
  have hmm := @run_makeMap Try.prog
  go_enter Try.func6, Try.ntmps6
  go_wp2_with fail
  refine (names_shown w).mono ?_
  rintro e w1 ⟨rfl, hT1⟩
  have B1 := below_no (Below.refl _ w) hT1
  clear hT1
  go_wp2_with fail
  refine (names_new w1).mono ?_
  rintro e w2 ⟨b, F, rfl, hN2, hF2, hT2⟩
  have B2 := below_no B1 hT2
  have hF : ∀ k, F k → w.heap.size ≤ k ∧ k ≠ w2.heap.size := fun k hk => ⟨Nat.le_trans B1.size (hF2 k hk), by have := hN2.lt k hk; omega⟩
  have hr : w.heap.size ≤ w2.heap.size := B2.size
  have hM3 := MapAt.new w2
  have hN3 := hN2.keep ((Tch.refl NoBlk w2).alloc (.map #[] 0)) (fun _ _ h => h)
  have B3 := below_no B2 ((Tch.refl NoBlk w2).alloc (.map #[] 0))
  have hla : ∀ p : Addr, p.block < w.heap.size → (w2.alloc (.map #[] 0)).cell? p = w.cell? p := fun p hp => B3.cell hp
  have HLA := Lib.hid hla
  clear hT2 B1 hF2 hN2 B2 hla
  go_wp2_with fail
  have hin : StrsIn (w2.alloc (.map #[] 0)) a cap l := ⟨h.le, h.cap, fun h0 => by
    obtain ⟨ba, off, rfl, hc⟩ := h.cells h0
    exact ⟨ba, off, rfl, fun i hi => (HLA.out _ (World.block_lt_of_cell? w _ (hc i hi))).trans (hc i hi)⟩, h.wf⟩
  refine (few_any a cap l _ hin).mono ?_
  clear hin
  rintro e w4 ⟨A, c, G, rfl, hS4, hG, hT4⟩
  have hM4 := hM3.keep hT4 (fun h => h)
  have hN4 := hN3.keep hT4 (fun _ _ h => h)
  have B4 := below_no B3 hT4
  have hGr : ∀ g, G = some g → g ≠ w2.heap.size ∧ ¬ F g := fun g hg => by
    have := hG g hg
    simp at this
    exact ⟨by omega, fun hf => by have := hN3.lt g hf; simp at this; omega⟩
  obtain ⟨r, hre⟩ : ∃ r, r = w2.heap.size := ⟨_, rfl⟩
  rw [← hre] at hF hr hM4 hGr ⊢
  clear hM3 hN3 B3 hT4 hG HLA hre
  have hn100 : (fewL l).length ≤ 100 := by rw [fewL_length]; omega
  generalize fewL l = X at *
  go_wp2_with fail
  go_loopw [27] (fun i wr => ∃ (k : Nat) (L : List ByteArray) (F : Nat → Prop), i = .int .i64 k ∧ k ≤ X.length ∧ L.length ≤ k ∧ OneI w wr b L r A c X G F) (fun i _ => X.length - (intOf i).toNat)
  case atStart => exact ⟨0, [], F, rfl, Nat.zero_le _, by simp, hN4, hM4, hS4, List.nodup_nil, hF, hGr, hr, B4⟩
  case round =>
    clear hN4 hM4 hS4 hF hGr B4
    obtain ⟨k, L, F, rfl, hk, hL, hI⟩ := hrel
    have hM := hI.map
    by_cases hlt : k < X.length
    · obtain ⟨g, rfl, rfl, hcell⟩ := hI.sl.cells (by omega)
      have hcw : wr.cell? ⟨g, k, none⟩ = some (.string (X.getD k ByteArray.empty)) := hcell k _ (by simp [strs, List.getD_eq_getElem?_getD, hlt])
      clear hcell
      generalize X.getD k ByteArray.empty = s at *
      by_cases hs : s.size < 1 ∨ 32 < s.size
      · have E := Lib.hid (putM_bad L s hs)
        clear hM
        go_wp2_with fail
        refine (one_put hI s _ _ _ E.out hI.nd).mono ?_
        rintro e w5 ⟨rfl, F5, h5⟩
        rcases hs with hs | hs
        all_goals
          go_wp2
          go_roundw
          case rel => exact ⟨k + 1, L, F5, num (by omega), by omega, by omega, h5.same⟩
          case measure => simp [intOf]; omega
      · have hs1 : 1 ≤ s.size := by omega
        have hs2 : s.size ≤ 32 := by omega
        have hd1 : (1 : Int) ≤ (s.size : Int) := by omega
        have hd2 : decide ((s.size : Int) ≤ 32) = true := by simp; omega
        have hu0 := lk_numb s L 0
        cases hn : npos s L 0 with
        | some n =>
          have E := Lib.hid (putM_old L s n hs hn)
          rw [hn] at hu0
          have HU0 := Lib.hid hu0
          have HM := Lib.hid (upd_numb_old s L n hn)
          have hnn : ((n : Int) != (n : Int)) = false := by simp
          clear hs hu0 hn hM
          go_wp2_with fail
          refine (one_put hI s _ _ _ E.out hI.nd).mono ?_
          rintro e w5 ⟨rfl, F5, h5⟩
          have hm5 := h5.map
          go_wp2_with (first
            | (at_lookup; refine wpList_lk nameKeys rfl _ _ 43 3 rfl Try.underlying43 (.int .i64 0) zeroInt r _ s rfl rfl hm5 (some (.int .i64 n)) HU0.out ?_)
            | (at_mapUpdate; refine wpList_upd nameKeys rfl _ _ _ 43 3 rfl Try.underlying43 r _ s (.int .i64 n) rfl rfl rfl hm5 ?_; intro w6 hm6 ht6; rw [HM.out] at hm6; have H6 := Lib.hid (h5.upd hm6 ht6); clear ht6))
          go_roundw
          case rel => exact ⟨k + 1, L, F5, num (by omega), by omega, by omega, H6.out⟩
          case measure => simp [intOf]; omega
        | none =>
          have E := Lib.hid (putM_new L s hs hn (by omega))
          rw [hn] at hu0
          have HU0 := Lib.hid hu0
          have HM := Lib.hid (upd_numb s L hn)
          have HD := Lib.hid (nodup_snoc hI.nd hn)
          clear hs hu0 hn hM
          go_wp2_with fail
          refine (one_put hI s _ _ _ E.out HD.out).mono ?_
          rintro e w5 ⟨rfl, F5, h5⟩
          have hm5 := h5.map
          go_wp2_with (first
            | (at_lookup; refine wpList_lk nameKeys rfl _ _ 43 3 rfl Try.underlying43 (.int .i64 0) zeroInt r _ s rfl rfl hm5 none HU0.out ?_)
            | (at_mapUpdate; refine wpList_upd nameKeys rfl _ _ _ 43 3 rfl Try.underlying43 r _ s (.int .i64 L.length) rfl rfl rfl hm5 ?_; intro w6 hm6 ht6; rw [HM.out] at hm6; have H6 := Lib.hid (h5.upd hm6 ht6); clear ht6))
          go_roundw
          case rel => exact ⟨k + 1, L ++ [s], F5, num (by omega), by omega, by simp; omega, H6.out⟩
          case measure => simp [intOf]; omega
    · have hge : X.length ≤ k := by omega
      have hL100 : L.length ≤ 100 := by omega
      have hdl : decide ((k : Int) < (X.length : Int)) = false := by simp; omega
      have hdm : decide (k < X.length) = false := by simp; omega
      clear hlt
      obtain ⟨hN, hM, _, hd, hF, _, hr2, hB⟩ := hI
      have HD := Lib.hid hd
      have HQ : Hid (OneR w ((wr.alloc (.map #[] 0)).alloc (.mapIter (some r) L.length #[] L.length)) b L r wr.heap.size (wr.heap.size + 1) [] F) := Lib.hid (by
        have t1 := (Tch.refl NoBlk wr).alloc (.map #[] 0)
        have t2 := t1.alloc (.mapIter (some r) L.length #[] L.length)
        have l1 := hM.lt
        refine ⟨hN.keep t2 (fun _ _ h => h), hM.keep t2 (fun h => h), ?_, ?_, fun j hj => ?_, by omega, by omega, by omega, ?_, below_no hB t2⟩
        · exact (MapAt.new wr).keep ((Tch.refl NoBlk _).alloc _) (fun h => h)
        · have := heap_alloc_new (wr.alloc (.map #[] 0)) (.mapIter (some r) L.length #[] L.length)
          simpa [RangeAt] using this
        · have := hN.lt j hj
          omega
        · have := hB.size
          omega)
      have hmA : MapAt (wr.alloc (.map #[] 0)) r (ents nameKeys (numb L 0)) := hM.keep ((Tch.refl NoBlk wr).alloc _) (fun h => h)
      have hlen : (ents nameKeys (numb L 0)).length = L.length := by rw [ents, List.length_map, numb_length]
      have HLEN := Lib.hid hlen
      clear hN hM hd hF hB hlen
      go_wp2_with (first | (at_range; refine wpList_rng rfl _ 43 9 3 rfl Try.underlying43 r _ rfl hmA ?_; intro hra; rw [HLEN.out]; simp only [World.size_alloc]; clear hra))
      go_frame
      have HP : Hid (∀ (i : Nat) (p : Value × Value), (ents nameKeys (numb L 0))[i]? = some p → ∃ s, L[i]? = some s ∧ p = (.string s, .int .i64 (i : Int))) := Lib.hid (by
        intro i p hp
        rw [ents, List.getElem?_map, numb_get] at hp
        cases hs : L[i]? with
        | none => rw [hs] at hp; cases hp
        | some s =>
          rw [hs] at hp
          simp only [Option.map_some, Option.some.injEq] at hp
          refine ⟨s, rfl, ?_⟩
          rw [← hp, Nat.zero_add]
          rfl)
      go_loopw [13] (fun _ wz => OneRQ w wz b L r wr.heap.size (wr.heap.size + 1) F) (fun _ wz => leftAt wz (wr.heap.size + 1))
      case atStart => exact ⟨[], HQ.out⟩
      case round =>
        clear hmA HQ
        obtain ⟨seen, hR⟩ := hrel
        have hmR := hR.map
        have hwk := hR.walk
        rw [← HLEN.out] at hwk
        go_wp2_with (first
          | (at_next; refine wpList_nxt rfl _ rfl r _ _ seen rfl hmR hwk (Ne.symm hR.ri) ?_ ?_ <;> first | (intro i p w5 hi hns hp hW hT5 hz5 hen; rw [HLEN.out] at hi hW; obtain ⟨s, hs, rfl⟩ := HP.out i p hp; clear hp; dsimp only at hen ⊢; have HI := Lib.hid hR; clear hR) | intro hdone))
        · have hN := hR.names
          have HB := Lib.hid hR.below
          have hM3 := hmR
          clear hR hmR hwk hdone
          refine (names_len b L F _ hN).mono ?_
          rintro e w6 ⟨rfl, rfl⟩
          go_wp2_with (at_len; refine wpList_mlen nameKeys rfl _ 43 3 rfl Try.underlying43 r _ rfl hM3 ?_)
          go_ret
          refine ⟨ret_bool ?_, HB.out⟩
          rw [numb_length]
          simp
        · have HT := Lib.hid hT5
          have HNS := Lib.hid hns
          have HS := Lib.hid hs
          have HP2 := Lib.hid (npos_nodup L 0 i s HD.out hs)
          have hN5 := HI.out.names.keep hT5 (fun k hk => (HI.out.hF k hk).2)
          have hq5 := HI.out.flg.keep hT5 HI.out.qi
          have hM0 := Lib.hid (leftAt_eq HI.out.walk)
          have hsd : L.getD i ByteArray.empty = s := by rw [List.getD_eq_getElem?_getD, hs]; rfl
          have HSD := Lib.hid hsd
          have HL0 : Hid ((lk (flags seen) (i : Int)).getD (.bool false) = .bool false) := Lib.hid (by rw [lk_flags _ _ hns]; rfl)
          have hii : ((i : Int) != (i : Int)) = false := by simp
          have hi0 : decide ((i : Int) < 0) = false := by simp
          have hil : decide ((L.length : Int) ≤ (i : Int)) = false := by simp; omega
          clear hmR hwk hns hs hT5 hz5 hM hsd
          refine (names_text_yes b L F i _ hN5 (by omega) (by omega)).mono ?_
          rintro e w6 ⟨rfl, rfl⟩
          rw [Int.toNat_natCast, HSD.out]
          go_wp2_with fail
          refine (names_find b L F s _ hN5).mono ?_
          rw [HP2.out, Nat.zero_add]
          unfold told
          simp only [Option.getD_some, Option.isSome_some]
          rintro e w6 ⟨rfl, rfl⟩
          go_wp2_with (first
            | (at_lookup; refine wpList_lk1 numKeys rfl _ _ 44 4 rfl Try.underlying44 (.bool false) zeroBool _ _ (i : Int) rfl rfl hq5 (.bool false) HL0.out ?_))
          refine (names_len b L F _ hN5).mono ?_
          rintro e w7 ⟨rfl, rfl⟩
          go_wp2_with (first
            | (at_mapUpdate; refine wpList_upd numKeys rfl _ _ _ 44 4 rfl Try.underlying44 _ _ (i : Int) (.bool true) rfl rfl rfl hq5 ?_; intro w8 hm8 ht8; rw [upd_flags _ _ HNS.out] at hm8; have H8 := Lib.hid (HI.out.upd i hW HT.out hm8 ht8); have HL8 := Lib.hid (leftAt_eq H8.out.walk); clear ht8))
          go_frame
          go_roundw
          case rel => exact ⟨_, H8.out⟩
          case measure =>
            rw [HL8.out, hM0.out]
            exact left_lt hi HNS.out
end Go.Proofs.Ytbhplnkcnmlbnaa
