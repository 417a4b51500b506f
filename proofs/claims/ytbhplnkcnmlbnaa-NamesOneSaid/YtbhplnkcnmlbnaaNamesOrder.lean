/- NamesOrder's walk. -/
import Derived.Test.YtbhplnkcnmlbnaaNamesLaw
import Derived.Maps.OwnSet
namespace Go.Proofs.Ytbhplnkcnmlbnaa
open Go.RowKit

def trues (l : List ByteArray) : List (ByteArray × Value) := l.map fun s => (s, .bool true)
theorem trues_length (l : List ByteArray) : (trues l).length = l.length := by simp [trues]
theorem lk_trues (s : ByteArray) : ∀ (l : List ByteArray) (i : Nat), lk (trues l) s = (npos s l i).map fun _ => .bool true
  | [], i => rfl
  | x :: r, i => by
    show lk ((x, .bool true) :: trues r) s = _
    rw [lk_cons, lk_trues s r (i + 1), npos]
    split
    · rfl
    · rfl
theorem upd_trues_new (s : ByteArray) (l : List ByteArray) (h : npos s l 0 = none) : upd (trues l) s (.bool true) = trues (l ++ [s]) := by
  have h1 : lk (trues l) s = none := by rw [lk_trues s l 0, h]; rfl
  have h2 : seek s (trues l) 0 = none := by
    unfold lk at h1
    exact Option.map_eq_none_iff.1 h1
  unfold upd
  rw [h2]
  simp [trues]
theorem upd_trues_old (s : ByteArray) (l : List ByteArray) (n : Nat) (h : npos s l 0 = some n) : upd (trues l) s (.bool true) = trues l := by
  unfold upd
  cases hk : seek s (trues l) 0 with
  | none =>
    exfalso
    have h1 := lk_trues s l 0
    unfold lk at h1
    rw [hk, h] at h1
    cases h1
  | some p =>
    obtain ⟨i, u⟩ := p
    obtain ⟨_, h2⟩ := seek_spec s (trues l) 0 i u hk
    rw [Nat.sub_zero] at h2
    have hu : u = .bool true := by
      simp only [trues, List.getElem?_map, Option.map_eq_some_iff] at h2
      obtain ⟨x, _, hx⟩ := h2
      injection hx with _ hx
      exact hx.symm
    subst hu
    show (trues l).set i (s, .bool true) = trues l
    apply List.ext_getElem?
    intro j
    rw [List.getElem?_set]
    split
    · rename_i hij
      subst hij
      split
      · exact h2.symm
      · rename_i hge
        rw [List.getElem?_eq_none (by omega)]
    · rfl

theorem putM_bad (l : List ByteArray) (s : ByteArray) (h : s.size < 1 ∨ 32 < s.size) : putM l s = (l, 0, 1) := by simp only [putM, if_pos h]
theorem putM_old (l : List ByteArray) (s : ByteArray) (n : Nat) (h : ¬ (s.size < 1 ∨ 32 < s.size)) (hn : npos s l 0 = some n) : putM l s = (l, n, 0) := by simp only [putM, if_neg h, hn]
theorem putM_new (l : List ByteArray) (s : ByteArray) (h : ¬ (s.size < 1 ∨ 32 < s.size)) (hn : npos s l 0 = none) (hl : l.length < 4096) : putM l s = (l ++ [s], l.length, 0) := by
  simp only [putM, if_neg h, hn, if_neg (show ¬ 4096 ≤ l.length by omega)]

theorem zeroBool (w : World) : (zeroValue 4).run Try.prog w = .ok (.bool false) w := by kernel_rfl

/-- What the law holds: names L at b, a map at r whose keys are M, a slice of strings X, each in blocks of its own, new since w0. -/
structure OrdI (w0 w : World) (b : Nat) (L M : List ByteArray) (r : Nat) (A : Option Addr) (c : Nat) (X : List ByteArray) (G : Option Nat) (F : Nat → Prop) : Prop where
  names : NamesQ w b L F
  map : MapAt w r (ents nameKeys (trues M))
  sl : Sl w 9 1 A X.length c (strs X) G
  hF : ∀ j, F j → w0.heap.size ≤ j ∧ j ≠ r
  hG : ∀ g, G = some g → g ≠ r ∧ ¬ F g
  hr : w0.heap.size ≤ r
  below : Below w0.heap.size w0 w

theorem ord_put {w0 w : World} {b : Nat} {L M : List ByteArray} {r : Nat} {A : Option Addr} {c : Nat} {X : List ByteArray} {G : Option Nat} {F : Nat → Prop} (h : OrdI w0 w b L M r A c X G F) (s : ByteArray) (L' : List ByteArray) (x y : Nat) (hp : putM L s = (L', x, y)) :
    Calls Try.prog 11 #[.pointer (some ⟨b, 0, none⟩), .string s] w fun e w' => e = .returned (.tuple #[.int .i64 x, .int .i64 y]) ∧ ∃ F', OrdI w0 w' b L' M r A c X G F' := by
  refine (names_put b L F s w h.names).mono ?_
  rw [hp]
  rintro e w' ⟨rfl, hT, F', hN, hF'⟩
  refine ⟨rfl, F', hN, h.map.keep hT (fun hf => (h.hF r hf).2 rfl), h.sl.keep hT (fun j hj => (h.hG j hj).2), fun j hj => ?_, fun g hg => ⟨(h.hG g hg).1, fun hf => ?_⟩, h.hr, below_tch h.below hT (fun k hk => (h.hF k hk).1)⟩
  · rcases hF' j hj with h1 | h1
    · exact h.hF j h1
    · exact ⟨Nat.le_trans h.below.size h1, by have := h.map.lt; omega⟩
  · rcases hF' g hf with h1 | h1
    · exact (h.hG g hg).2 h1
    · have := h.sl.lt g hg
      omega

theorem OrdI.upd {w0 w w' : World} {b : Nat} {L M M' : List ByteArray} {r : Nat} {A : Option Addr} {c : Nat} {X : List ByteArray} {G : Option Nat} {F : Nat → Prop} (h : OrdI w0 w b L M r A c X G F) (hm : MapAt w' r (ents nameKeys (trues M'))) (hT : Tch (· = r) w w') : OrdI w0 w' b L M' r A c X G F :=
  ⟨h.names.keep hT (fun k hk => (h.hF k hk).2), hm, h.sl.keep hT (fun g hg => (h.hG g hg).1), h.hF, h.hG, h.hr, below_one h.below hT h.hr⟩

theorem trues_get (s : ByteArray) (l : List ByteArray) : ((lk (trues l) s).getD (.bool false)) = .bool (npos s l 0).isSome := by
  rw [lk_trues s l 0]
  cases npos s l 0 <;> rfl


theorem app_ne (s : ByteArray) : s ++ (⟨#[120]⟩ : ByteArray) ≠ s := by
  intro h
  have h1 := congrArg ByteArray.size h
  rw [ByteArray.size_append] at h1
  have h2 : (⟨#[120]⟩ : ByteArray).size = 1 := rfl
  omega
theorem npos_ne {s t : ByteArray} {l : List ByteArray} {i j : Nat} (hne : t ≠ s) (ht : npos t l 0 = some j) (hs : npos s l 0 = some i) : j ≠ i := by
  rintro rfl
  obtain ⟨_, _, h1⟩ := npos_lt t l 0 j ht
  obtain ⟨_, _, h2⟩ := npos_lt s l 0 j hs
  rw [h1] at h2
  injection h2 with h2
  exact hne h2

set_option maxHeartbeats 4000000 in
set_option maxRecDepth 100000 in
theorem namesOrder_walk (a : Option Addr) (cap : Nat) (l : List ByteArray) (w : World) (h : StrsIn w a cap l) :
    Calls Try.prog 3 #[.slice a l.length cap] w fun e w' => e = .returned (.bool true) ∧ Below w.heap.size w w' := by
  have hmm := @run_makeMap Try.prog
  go_enter Try.func3, Try.ntmps3
  go_wp2_with fail
  refine (names_shown w).mono ?_
  rintro e w1 ⟨rfl, hT1⟩
  have B1 := below_no (Below.refl _ w) hT1
  clear hT1
  go_wp2_with fail
  refine (names_new w1).mono ?_
  rintro e w2 ⟨b, F, rfl, hN2, hF2, hT2⟩
  have B2 := below_no B1 hT2
  have hF : ∀ k, F k → w.heap.size ≤ k ∧ k ≠ w2.heap.size := fun k hk => ⟨Nat.le_trans B1.size (hF2 k hk), by have := hN2.lt k hk; omega⟩
  have hr : w.heap.size ≤ w2.heap.size := B2.size
  have hM3 := MapAt.new w2
  have hN3 := hN2.keep ((Tch.refl NoBlk w2).alloc (.map #[] 0)) (fun _ _ h => h)
  have B3 := below_no B2 ((Tch.refl NoBlk w2).alloc (.map #[] 0))
  have hla : ∀ p : Addr, p.block < w.heap.size → (w2.alloc (.map #[] 0)).cell? p = w.cell? p := fun p hp => B3.cell hp
  have HLA := Lib.hid hla
  clear hT2 B1 hF2 hN2 B2 hla
  go_wp2_with fail
  have hin : StrsIn (w2.alloc (.map #[] 0)) a cap l := ⟨h.le, h.cap, fun h0 => by
    obtain ⟨ba, off, rfl, hc⟩ := h.cells h0
    exact ⟨ba, off, rfl, fun i hi => (HLA.out _ (World.block_lt_of_cell? w _ (hc i hi))).trans (hc i hi)⟩, h.wf⟩
  refine (few_any a cap l _ hin).mono ?_
  clear hin
  rintro e w4 ⟨A, c, G, rfl, hS4, hG, hT4⟩
  have hM4 := hM3.keep hT4 (fun h => h)
  have hN4 := hN3.keep hT4 (fun _ _ h => h)
  have B4 := below_no B3 hT4
  have hGr : ∀ g, G = some g → g ≠ w2.heap.size ∧ ¬ F g := fun g hg => by
    have := hG g hg
    simp at this
    exact ⟨by omega, fun hf => by have := hN3.lt g hf; simp at this; omega⟩
  obtain ⟨r, hre⟩ : ∃ r, r = w2.heap.size := ⟨_, rfl⟩
  rw [← hre] at hF hr hM4 hGr ⊢
  clear hM3 hN3 B3 hT4 hG HLA hre
  have hn100 : (fewL l).length ≤ 100 := by rw [fewL_length]; omega
  have HX := Lib.hid (fun (s : ByteArray) (hs : s ∈ fewL l) => show s.size ≤ 40 by
    unfold fewL at hs
    simp only [List.mem_map] at hs
    obtain ⟨x, _, rfl⟩ := hs
    exact cut40_size x)
  generalize fewL l = X at *
  go_wp2_with fail
  go_loopw [21] (fun i wr => ∃ (k : Nat) (L : List ByteArray) (F : Nat → Prop), i = .int .i64 k ∧ k ≤ X.length ∧ L.length ≤ 2 * k ∧ OrdI w wr b L L r A c X G F) (fun i _ => X.length - (intOf i).toNat)
  case atStart => exact ⟨0, [], F, rfl, Nat.zero_le _, by simp, hN4, hM4, hS4, hF, hGr, hr, B4⟩
  case round =>
    clear hN4 hM4 hS4 hF hGr B4
    obtain ⟨k, L, F, rfl, hk, hL, hI⟩ := hrel
    have hM := hI.map
    by_cases hlt : k < X.length
    · obtain ⟨g, rfl, rfl, hcell⟩ := hI.sl.cells (by omega)
      have hcw : wr.cell? ⟨g, k, none⟩ = some (.string (X.getD k ByteArray.empty)) := hcell k _ (by simp [strs, List.getD_eq_getElem?_getD, hlt])
      have hsz := HX.out (X.getD k ByteArray.empty) (by rw [List.getD_eq_getElem?_getD, List.getElem?_eq_getElem hlt]; exact List.getElem_mem hlt)
      clear hcell
      generalize X.getD k ByteArray.empty = s at *
      have hu0 := trues_get s L
      by_cases hs : s.size < 1 ∨ 32 < s.size
      · have E := Lib.hid (putM_bad L s hs)
        clear hs hu0
        go_wp2_with (at_len; refine wpList_mlen nameKeys rfl _ 26 4 rfl Try.underlying26 r _ rfl hM ?_)
        refine (ord_put hI s _ _ _ E.out).mono ?_
        rintro e w5 ⟨rfl, F5, h5⟩
        go_wp2
        go_roundw
        case rel => exact ⟨k + 1, L, F5, num (by omega), by omega, by omega, h5⟩
        case measure => simp [intOf]; omega
      · cases hn : npos s L 0 with
        | some n =>
          have E := Lib.hid (putM_old L s n hs hn)
          rw [hn] at hu0
          have HU0 := Lib.hid hu0
          have HM := Lib.hid (upd_trues_old s L n hn)
          have HN := Lib.hid hn
          obtain ⟨_, hnl, _⟩ := npos_lt s L 0 n hn
          rw [Nat.zero_add] at hnl
          clear hs hu0 hn
          go_wp2_with (at_len; refine wpList_mlen nameKeys rfl _ 26 4 rfl Try.underlying26 r _ rfl hM ?_)
          refine (ord_put hI s _ _ _ E.out).mono ?_
          rintro e w5 ⟨rfl, F5, h5⟩
          rw [trues_length]
          have hm5 := h5.map
          go_wp2_with (first
            | (at_lookup; refine wpList_lk1 nameKeys rfl _ _ 26 4 rfl Try.underlying26 (.bool false) zeroBool r _ s rfl rfl hm5 (.bool true) HU0.out ?_)
            | (at_mapUpdate; refine wpList_upd nameKeys rfl _ _ _ 26 4 rfl Try.underlying26 r _ s (.bool true) rfl rfl rfl hm5 ?_; intro w6 hm6 ht6; rw [HM.out] at hm6; have H6 := Lib.hid (h5.upd hm6 ht6); clear ht6))
          -- the name with a letter more; L: the names then; n: the number of s; $M$: the map's
          obtain ⟨t, ht⟩ : ∃ t, s ++ (⟨#[120]⟩ : ByteArray) = t := ⟨_, rfl⟩
          have htn : t ≠ s := by rw [← ht]; exact app_ne s
          have HTN := Lib.hid htn
          clear htn
          rw [ht]
          by_cases ht2 : t.size < 1 ∨ 32 < t.size
          · have E2 := Lib.hid (putM_bad L t ht2)
            clear ht2
            refine (ord_put H6.out t _ _ _ E2.out).mono ?_
            rintro e w7 ⟨rfl, F7, h7⟩
            go_wp2
            go_roundw
            case rel => exact ⟨k + 1, L, F7, num (by omega), by omega, by omega, h7⟩
            case measure => simp [intOf]; omega
          · cases hnt : npos t L 0 with
            | some j =>
              have E2 := Lib.hid (putM_old L t j ht2 hnt)
              have HU := Lib.hid (upd_trues_old t L j hnt)
              have hji : ((j : Int) == (n : Int)) = false := by
                simp only [beq_eq_false_iff_ne, ne_eq, Int.natCast_inj]
                exact npos_ne HTN.out hnt HN.out
              clear ht2 hnt
              refine (ord_put H6.out t _ _ _ E2.out).mono ?_
              rintro e w7 ⟨rfl, F7, h7⟩
              have hm7 := h7.map
              go_wp2_with (at_mapUpdate; refine wpList_upd nameKeys rfl _ _ _ 26 4 rfl Try.underlying26 r _ t (.bool true) rfl rfl rfl hm7 ?_; intro w8 hm8 ht8; rw [HU.out] at hm8; have H8 := Lib.hid (h7.upd hm8 ht8); clear ht8)
              go_roundw
              case rel => exact ⟨k + 1, L, F7, num (by omega), by omega, by omega, H8.out⟩
              case measure => simp [intOf]; omega
            | none =>
              have E2 := Lib.hid (putM_new L t ht2 hnt (by omega))
              have HU := Lib.hid (upd_trues_new t L hnt)
              have hji : (((L : List ByteArray).length : Int) == (n : Int)) = false := by
                obtain ⟨_, hx, _⟩ := npos_lt s L 0 _ HN.out
                simp only [beq_eq_false_iff_ne, ne_eq, Int.natCast_inj]
                omega
              clear ht2 hnt
              refine (ord_put H6.out t _ _ _ E2.out).mono ?_
              rintro e w7 ⟨rfl, F7, h7⟩
              have hm7 := h7.map
              go_wp2_with (at_mapUpdate; refine wpList_upd nameKeys rfl _ _ _ 26 4 rfl Try.underlying26 r _ t (.bool true) rfl rfl rfl hm7 ?_; intro w8 hm8 ht8; rw [HU.out] at hm8; have H8 := Lib.hid (h7.upd hm8 ht8); clear ht8)
              go_roundw
              case rel => exact ⟨k + 1, (L : List ByteArray) ++ [t], F7, num (by omega), by omega, by (simp only [List.length_append, List.length_singleton]; omega), H8.out⟩
              case measure => simp [intOf]; omega
        | none =>
          have E := Lib.hid (putM_new L s hs hn (by omega))
          rw [hn] at hu0
          have HU0 := Lib.hid hu0
          have HM := Lib.hid (upd_trues_new s L hn)
          have hn1 : npos s (L ++ [s]) 0 = some L.length := by rw [npos_snoc, hn, if_pos rfl, Nat.zero_add]; rfl
          have HN := Lib.hid hn1
          have hl1 : (L ++ [s]).length = L.length + 1 := by rw [List.length_append]; rfl
          have HL1 := Lib.hid hl1
          clear hs hu0 hn hn1 hl1
          go_wp2_with (at_len; refine wpList_mlen nameKeys rfl _ 26 4 rfl Try.underlying26 r _ rfl hM ?_)
          refine (ord_put hI s _ _ _ E.out).mono ?_
          rintro e w5 ⟨rfl, F5, h5⟩
          rw [trues_length]
          have hm5 := h5.map
          have hne : ((L.length : Int) != (L.length : Int)) = false := by simp
          go_wp2_with (first
            | (at_lookup; refine wpList_lk1 nameKeys rfl _ _ 26 4 rfl Try.underlying26 (.bool false) zeroBool r _ s rfl rfl hm5 (.bool false) HU0.out ?_)
            | (at_mapUpdate; refine wpList_upd nameKeys rfl _ _ _ 26 4 rfl Try.underlying26 r _ s (.bool true) rfl rfl rfl hm5 ?_; intro w6 hm6 ht6; rw [HM.out] at hm6; have H6 := Lib.hid (h5.upd hm6 ht6); clear ht6))
          -- the name with a letter more; (L ++ [s]): the names then; L.length: the number of s; $M$: the map's
          obtain ⟨t, ht⟩ : ∃ t, s ++ (⟨#[120]⟩ : ByteArray) = t := ⟨_, rfl⟩
          have htn : t ≠ s := by rw [← ht]; exact app_ne s
          have HTN := Lib.hid htn
          clear htn
          rw [ht]
          by_cases ht2 : t.size < 1 ∨ 32 < t.size
          · have E2 := Lib.hid (putM_bad (L ++ [s]) t ht2)
            clear ht2
            refine (ord_put H6.out t _ _ _ E2.out).mono ?_
            rintro e w7 ⟨rfl, F7, h7⟩
            go_wp2
            go_roundw
            case rel => exact ⟨k + 1, (L ++ [s]), F7, num (by omega), by omega, by have := HL1.out; omega, h7⟩
            case measure => simp [intOf]; omega
          · cases hnt : npos t (L ++ [s]) 0 with
            | some j =>
              have E2 := Lib.hid (putM_old (L ++ [s]) t j ht2 hnt)
              have HU := Lib.hid (upd_trues_old t (L ++ [s]) j hnt)
              have hji : ((j : Int) == (L.length : Int)) = false := by
                simp only [beq_eq_false_iff_ne, ne_eq, Int.natCast_inj]
                exact npos_ne HTN.out hnt HN.out
              clear ht2 hnt
              refine (ord_put H6.out t _ _ _ E2.out).mono ?_
              rintro e w7 ⟨rfl, F7, h7⟩
              have hm7 := h7.map
              go_wp2_with (at_mapUpdate; refine wpList_upd nameKeys rfl _ _ _ 26 4 rfl Try.underlying26 r _ t (.bool true) rfl rfl rfl hm7 ?_; intro w8 hm8 ht8; rw [HU.out] at hm8; have H8 := Lib.hid (h7.upd hm8 ht8); clear ht8)
              go_roundw
              case rel => exact ⟨k + 1, (L ++ [s]), F7, num (by omega), by omega, by have := HL1.out; omega, H8.out⟩
              case measure => simp [intOf]; omega
            | none =>
              have E2 := Lib.hid (putM_new (L ++ [s]) t ht2 hnt (by have := HL1.out; omega))
              have HU := Lib.hid (upd_trues_new t (L ++ [s]) hnt)
              have hji : ((((L ++ [s]) : List ByteArray).length : Int) == (L.length : Int)) = false := by
                obtain ⟨_, hx, _⟩ := npos_lt s (L ++ [s]) 0 _ HN.out
                simp only [beq_eq_false_iff_ne, ne_eq, Int.natCast_inj]
                omega
              clear ht2 hnt
              refine (ord_put H6.out t _ _ _ E2.out).mono ?_
              rintro e w7 ⟨rfl, F7, h7⟩
              have hm7 := h7.map
              go_wp2_with (at_mapUpdate; refine wpList_upd nameKeys rfl _ _ _ 26 4 rfl Try.underlying26 r _ t (.bool true) rfl rfl rfl hm7 ?_; intro w8 hm8 ht8; rw [HU.out] at hm8; have H8 := Lib.hid (h7.upd hm8 ht8); clear ht8)
              go_roundw
              case rel => exact ⟨k + 1, ((L ++ [s]) : List ByteArray) ++ [t], F7, num (by omega), by omega, by (have := HL1.out; simp only [List.length_append, List.length_singleton]; omega), H8.out⟩
              case measure => simp [intOf]; omega
    · have hge : X.length ≤ k := by omega
      clear hlt
      go_wp2_with fail
      refine (names_len b L F _ hI.names).mono ?_
      rintro e w5 ⟨rfl, rfl⟩
      go_wp2_with (at_len; refine wpList_mlen nameKeys rfl _ 26 4 rfl Try.underlying26 r _ rfl hM ?_)
      go_ret
      refine ⟨ret_bool ?_, hI.below⟩
      rw [trues_length]
      simp
end Go.Proofs.Ytbhplnkcnmlbnaa
