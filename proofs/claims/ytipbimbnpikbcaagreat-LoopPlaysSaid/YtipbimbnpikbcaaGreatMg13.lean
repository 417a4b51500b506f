import Derived.Test.YtipbimbnpikbcaaGreatMg12
import Derived.Deep.RegionLaw
import Derived.BigRegion
import Derived.Test.YtipbimbnpikbcaaGreatMg09
/- A token is made. -/
namespace Go.Proofs.YtipbimbnpikbcaaGreat
open Go.RowKit

theorem belowL_none {ab : List Int} (H : TreeWf ab) (i : Nat) (hi : ab.length ≤ i) : belowL ab i = [] := by
  apply List.eq_nil_iff_forall_not_mem.2
  intro x hx
  obtain ⟨j, _, h1, h2⟩ := belowL_mem.1 hx
  have := (H.up h2).1
  omega

def CanLeft (w w' : World) (b : Nat) (F : Nat → Prop) (ab : List Int) (off : List Bool) : Prop := Tch F w w' ∧ ∃ F', CanQ w' b ab off F' ∧ ∀ k, F' k → F k ∨ w.heap.size ≤ k
theorem CanLeft.same {w : World} {b : Nat} {F : Nat → Prop} {ab : List Int} {off : List Bool} (h : CanQ w b ab off F) : CanLeft w w b F ab off := ⟨Tch.refl _ _, F, h, fun _ hk => .inl hk⟩

/-- One that is below none. -/
theorem can_put0 {w w' : World} {b : Nat} {ab : List Int} {off : List Bool} {F : Nat → Prop} {vs : List Bv} {G : Option Nat} {A' : Option Addr} {c' : Nat} {G' : Option Nat}
    (h1 : vs.length = ab.length) (h2 : ∀ (i : Nat) (x : Bv), vs[i]? = some x → x.b = belowL ab i) (h3 : TreeOk ab off) (hF : ∀ k, F k ↔ KF b vs G k) (hl : ab.length < 1024)
    (h : CanAt w' b (vs ++ [⟨[], none, 0, none⟩]) (off ++ [toffM off (-1)]) A' c' G') (hK : ∀ k, KF b (vs ++ [⟨[], none, 0, none⟩]) G' k → KF b vs G k ∨ w.heap.size ≤ k) (hT : Tch (KF b vs G) w w') :
    CanLeft w w' b F (ab ++ [-1]) (off ++ [toffM off (-1)]) := by
  have ho := tmakeM_ok h3 (-1)
  unfold tmakeM at ho
  rw [if_neg (by simp), if_neg (by omega)] at ho
  refine ⟨hT.mono (fun k _ e => (hF k).2 e), _, ⟨_, _, _, _, h, by simp [h1], fun i x hx => ?_, ho, fun _ => Iff.rfl⟩, fun k hk => (hK k hk).imp_left (fun e => (hF k).2 e)⟩
  rw [belowL_snoc, if_neg (by omega), List.append_nil]
  by_cases hi : i < vs.length
  · rw [List.getElem?_append_left hi] at hx
    exact h2 i x hx
  · rw [List.getElem?_append_right (by omega)] at hx
    have h0 : i - vs.length = 0 := by
      rcases Nat.eq_zero_or_pos (i - vs.length) with h | h
      · exact h
      · rw [List.getElem?_eq_none (by simp; omega)] at hx
        cases hx
    rw [h0] at hx
    simp at hx
    rw [← hx, belowL_none h3.wf i (by omega)]
/-- One that is below a. -/
theorem can_put1 {w w' : World} {b : Nat} {ab : List Int} {off : List Bool} {F : Nat → Prop} {vs : List Bv} {G : Option Nat} {A' : Option Addr} {c' : Nat} {G' : Option Nat} {a : Nat} {x : Bv} {A2 : Option Addr} {c2 : Nat} {G2 : Option Nat}
    (h1 : vs.length = ab.length) (h2 : ∀ (i : Nat) (x : Bv), vs[i]? = some x → x.b = belowL ab i) (h3 : TreeOk ab off) (hF : ∀ k, F k ↔ KF b vs G k) (hl : ab.length < 1024) (ha : a < ab.length) (hx : vs[a]? = some x)
    (h : CanAt w' b ((vs ++ [(⟨[], none, 0, none⟩ : Bv)]).set a ⟨x.b ++ [(vs.length : Int)], A2, c2, G2⟩) (off ++ [toffM off a]) A' c' G') (hK : ∀ k, KF b ((vs ++ [(⟨[], none, 0, none⟩ : Bv)]).set a ⟨x.b ++ [(vs.length : Int)], A2, c2, G2⟩) G' k → KF b vs G k ∨ w.heap.size ≤ k) (hT : Tch (KF b vs G) w w') :
    CanLeft w w' b F (ab ++ [(a : Int)]) (off ++ [toffM off a]) := by
  have ho := tmakeM_ok h3 (a : Int)
  unfold tmakeM at ho
  rw [if_neg (by omega), if_neg (by omega)] at ho
  refine ⟨hT.mono (fun k _ e => (hF k).2 e), _, ⟨_, _, _, _, h, by simp [h1], fun i y hy => ?_, ho, fun _ => Iff.rfl⟩, fun k hk => (hK k hk).imp_left (fun e => (hF k).2 e)⟩
  rw [belowL_snoc]
  by_cases hia : i = a
  · subst hia
    rw [List.getElem?_set_self (by simp; omega)] at hy
    injection hy with hy
    rw [← hy, if_pos rfl, h2 i x hx, h1]
  · rw [List.getElem?_set_ne (Ne.symm hia)] at hy
    rw [if_neg (by omega), List.append_nil]
    by_cases hi : i < vs.length
    · rw [List.getElem?_append_left hi] at hy
      exact h2 i y hy
    · rw [List.getElem?_append_right (by omega)] at hy
      have h0 : i - vs.length = 0 := by
        rcases Nat.eq_zero_or_pos (i - vs.length) with h | h
        · exact h
        · rw [List.getElem?_eq_none (by simp; omega)] at hy
          cases hy
      rw [h0] at hy
      simp at hy
      rw [← hy, belowL_none h3.wf i (by omega)]

theorem can_row {w w7 w9 : World} {b : Nat} {ab : List Int} {off : List Bool} {F : Nat → Prop} {vs : List Bv} {G : Option Nat} {A6 : Option Addr} {c6 g a : Nat} {x : Bv} {A9 : Option Addr} {c9 : Nat} {G9 : Option Nat}
    (h1 : vs.length = ab.length) (h2 : ∀ (i : Nat) (x : Bv), vs[i]? = some x → x.b = belowL ab i) (h3 : TreeOk ab off) (hF : ∀ k, F k ↔ KF b vs G k) (hl : ab.length < 1024) (ha : a < ab.length) (hx : vs[a]? = some x)
    (h7 : CanAt w7 b (vs ++ [⟨[], none, 0, none⟩]) (off ++ [toffM off a]) A6 c6 (some g)) (hK : ∀ k, KF b (vs ++ [⟨[], none, 0, none⟩]) (some g) k → KF b vs G k ∨ w.heap.size ≤ k) (hT : Tch (KF b vs G) w w7)
    (hT9 : Tch (fun k => x.G = some k) w7 w9) (hS9 : Sl w9 3 1 A9 (x.b.length + 1) c9 (ints x.b ++ [.int .i64 vs.length]) G9) (hG9 : G9 = x.G ∨ ∃ g, G9 = some g ∧ (w7.alloc (.cells #[.int .i64 vs.length] 3)).drew.heap.size ≤ g) :
    CanLeft w (w9.setCell ⟨g, a * 2, none⟩ (.slice A9 (x.b.length + 1) c9)) b F (ab ++ [(a : Int)]) (off ++ [toffM off a]) := by
  have hav : a < vs.length := by omega
  have hx7 : (vs ++ [(⟨[], none, 0, none⟩ : Bv)])[a]? = some x := by rw [List.getElem?_append_left hav]; exact hx
  have hnx := h7.nx a x hx7
  have hs9 := h7.sl.keep hT9 (fun k hk e => hnx.2 k e hk)
  have hS : Tch (· = g) w9 (w9.setCell ⟨g, a * 2, none⟩ (.slice A9 (x.b.length + 1) c9)) := hs9.setT (a * 2) _
  have hT10 : Tch (fun k => k = g ∨ x.G = some k) w7 (w9.setCell ⟨g, a * 2, none⟩ (.slice A9 (x.b.length + 1) c9)) := (hT9.mono (fun _ _ e => .inr e)).trans (hS.mono (fun _ _ e => .inl e))
  have e1 : (x.b ++ [(vs.length : Int)]).length = x.b.length + 1 := by simp
  have hc := kcells_row (vs ++ [⟨[], none, 0, none⟩]) (off ++ [toffM off a]) a ⟨x.b ++ [(vs.length : Int)], A9, c9, G9⟩ h7.len (by simp; omega)
  dsimp only at hc
  rw [e1] at hc
  have hsz : ∀ k, G9 = some k → x.G = some k ∨ w7.heap.size ≤ k := fun k hk => by
    rcases hG9 with e | ⟨g9, e, h⟩
    · exact .inl (e ▸ hk)
    · rw [e] at hk
      injection hk with hk
      subst hk
      simp at h
      exact .inr (by omega)
  have hgl := h7.sl.lt g rfl
  obtain ⟨h10, hK10⟩ := h7.row a x ⟨x.b ++ [(vs.length : Int)], A9, c9, G9⟩ hx7 hT10 (by rw [← hc]; exact hs9.set (a * 2) _) (by
    dsimp only
    rw [e1, ints, List.map_append]
    refine hS9.keep hS (fun k hk e => ?_)
    subst e
    rcases hsz _ hk with e | e
    · exact hnx.2 _ e rfl
    · omega) hsz
  refine can_put1 h1 h2 h3 hF hl ha hx h10 (fun k hk => ?_) ?_
  · rcases hK10 k hk with e | e
    · exact hK k e
    · exact .inr (Nat.le_trans hT.size e)
  · refine hT.then hT10 (fun k hk e => ?_)
    have hk7 : KF b (vs ++ [⟨[], none, 0, none⟩]) (some g) k := e.elim (fun e => .inr (.inl (by rw [e]))) (fun e => .inr (.inr ⟨a, x, hx7, e⟩))
    rcases hK k hk7 with e | e
    · exact e
    · omega


set_option maxHeartbeats 4000000 in
set_option maxRecDepth 100000 in
theorem can_make (b : Nat) (ab : List Int) (off : List Bool) (F : Nat → Prop) (above : Int) (w : World) (h : CanQ w b ab off F) :
    Calls Tryz.prog 87 #[.pointer (some ⟨b, 0, none⟩), .int .i64 above] w fun e w' => e = .returned (.tuple #[.int .i64 (tmakeM ab off above).2.1, .int .i64 (tmakeM ab off above).2.2]) ∧ CanLeft w w' b F (tmakeM ab off above).1.1 (tmakeM ab off above).1.2 := by
  have HQ := Lib.hid h
  obtain ⟨vs, A, c, G, h, h1, h2, h3, hF⟩ := h
  have HH := Lib.hid h
  have H2 := Lib.hid h2
  have H3 := Lib.hid h3
  have HF := Lib.hid hF
  have hc := h.blk.cellOf 0 _ rfl
  have hcap := h.sl.cap_le
  have hle := h.le
  have hs := h.sl
  have hb := h.blk
  have hnb := h.nb
  have HD := Lib.hid (h.keep (Tch.refl NoBlk w).drew (fun _ _ h => h))
  have hcA : ∀ ob, (w.alloc ob).cell? ⟨b, 0, none⟩ = some (.slice A vs.length c) := fun ob => ((Tch.refl NoBlk w).alloc ob).cell' hc (fun h => h)
  unfold tmakeM
  rw [← h1]
  have H1 := Lib.hid h1
  clear h h1 h2 h3 hF
  by_cases hn : above ≠ -1 ∧ ¬ (0 ≤ above ∧ above < vs.length)
  · rw [if_pos hn]
    have hne : (above != -1) = true := bne_iff_ne.2 hn.1
    have hid : above < 0 ∨ (vs.length : Int) ≤ above := by omega
    clear hn
    go_enter Tryz.func87, Tryz.ntmps87
    go_wp2_with ((go_at_call 79; refine (canat_there_no HH.out above hid).mono ?_; rintro e w8 ⟨rfl, hw8⟩; subst w8))
    go_ret2
    exact ⟨rfl, CanLeft.same HQ.out⟩
  · rw [if_neg hn]
    by_cases hl : 1024 ≤ vs.length
    · rw [if_pos hl]
      have hl2 : vs.length = 1024 := by omega
      rw [hl2] at hc
      by_cases ha : above = -1
      · subst ha
        clear hn
        go_enter Tryz.func87, Tryz.ntmps87
        go_wp2
        go_ret2
        exact ⟨rfl, CanLeft.same HQ.out⟩
      · have hne : (above != -1) = true := bne_iff_ne.2 ha
        obtain ⟨i, rfl⟩ := Int.eq_ofNat_of_zero_le (show 0 ≤ above by omega)
        have hi : i < vs.length := by omega
        clear hn ha
        go_enter Tryz.func87, Tryz.ntmps87
        go_wp2_with ((go_at_call 79; refine (canat_there_yes HH.out i hi).mono ?_; rintro e w8 ⟨rfl, hw8⟩; subst w8))
        go_ret2
        exact ⟨rfl, CanLeft.same HQ.out⟩
    · rw [if_neg hl]
      have hl2 : vs.length < 1024 := by omega
      have hd64 : decide ((1024 : Int) ≤ (vs.length : Int)) = false := by simp; omega
      have hd64n : decide (1024 ≤ vs.length) = false := by simp; omega
      by_cases ha : above = -1
      · subst ha
        clear hn
        go_enter Tryz.func87, Tryz.ntmps87
        go_wp2_with fail
        -- the record is laid, the row grows; above (-1)
        go_region_law (first
          | (refine step_app _ rfl (.tmp 36) (.tmp 41) 95 rfl 128 (.agg #[.slice none 0 0, .bool false]) 2 32 Tryz.underlying95 infoTok rfl (by decide) (by decide) A vs.length c (kcells vs off) G (some ⟨w.heap.size, 0, none⟩) 1 1 [.slice none 0 0, .bool (toffM off (-1))] (by simp [Act.eval]) (by simp [Act.eval]) (by exact (hs.alloc _).drew1) (by exact (Src.made (sz := 2) w 128 #[.slice none 0 0, .bool (toffM off (-1))] 1 rfl).keep (Tch.refl NoBlk _).drew (fun _ _ h => h)) (by simp [Value.oneCell']) (by omega) ?_; intro A6 c6 w6 G6 hs6 ht6 hg6; have HS6 := Lib.hid hs6; have HT6 : Hid (Tch (fun k => G = some k) w w6) := Lib.hid (Tch.then ((Tch.refl _ w).alloc _).drew ht6 (fun _ _ h => h)); have HG6 := Lib.hid hg6; have hb6 := hb.keep HT6.out hnb; have hc6 := hb6.cellOf 0 _ rfl; have hf6 := hb6.free 0; clear hs6 ht6 hg6 hb6)
          | (go_simp; go_at_call 52; refine (canat_off HD.out (-1)).mono ?_; rintro e w' ⟨rfl, rfl⟩))
        all_goals
          have hg7 : G6 = G ∨ ∃ g, G6 = some g ∧ w.heap.size ≤ g := HG6.out.elim .inl (fun ⟨g, h1, h2⟩ => .inr ⟨g, h1, by simp at h2; omega⟩)
          obtain ⟨h7, hK7, hT7⟩ := HH.out.more (toffM off (-1)) HT6.out hl2 HS6.out hg7
          clear HS6 HT6 HG6 hg7 hc6 hf6
          generalize w6.setCell ⟨b, 0, none⟩ (.slice A6 (vs.length + 1) c6) = w7 at *
          have HE : Hid (CanLeft w w7 b F (ab ++ [-1]) (off ++ [toffM off (-1)])) := Lib.hid (can_put0 H1.out H2.out H3.out HF.out (by have := H1.out; omega) h7 hK7 hT7)
          clear h7 hK7 hT7 hs hb
          go_wp2
          go_ret2
          exact ⟨rfl, HE.out⟩
      · have hne : (above != -1) = true := bne_iff_ne.2 ha
        obtain ⟨i, rfl⟩ := Int.eq_ofNat_of_zero_le (show 0 ≤ above by omega)
        have hi : i < vs.length := by omega
        have hd0 : decide ((0 : Int) ≤ (i : Int)) = true := by simp
        clear hn ha
        go_enter Tryz.func87, Tryz.ntmps87
        go_wp2_with ((go_at_call 79; refine (canat_there_yes HH.out i hi).mono ?_; rintro e w8 ⟨rfl, hw8⟩; subst w8))
        -- the record is laid, the row grows; above (i : Int)
        go_region_law (first
          | (refine step_app _ rfl (.tmp 36) (.tmp 41) 95 rfl 128 (.agg #[.slice none 0 0, .bool false]) 2 32 Tryz.underlying95 infoTok rfl (by decide) (by decide) A vs.length c (kcells vs off) G (some ⟨w.heap.size, 0, none⟩) 1 1 [.slice none 0 0, .bool (toffM off (i : Int))] (by simp [Act.eval]) (by simp [Act.eval]) (by exact (hs.alloc _).drew1) (by exact (Src.made (sz := 2) w 128 #[.slice none 0 0, .bool (toffM off (i : Int))] 1 rfl).keep (Tch.refl NoBlk _).drew (fun _ _ h => h)) (by simp [Value.oneCell']) (by omega) ?_; intro A6 c6 w6 G6 hs6 ht6 hg6; have HS6 := Lib.hid hs6; have HT6 : Hid (Tch (fun k => G = some k) w w6) := Lib.hid (Tch.then ((Tch.refl _ w).alloc _).drew ht6 (fun _ _ h => h)); have HG6 := Lib.hid hg6; have hb6 := hb.keep HT6.out hnb; have hc6 := hb6.cellOf 0 _ rfl; have hf6 := hb6.free 0; clear hs6 ht6 hg6 hb6)
          | (go_simp; go_at_call 52; refine (canat_off HD.out (i : Int)).mono ?_; rintro e w' ⟨rfl, rfl⟩))
        all_goals
          have hg7 : G6 = G ∨ ∃ g, G6 = some g ∧ w.heap.size ≤ g := HG6.out.elim .inl (fun ⟨g, h1, h2⟩ => .inr ⟨g, h1, by simp at h2; omega⟩)
          obtain ⟨h7, hK7, hT7⟩ := HH.out.more (toffM off (i : Int)) HT6.out hl2 HS6.out hg7
          clear HS6 HT6 HG6 hg7 hc6 hf6
          generalize w6.setCell ⟨b, 0, none⟩ (.slice A6 (vs.length + 1) c6) = w7 at *
          obtain ⟨x, hx⟩ : ∃ x, vs[i]? = some x := ⟨vs[i], by simp [hi]⟩
          have hxl : x.b.length ≤ 1024 := by rw [H2.out i x hx]; have := belowL_le ab i; have := H1.out; omega
          have hx7 : (vs ++ [(⟨[], none, 0, none⟩ : Bv)])[i]? = some x := by rw [List.getElem?_append_left hi]; exact hx
          have hl7 : (vs ++ [(⟨[], none, 0, none⟩ : Bv)]).length = vs.length + 1 := by simp
          have hcap7 := h7.sl.cap_le
          obtain ⟨g, rfl, rfl, hcl⟩ := h7.sl.cells (by rw [hl7]; omega)
          have k0 := hcl _ _ (kcells_get _ _ i x hx7 h7.len).1
          have f0 := h7.sl.free (i * 2)
          have k7 := h7.blk.cellOf 0 _ rfl
          have hsx := h7.each i x hx7
          have hnx := h7.nx i x hx7
          rw [hl7] at hcap7 k7
          have kA : ∀ ob, (w7.alloc ob).cell? ⟨b, 0, none⟩ = some (.slice (some ⟨g, 0, none⟩) (vs.length + 1) c6) := fun ob => ((Tch.refl NoBlk w7).alloc ob).cell' k7 (fun h => h)
          have kB : ∀ ob, (w7.alloc ob).cell? ⟨g, i * 2, none⟩ = some (.slice x.A x.b.length x.c) := fun ob => ((Tch.refl NoBlk w7).alloc ob).cell' k0 (fun h => h)
          have H7 := Lib.hid h7
          have HK7 := Lib.hid hK7
          have HT7 := Lib.hid hT7
          have HX := Lib.hid hx
          have HNX := Lib.hid hnx
          have hii : (i : Int) < (vs.length : Int) + 1 := by omega
          have hgn : ¬ x.G = some g := fun e => hnx.2 g e rfl
          clear h7 hK7 hT7 hcl hx7 hl7 hs hb hx hnx hc hcA
          go_wp2_with fail
          go_region_law (refine step_app _ rfl (.tmp 59) (.tmp 61) 52 rfl 3 (.int .i64 0) 1 8 Tryz.underlying52 infoInt rfl (by decide) (by decide) x.A x.b.length x.c (ints x.b) x.G (some ⟨w7.heap.size, 0, none⟩) 1 1 [.int .i64 vs.length] (by simp [Act.eval]) (by simp [Act.eval]) (by exact (hsx.alloc _).drew1) (by exact (Src.madeAt1 rfl).drew1) (ints_one [(vs.length : Int)]) (by omega) ?_; intro A9 c9 w9 G9 hs9 ht9 hg9; have HS9 := Lib.hid hs9; have HT9 : Hid (Tch (fun k => x.G = some k) w7 w9) := Lib.hid (Tch.then ((Tch.refl _ w7).alloc _).drew ht9 (fun _ _ h => h)); have HG9 := Lib.hid hg9; have kc9 : w9.cell? ⟨b, 0, none⟩ = some (.slice (some ⟨g, 0, none⟩) (vs.length + 1) c6) := HT9.out.cell' k7 (fun e => HNX.out.1 e); have k09 : w9.cell? ⟨g, i * 2, none⟩ = some (.slice x.A x.b.length x.c) := HT9.out.cell' k0 (fun e => hgn e); have f09 := (H7.out.sl.keep HT9.out (fun k hk e => HNX.out.2 k e hk)).free (i * 2); clear hs9 ht9 hg9)
          all_goals
            have HE : Hid (CanLeft w (w9.setCell ⟨g, i * 2, none⟩ (.slice A9 (x.b.length + 1) c9)) b F (ab ++ [(i : Int)]) (off ++ [toffM off i])) := Lib.hid (can_row H1.out H2.out H3.out HF.out (by have := H1.out; omega) (by have := H1.out; omega) HX.out H7.out HK7.out HT7.out HT9.out HS9.out HG9.out)
            clear HS9 HT9 HG9 kc9 k09 f09 H7 HK7 HT7
            go_wp2
            go_ret2
            exact ⟨rfl, HE.out⟩
end Go.Proofs.YtipbimbnpikbcaaGreat

/- Calling off, as a plain law: one by one, going down. No program in sight. -/
namespace Go.Proofs.YtipbimbnpikbcaaGreat

/-- Of what is below i: i itself, and what is below the first m that are next below it. -/
def OffTo (ab : List Int) (i m j : Nat) : Prop := j = i ∨ ∃ c : Nat, (c : Int) ∈ (belowL ab i).take m ∧ Comes ab c j

theorem belowL_inc (ab : List Int) (i : Nat) : (belowL ab i).Pairwise (· < ·) :=
  List.pairwise_map.2 ((List.Pairwise.filter _ List.pairwise_lt_range).imp (fun {a b} e => by omega))
section
variable {ab : List Int} {os os' os'' : List Bool} {i j m c : Nat} {new new2 : List Nat}
theorem offTo_take (hm : m < (belowL ab i).length) (hc : (belowL ab i).getD m 0 = (c : Int)) : OffTo ab i (m + 1) j ↔ OffTo ab i m j ∨ Comes ab c j := by
  have e : (belowL ab i).take (m + 1) = (belowL ab i).take m ++ [(c : Int)] := by rw [take_snoc _ _ hm, hc]
  unfold OffTo
  rw [e]
  constructor
  · rintro (h | ⟨d, h1, h2⟩)
    · exact .inl (.inl h)
    · rcases List.mem_append.1 h1 with h | h
      · exact .inl (.inr ⟨d, h, h2⟩)
      · have := List.mem_singleton.1 h
        obtain rfl : d = c := by omega
        exact .inr h2
  · rintro ((h | ⟨d, h1, h2⟩) | h)
    · exact .inl h
    · exact .inr ⟨d, List.mem_append_left _ h1, h2⟩
    · exact .inr ⟨c, List.mem_append_right _ (List.mem_singleton.2 rfl), h⟩
theorem child_up (hm : m < (belowL ab i).length) (hc : (belowL ab i).getD m 0 = (c : Int)) : up ab c = some i := by
  have h1 : (c : Int) ∈ belowL ab i := by
    rw [← hc, List.getD_eq_getElem?_getD, List.getElem?_eq_getElem hm]
    exact List.getElem_mem _
  obtain ⟨j, e, _, h⟩ := belowL_mem.1 h1
  obtain rfl : c = j := by omega
  exact h
theorem child_of (hm : m < (belowL ab i).length) : ∃ c : Nat, (belowL ab i).getD m 0 = (c : Int) := by
  have h1 : (belowL ab i).getD m 0 ∈ belowL ab i := by
    rw [List.getD_eq_getElem?_getD, List.getElem?_eq_getElem hm]
    exact List.getElem_mem _
  obtain ⟨j, e, _, _⟩ := belowL_mem.1 h1
  exact ⟨j, e⟩
/-- What is below the child is not reached by what was before. -/
theorem offTo_not (H : TreeWf ab) (hm : m < (belowL ab i).length) (hc : (belowL ab i).getD m 0 = (c : Int)) (h : Comes ab c j) : ¬ OffTo ab i m j := by
  have hu := child_up hm hc
  rintro (rfl | ⟨d, h1, h2⟩)
  · have := h.le H
    have := (H.up hu).1
    omega
  · obtain ⟨d', e, _, hd⟩ := belowL_mem.1 (List.mem_of_mem_take h1)
    obtain rfl : d = d' := by omega
    have := h2.same H hd hu h
    subst this
    obtain ⟨k, hk, e2⟩ := List.mem_iff_getElem.1 h1
    have hk2 : k < m := by rw [List.length_take] at hk; omega
    rw [List.getElem_take] at e2
    have h3 := List.pairwise_iff_getElem.1 (belowL_inc ab i) k m (by omega) hm hk2
    rw [List.getD_eq_getElem?_getD, List.getElem?_eq_getElem hm] at hc
    simp at hc
    omega
theorem marks_start (hi : i < os.length) : Marks ab os (os.set i true) (OffTo ab i 0) := by
  refine ⟨by simp, fun j hj => ?_⟩
  unfold OffTo
  by_cases e : j = i
  · subst e
    simp [List.getD_eq_getElem?_getD, hi]
  · simp [List.getD_eq_getElem?_getD, Ne.symm e, e]
theorem told_start (ho : os.getD i false = false) : ToldOff os (OffTo ab i 0) [i] := by
  refine ⟨by simp, fun j => ?_⟩
  unfold OffTo
  constructor
  · intro h
    have := List.mem_singleton.1 h
    subst this
    exact ⟨.inl rfl, ho⟩
  · rintro ⟨h | ⟨d, h1, _⟩, _⟩
    · exact List.mem_singleton.2 h
    · simp at h1
theorem closed_child (H : TreeWf ab) (hC : ClosedAt ab os i) (hm : m < (belowL ab i).length) (hc : (belowL ab i).getD m 0 = (c : Int)) (hM : Marks ab os os' (OffTo ab i m)) : ClosedAt ab os' c := by
  intro p q h1 h2 h3
  have hu := child_up hm hc
  have hcl := (H.up hu).2.1
  have hpl := h1.lt H hcl
  have hql := h2.lt H hpl
  rw [hM.2 p hpl] at h3
  rcases h3 with h3 | h3
  · exact (hM.2 q hql).2 (.inl (hC p q ((Comes.child hu).trans h1) h2 h3))
  · exact absurd h3 (offTo_not H hm hc h1)
theorem marks_child (hm : m < (belowL ab i).length) (hc : (belowL ab i).getD m 0 = (c : Int)) (hM : Marks ab os os' (OffTo ab i m)) (hM2 : Marks ab os' os'' (Comes ab c)) : Marks ab os os'' (OffTo ab i (m + 1)) := by
  refine ⟨hM2.1.trans hM.1, fun j hj => ?_⟩
  rw [hM2.2 j hj, hM.2 j hj, offTo_take hm hc, or_assoc]
theorem told_child (H : TreeWf ab) (hm : m < (belowL ab i).length) (hc : (belowL ab i).getD m 0 = (c : Int)) (hM : Marks ab os os' (OffTo ab i m)) (hT : ToldOff os (OffTo ab i m) new) (hT2 : ToldOff os' (Comes ab c) new2) : ToldOff os (OffTo ab i (m + 1)) (new ++ new2) := by
  have hcl := (H.up (child_up hm hc)).2.1
  have key : ∀ j, Comes ab c j → (os'.getD j false = false ↔ os.getD j false = false) := fun j h => by
    have h1 := hM.2 j (h.lt H hcl)
    have h2 := offTo_not H hm hc h
    cases e : os.getD j false <;> cases e' : os'.getD j false <;> simp_all
  refine ⟨List.nodup_append.2 ⟨hT.nodup, hT2.nodup, fun a ha b hb e => ?_⟩, fun j => ?_⟩
  · subst e
    exact offTo_not H hm hc ((hT2.mem a).1 hb).1 ((hT.mem a).1 ha).1
  · rw [List.mem_append, hT.mem, hT2.mem, offTo_take hm hc]
    constructor
    · rintro (⟨h1, h2⟩ | ⟨h1, h2⟩)
      · exact ⟨.inl h1, h2⟩
      · exact ⟨.inr h1, (key j h1).1 h2⟩
    · rintro ⟨h1 | h1, h2⟩
      · exact .inl ⟨h1, h2⟩
      · exact .inr ⟨h1, (key j h1).2 h2⟩
theorem offTo_all : OffTo ab i (belowL ab i).length j ↔ Comes ab i j := by
  unfold OffTo
  rw [List.take_length]
  constructor
  · rintro (rfl | ⟨d, h1, h2⟩)
    · exact .self
    · obtain ⟨d', e, _, hd⟩ := belowL_mem.1 h1
      obtain rfl : d = d' := by omega
      exact (Comes.child hd).trans h2
  · intro h
    rcases h.down with h | ⟨d, h1, h2⟩
    · exact .inl h
    · refine .inr ⟨d, belowL_mem.2 ⟨d, rfl, ?_, h1⟩, h2⟩
      unfold up at h1
      cases e : ab[d]? with
      | none => rw [e] at h1; cases h1
      | some x => exact (List.getElem?_eq_some_iff.1 e).1
theorem marks_done (h : Marks ab os os' (OffTo ab i (belowL ab i).length)) : Marks ab os os' (Comes ab i) := ⟨h.1, fun j hj => by rw [h.2 j hj, offTo_all]⟩
theorem told_done (h : ToldOff os (OffTo ab i (belowL ab i).length) new) : ToldOff os (Comes ab i) new := ⟨h.nodup, fun j => by rw [h.mem, offTo_all]⟩
theorem marks_none (hC : ClosedAt ab os i) (ho : os.getD i false = true) : Marks ab os os (Comes ab i) := by
  refine ⟨rfl, fun j hj => ⟨.inl, fun h => h.elim (fun e => e) (fun h => hC i j .self h ho)⟩⟩
theorem told_none (hC : ClosedAt ab os i) (ho : os.getD i false = true) : ToldOff os (Comes ab i) [] := by
  refine ⟨List.nodup_nil, fun j => ⟨fun h => by simp at h, fun h => ?_⟩⟩
  have := hC i j .self h.1 ho
  rw [h.2] at this
  cases this
/-- The marks behind a calling off. -/
theorem marks_with {off : List Bool} (H : TreeWf ab) (hl : off.length = ab.length) (h : Marks ab off os' (Comes ab i)) : os' = offWith ab off i := by
  apply List.ext_getElem?
  intro j
  by_cases hj : j < ab.length
  · have h1 := h.2 j hj
    have e1 := offWith_get (ab := ab) (off := off) (c := i) hj
    have hl1 : j < os'.length := by rw [h.1]; omega
    have hl2 : j < (offWith ab off i).length := by simp [offWith]; exact hj
    rw [List.getD_eq_getElem?_getD, List.getElem?_eq_getElem hl2] at e1
    rw [List.getD_eq_getElem?_getD, List.getElem?_eq_getElem hl1, ← comes_iff H] at h1
    rw [List.getElem?_eq_getElem hl1, List.getElem?_eq_getElem hl2]
    simp only [Option.getD_some] at e1 h1
    rw [e1]
    congr 1
    rw [Bool.eq_iff_iff, h1, Bool.or_eq_true]
  · rw [List.getElem?_eq_none (by rw [h.1]; omega), List.getElem?_eq_none (by simp [offWith]; omega)]
end
end Go.Proofs.YtipbimbnpikbcaaGreat
