/- A token is made. -/
import Derived.Test.YtipbimbnpikbcaaCan
import Derived.Deep.RegionLaw
import Derived.BigRegion
namespace Go.Proofs.Ytipbimbnpikbcaa
open Go.RowKit

theorem belowL_none {ab : List Int} (H : TreeWf ab) (i : Nat) (hi : ab.length ≤ i) : belowL ab i = [] := by
  apply List.eq_nil_iff_forall_not_mem.2
  intro x hx
  obtain ⟨j, _, h1, h2⟩ := belowL_mem.1 hx
  have := (H.up h2).1
  omega

def CanLeft (w w' : World) (b : Nat) (F : Nat → Prop) (ab : List Int) (off : List Bool) : Prop := Tch F w w' ∧ ∃ F', CanQ w' b ab off F' ∧ ∀ k, F' k → F k ∨ w.heap.size ≤ k
theorem CanLeft.same {w : World} {b : Nat} {F : Nat → Prop} {ab : List Int} {off : List Bool} (h : CanQ w b ab off F) : CanLeft w w b F ab off := ⟨Tch.refl _ _, F, h, fun _ hk => .inl hk⟩

/-- One that is below none. -/
theorem can_put0 {w w' : World} {b : Nat} {ab : List Int} {off : List Bool} {F : Nat → Prop} {vs : List Bv} {G : Option Nat} {A' : Option Addr} {c' : Nat} {G' : Option Nat}
    (h1 : vs.length = ab.length) (h2 : ∀ (i : Nat) (x : Bv), vs[i]? = some x → x.b = belowL ab i) (h3 : TreeOk ab off) (hF : ∀ k, F k ↔ KF b vs G k) (hl : ab.length < 1024)
    (h : CanAt w' b (vs ++ [⟨[], none, 0, none⟩]) (off ++ [toffM off (-1)]) A' c' G') (hK : ∀ k, KF b (vs ++ [⟨[], none, 0, none⟩]) G' k → KF b vs G k ∨ w.heap.size ≤ k) (hT : Tch (KF b vs G) w w') :
    CanLeft w w' b F (ab ++ [-1]) (off ++ [toffM off (-1)]) := by
  have ho := tmakeM_ok h3 (-1)
  unfold tmakeM at ho
  rw [if_neg (by simp), if_neg (by omega)] at ho
  refine ⟨hT.mono (fun k _ e => (hF k).2 e), _, ⟨_, _, _, _, h, by simp [h1], fun i x hx => ?_, ho, fun _ => Iff.rfl⟩, fun k hk => (hK k hk).imp_left (fun e => (hF k).2 e)⟩
  rw [belowL_snoc, if_neg (by omega), List.append_nil]
  by_cases hi : i < vs.length
  · rw [List.getElem?_append_left hi] at hx
    exact h2 i x hx
  · rw [List.getElem?_append_right (by omega)] at hx
    have h0 : i - vs.length = 0 := by
      rcases Nat.eq_zero_or_pos (i - vs.length) with h | h
      · exact h
      · rw [List.getElem?_eq_none (by simp; omega)] at hx
        cases hx
    rw [h0] at hx
    simp at hx
    rw [← hx, belowL_none h3.wf i (by omega)]
/-- One that is below a. -/
theorem can_put1 {w w' : World} {b : Nat} {ab : List Int} {off : List Bool} {F : Nat → Prop} {vs : List Bv} {G : Option Nat} {A' : Option Addr} {c' : Nat} {G' : Option Nat} {a : Nat} {x : Bv} {A2 : Option Addr} {c2 : Nat} {G2 : Option Nat}
    (h1 : vs.length = ab.length) (h2 : ∀ (i : Nat) (x : Bv), vs[i]? = some x → x.b = belowL ab i) (h3 : TreeOk ab off) (hF : ∀ k, F k ↔ KF b vs G k) (hl : ab.length < 1024) (ha : a < ab.length) (hx : vs[a]? = some x)
    (h : CanAt w' b ((vs ++ [(⟨[], none, 0, none⟩ : Bv)]).set a ⟨x.b ++ [(vs.length : Int)], A2, c2, G2⟩) (off ++ [toffM off a]) A' c' G') (hK : ∀ k, KF b ((vs ++ [(⟨[], none, 0, none⟩ : Bv)]).set a ⟨x.b ++ [(vs.length : Int)], A2, c2, G2⟩) G' k → KF b vs G k ∨ w.heap.size ≤ k) (hT : Tch (KF b vs G) w w') :
    CanLeft w w' b F (ab ++ [(a : Int)]) (off ++ [toffM off a]) := by
  have ho := tmakeM_ok h3 (a : Int)
  unfold tmakeM at ho
  rw [if_neg (by omega), if_neg (by omega)] at ho
  refine ⟨hT.mono (fun k _ e => (hF k).2 e), _, ⟨_, _, _, _, h, by simp [h1], fun i y hy => ?_, ho, fun _ => Iff.rfl⟩, fun k hk => (hK k hk).imp_left (fun e => (hF k).2 e)⟩
  rw [belowL_snoc]
  by_cases hia : i = a
  · subst hia
    rw [List.getElem?_set_self (by simp; omega)] at hy
    injection hy with hy
    rw [← hy, if_pos rfl, h2 i x hx, h1]
  · rw [List.getElem?_set_ne (Ne.symm hia)] at hy
    rw [if_neg (by omega), List.append_nil]
    by_cases hi : i < vs.length
    · rw [List.getElem?_append_left hi] at hy
      exact h2 i y hy
    · rw [List.getElem?_append_right (by omega)] at hy
      have h0 : i - vs.length = 0 := by
        rcases Nat.eq_zero_or_pos (i - vs.length) with h | h
        · exact h
        · rw [List.getElem?_eq_none (by simp; omega)] at hy
          cases hy
      rw [h0] at hy
      simp at hy
      rw [← hy, belowL_none h3.wf i (by omega)]

theorem can_row {w w7 w9 : World} {b : Nat} {ab : List Int} {off : List Bool} {F : Nat → Prop} {vs : List Bv} {G : Option Nat} {A6 : Option Addr} {c6 g a : Nat} {x : Bv} {A9 : Option Addr} {c9 : Nat} {G9 : Option Nat}
    (h1 : vs.length = ab.length) (h2 : ∀ (i : Nat) (x : Bv), vs[i]? = some x → x.b = belowL ab i) (h3 : TreeOk ab off) (hF : ∀ k, F k ↔ KF b vs G k) (hl : ab.length < 1024) (ha : a < ab.length) (hx : vs[a]? = some x)
    (h7 : CanAt w7 b (vs ++ [⟨[], none, 0, none⟩]) (off ++ [toffM off a]) A6 c6 (some g)) (hK : ∀ k, KF b (vs ++ [⟨[], none, 0, none⟩]) (some g) k → KF b vs G k ∨ w.heap.size ≤ k) (hT : Tch (KF b vs G) w w7)
    (hT9 : Tch (fun k => x.G = some k) w7 w9) (hS9 : Sl w9 3 1 A9 (x.b.length + 1) c9 (ints x.b ++ [.int .i64 vs.length]) G9) (hG9 : G9 = x.G ∨ ∃ g, G9 = some g ∧ (w7.alloc (.cells #[.int .i64 vs.length] 3)).drew.heap.size ≤ g) :
    CanLeft w (w9.setCell ⟨g, a * 2, none⟩ (.slice A9 (x.b.length + 1) c9)) b F (ab ++ [(a : Int)]) (off ++ [toffM off a]) := by
  have hav : a < vs.length := by omega
  have hx7 : (vs ++ [(⟨[], none, 0, none⟩ : Bv)])[a]? = some x := by rw [List.getElem?_append_left hav]; exact hx
  have hnx := h7.nx a x hx7
  have hs9 := h7.sl.keep hT9 (fun k hk e => hnx.2 k e hk)
  have hS : Tch (· = g) w9 (w9.setCell ⟨g, a * 2, none⟩ (.slice A9 (x.b.length + 1) c9)) := hs9.setT (a * 2) _
  have hT10 : Tch (fun k => k = g ∨ x.G = some k) w7 (w9.setCell ⟨g, a * 2, none⟩ (.slice A9 (x.b.length + 1) c9)) := (hT9.mono (fun _ _ e => .inr e)).trans (hS.mono (fun _ _ e => .inl e))
  have e1 : (x.b ++ [(vs.length : Int)]).length = x.b.length + 1 := by simp
  have hc := kcells_row (vs ++ [⟨[], none, 0, none⟩]) (off ++ [toffM off a]) a ⟨x.b ++ [(vs.length : Int)], A9, c9, G9⟩ h7.len (by simp; omega)
  dsimp only at hc
  rw [e1] at hc
  have hsz : ∀ k, G9 = some k → x.G = some k ∨ w7.heap.size ≤ k := fun k hk => by
    rcases hG9 with e | ⟨g9, e, h⟩
    · exact .inl (e ▸ hk)
    · rw [e] at hk
      injection hk with hk
      subst hk
      simp at h
      exact .inr (by omega)
  have hgl := h7.sl.lt g rfl
  obtain ⟨h10, hK10⟩ := h7.row a x ⟨x.b ++ [(vs.length : Int)], A9, c9, G9⟩ hx7 hT10 (by rw [← hc]; exact hs9.set (a * 2) _) (by
    dsimp only
    rw [e1, ints, List.map_append]
    refine hS9.keep hS (fun k hk e => ?_)
    subst e
    rcases hsz _ hk with e | e
    · exact hnx.2 _ e rfl
    · omega) hsz
  refine can_put1 h1 h2 h3 hF hl ha hx h10 (fun k hk => ?_) ?_
  · rcases hK10 k hk with e | e
    · exact hK k e
    · exact .inr (Nat.le_trans hT.size e)
  · refine hT.then hT10 (fun k hk e => ?_)
    have hk7 : KF b (vs ++ [⟨[], none, 0, none⟩]) (some g) k := e.elim (fun e => .inr (.inl (by rw [e]))) (fun e => .inr (.inr ⟨a, x, hx7, e⟩))
    rcases hK k hk7 with e | e
    · exact e
    · omega


set_option maxHeartbeats 4000000 in
set_option maxRecDepth 100000 in
theorem can_make (b : Nat) (ab : List Int) (off : List Bool) (F : Nat → Prop) (above : Int) (w : World) (h : CanQ w b ab off F) :
    Calls Try.prog 59 #[.pointer (some ⟨b, 0, none⟩), .int .i64 above] w fun e w' => e = .returned (.tuple #[.int .i64 (tmakeM ab off above).2.1, .int .i64 (tmakeM ab off above).2.2]) ∧ CanLeft w w' b F (tmakeM ab off above).1.1 (tmakeM ab off above).1.2 := by
  have HQ := Lib.hid h
  obtain ⟨vs, A, c, G, h, h1, h2, h3, hF⟩ := h
  have HH := Lib.hid h
  have H2 := Lib.hid h2
  have H3 := Lib.hid h3
  have HF := Lib.hid hF
  have hc := h.blk.cellOf 0 _ rfl
  have hcap := h.sl.cap_le
  have hle := h.le
  have hs := h.sl
  have hb := h.blk
  have hnb := h.nb
  have HD := Lib.hid (h.keep (Tch.refl NoBlk w).drew (fun _ _ h => h))
  have hcA : ∀ ob, (w.alloc ob).cell? ⟨b, 0, none⟩ = some (.slice A vs.length c) := fun ob => ((Tch.refl NoBlk w).alloc ob).cell' hc (fun h => h)
  unfold tmakeM
  rw [← h1]
  have H1 := Lib.hid h1
  clear h h1 h2 h3 hF
  by_cases hn : above ≠ -1 ∧ ¬ (0 ≤ above ∧ above < vs.length)
  · rw [if_pos hn]
    have hne : (above != -1) = true := bne_iff_ne.2 hn.1
    have hid : above < 0 ∨ (vs.length : Int) ≤ above := by omega
    clear hn
    go_enter Try.func59, Try.ntmps59
    go_wp2_with ((go_at_call 64; refine (canat_there_no HH.out above hid).mono ?_; rintro e w8 ⟨rfl, hw8⟩; subst w8))
    go_ret2
    exact ⟨rfl, CanLeft.same HQ.out⟩
  · rw [if_neg hn]
    by_cases hl : 1024 ≤ vs.length
    · rw [if_pos hl]
      have hl2 : vs.length = 1024 := by omega
      rw [hl2] at hc
      by_cases ha : above = -1
      · subst ha
        clear hn
        go_enter Try.func59, Try.ntmps59
        go_wp2
        go_ret2
        exact ⟨rfl, CanLeft.same HQ.out⟩
      · have hne : (above != -1) = true := bne_iff_ne.2 ha
        obtain ⟨i, rfl⟩ := Int.eq_ofNat_of_zero_le (show 0 ≤ above by omega)
        have hi : i < vs.length := by omega
        clear hn ha
        go_enter Try.func59, Try.ntmps59
        go_wp2_with ((go_at_call 64; refine (canat_there_yes HH.out i hi).mono ?_; rintro e w8 ⟨rfl, hw8⟩; subst w8))
        go_ret2
        exact ⟨rfl, CanLeft.same HQ.out⟩
    · rw [if_neg hl]
      have hl2 : vs.length < 1024 := by omega
      have hd64 : decide ((1024 : Int) ≤ (vs.length : Int)) = false := by simp; omega
      have hd64n : decide (1024 ≤ vs.length) = false := by simp; omega
      by_cases ha : above = -1
      · subst ha
        clear hn
        go_enter Try.func59, Try.ntmps59
        go_wp2_with fail
        -- the record is laid, the row grows; above (-1)
        go_region_law (first
          | (refine step_app _ rfl (.tmp 36) (.tmp 41) 116 rfl 115 (.agg #[.slice none 0 0, .bool false]) 2 32 Try.underlying116 infoTok rfl (by decide) (by decide) A vs.length c (kcells vs off) G (some ⟨w.heap.size, 0, none⟩) 1 1 [.slice none 0 0, .bool (toffM off (-1))] (by simp [Act.eval]) (by simp [Act.eval]) (by exact (hs.alloc _).drew1) (by exact (Src.made (sz := 2) w 115 #[.slice none 0 0, .bool (toffM off (-1))] 1 rfl).keep (Tch.refl NoBlk _).drew (fun _ _ h => h)) (by simp [Value.oneCell']) (by omega) ?_; intro A6 c6 w6 G6 hs6 ht6 hg6; have HS6 := Lib.hid hs6; have HT6 : Hid (Tch (fun k => G = some k) w w6) := Lib.hid (Tch.then ((Tch.refl _ w).alloc _).drew ht6 (fun _ _ h => h)); have HG6 := Lib.hid hg6; have hb6 := hb.keep HT6.out hnb; have hc6 := hb6.cellOf 0 _ rfl; have hf6 := hb6.free 0; clear hs6 ht6 hg6 hb6)
          | (go_simp; go_at_call 63; refine (canat_off HD.out (-1)).mono ?_; rintro e w' ⟨rfl, rfl⟩))
        all_goals
          have hg7 : G6 = G ∨ ∃ g, G6 = some g ∧ w.heap.size ≤ g := HG6.out.elim .inl (fun ⟨g, h1, h2⟩ => .inr ⟨g, h1, by simp at h2; omega⟩)
          obtain ⟨h7, hK7, hT7⟩ := HH.out.more (toffM off (-1)) HT6.out hl2 HS6.out hg7
          clear HS6 HT6 HG6 hg7 hc6 hf6
          generalize w6.setCell ⟨b, 0, none⟩ (.slice A6 (vs.length + 1) c6) = w7 at *
          have HE : Hid (CanLeft w w7 b F (ab ++ [-1]) (off ++ [toffM off (-1)])) := Lib.hid (can_put0 H1.out H2.out H3.out HF.out (by have := H1.out; omega) h7 hK7 hT7)
          clear h7 hK7 hT7 hs hb
          go_wp2
          go_ret2
          exact ⟨rfl, HE.out⟩
      · have hne : (above != -1) = true := bne_iff_ne.2 ha
        obtain ⟨i, rfl⟩ := Int.eq_ofNat_of_zero_le (show 0 ≤ above by omega)
        have hi : i < vs.length := by omega
        have hd0 : decide ((0 : Int) ≤ (i : Int)) = true := by simp
        clear hn ha
        go_enter Try.func59, Try.ntmps59
        go_wp2_with ((go_at_call 64; refine (canat_there_yes HH.out i hi).mono ?_; rintro e w8 ⟨rfl, hw8⟩; subst w8))
        -- the record is laid, the row grows; above (i : Int)
        go_region_law (first
          | (refine step_app _ rfl (.tmp 36) (.tmp 41) 116 rfl 115 (.agg #[.slice none 0 0, .bool false]) 2 32 Try.underlying116 infoTok rfl (by decide) (by decide) A vs.length c (kcells vs off) G (some ⟨w.heap.size, 0, none⟩) 1 1 [.slice none 0 0, .bool (toffM off (i : Int))] (by simp [Act.eval]) (by simp [Act.eval]) (by exact (hs.alloc _).drew1) (by exact (Src.made (sz := 2) w 115 #[.slice none 0 0, .bool (toffM off (i : Int))] 1 rfl).keep (Tch.refl NoBlk _).drew (fun _ _ h => h)) (by simp [Value.oneCell']) (by omega) ?_; intro A6 c6 w6 G6 hs6 ht6 hg6; have HS6 := Lib.hid hs6; have HT6 : Hid (Tch (fun k => G = some k) w w6) := Lib.hid (Tch.then ((Tch.refl _ w).alloc _).drew ht6 (fun _ _ h => h)); have HG6 := Lib.hid hg6; have hb6 := hb.keep HT6.out hnb; have hc6 := hb6.cellOf 0 _ rfl; have hf6 := hb6.free 0; clear hs6 ht6 hg6 hb6)
          | (go_simp; go_at_call 63; refine (canat_off HD.out (i : Int)).mono ?_; rintro e w' ⟨rfl, rfl⟩))
        all_goals
          have hg7 : G6 = G ∨ ∃ g, G6 = some g ∧ w.heap.size ≤ g := HG6.out.elim .inl (fun ⟨g, h1, h2⟩ => .inr ⟨g, h1, by simp at h2; omega⟩)
          obtain ⟨h7, hK7, hT7⟩ := HH.out.more (toffM off (i : Int)) HT6.out hl2 HS6.out hg7
          clear HS6 HT6 HG6 hg7 hc6 hf6
          generalize w6.setCell ⟨b, 0, none⟩ (.slice A6 (vs.length + 1) c6) = w7 at *
          obtain ⟨x, hx⟩ : ∃ x, vs[i]? = some x := ⟨vs[i], by simp [hi]⟩
          have hxl : x.b.length ≤ 1024 := by rw [H2.out i x hx]; have := belowL_le ab i; have := H1.out; omega
          have hx7 : (vs ++ [(⟨[], none, 0, none⟩ : Bv)])[i]? = some x := by rw [List.getElem?_append_left hi]; exact hx
          have hl7 : (vs ++ [(⟨[], none, 0, none⟩ : Bv)]).length = vs.length + 1 := by simp
          have hcap7 := h7.sl.cap_le
          obtain ⟨g, rfl, rfl, hcl⟩ := h7.sl.cells (by rw [hl7]; omega)
          have k0 := hcl _ _ (kcells_get _ _ i x hx7 h7.len).1
          have f0 := h7.sl.free (i * 2)
          have k7 := h7.blk.cellOf 0 _ rfl
          have hsx := h7.each i x hx7
          have hnx := h7.nx i x hx7
          rw [hl7] at hcap7 k7
          have kA : ∀ ob, (w7.alloc ob).cell? ⟨b, 0, none⟩ = some (.slice (some ⟨g, 0, none⟩) (vs.length + 1) c6) := fun ob => ((Tch.refl NoBlk w7).alloc ob).cell' k7 (fun h => h)
          have kB : ∀ ob, (w7.alloc ob).cell? ⟨g, i * 2, none⟩ = some (.slice x.A x.b.length x.c) := fun ob => ((Tch.refl NoBlk w7).alloc ob).cell' k0 (fun h => h)
          have H7 := Lib.hid h7
          have HK7 := Lib.hid hK7
          have HT7 := Lib.hid hT7
          have HX := Lib.hid hx
          have HNX := Lib.hid hnx
          have hii : (i : Int) < (vs.length : Int) + 1 := by omega
          have hgn : ¬ x.G = some g := fun e => hnx.2 g e rfl
          clear h7 hK7 hT7 hcl hx7 hl7 hs hb hx hnx hc hcA
          go_wp2_with fail
          go_region_law (refine step_app _ rfl (.tmp 59) (.tmp 61) 45 rfl 3 (.int .i64 0) 1 8 Try.underlying45 infoInt rfl (by decide) (by decide) x.A x.b.length x.c (ints x.b) x.G (some ⟨w7.heap.size, 0, none⟩) 1 1 [.int .i64 vs.length] (by simp [Act.eval]) (by simp [Act.eval]) (by exact (hsx.alloc _).drew1) (by exact (Src.madeAt1 rfl).drew1) (ints_one [(vs.length : Int)]) (by omega) ?_; intro A9 c9 w9 G9 hs9 ht9 hg9; have HS9 := Lib.hid hs9; have HT9 : Hid (Tch (fun k => x.G = some k) w7 w9) := Lib.hid (Tch.then ((Tch.refl _ w7).alloc _).drew ht9 (fun _ _ h => h)); have HG9 := Lib.hid hg9; have kc9 : w9.cell? ⟨b, 0, none⟩ = some (.slice (some ⟨g, 0, none⟩) (vs.length + 1) c6) := HT9.out.cell' k7 (fun e => HNX.out.1 e); have k09 : w9.cell? ⟨g, i * 2, none⟩ = some (.slice x.A x.b.length x.c) := HT9.out.cell' k0 (fun e => hgn e); have f09 := (H7.out.sl.keep HT9.out (fun k hk e => HNX.out.2 k e hk)).free (i * 2); clear hs9 ht9 hg9)
          all_goals
            have HE : Hid (CanLeft w (w9.setCell ⟨g, i * 2, none⟩ (.slice A9 (x.b.length + 1) c9)) b F (ab ++ [(i : Int)]) (off ++ [toffM off i])) := Lib.hid (can_row H1.out H2.out H3.out HF.out (by have := H1.out; omega) (by have := H1.out; omega) HX.out H7.out HK7.out HT7.out HT9.out HS9.out HG9.out)
            clear HS9 HT9 HG9 kc9 k09 f09 H7 HK7 HT7
            go_wp2
            go_ret2
            exact ⟨rfl, HE.out⟩
end Go.Proofs.Ytipbimbnpikbcaa
