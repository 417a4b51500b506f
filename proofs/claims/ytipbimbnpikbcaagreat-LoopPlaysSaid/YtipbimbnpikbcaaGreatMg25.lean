import Derived.Test.YtipbimbnpikbcaaGreatMg24
import Derived.Deep.RegionLaw
/- The document's Read. -/
namespace Go.Proofs.YtipbimbnpikbcaaGreat
open Go.RowKit

set_option maxHeartbeats 1000000 in
set_option maxRecDepth 100000 in
theorem refstr_read_none (b room : Nat) (rd : List Int) (wr : List (Int × Int)) (F : Nat → Prop) (who : Int) (w : World) (h : RefStrQ w b room ⟨[], rd, wr⟩ F) :
    Calls Tryz.prog 93 #[.pointer (some ⟨b, 0, none⟩), .int .i64 who] w fun e w' => RefLeft w w' b room F e (readM ⟨[], rd, wr⟩ who) := by
  obtain ⟨A1, c1, G1, A2, c2, G2, A3, c3, G3, h, hF⟩ := h
  have hc1 := h.blk.cellOf 1 _ rfl
  have hc2 := h.blk.cellOf 2 _ rfl
  have hle := h.le
  have HH := Lib.hid h
  have HF := Lib.hid hF
  have hlb := h.blk.lt
  have hsl := h.s2
  clear hF
  dsimp only at hc1 hc2 hle hsl
  by_cases hl : rd.length < 64
  · have HM : Hid (readM ⟨[], rd, wr⟩ who = (⟨[], rd ++ [who], wr⟩, [], 0)) := Lib.hid (by simp only [readM]; rw [if_pos hl])
    rw [HM.out]
    have hcA : ∀ (o : Obj), (w.alloc o).cell? ⟨b, 2, none⟩ = some (.slice A2 rd.length c2) := fun o => (World.cell?_alloc_lt w o ⟨b, 2, none⟩ hlb).trans hc2
    clear h
    go_enter Tryz.func93, Tryz.ntmps93
    go_wp2_with (at_builtin; first
      | (refine wpList_app _ rfl (.tmp 21) (.tmp 25) 52 rfl 3 (.int .i64 0) 1 8 Tryz.underlying52 infoInt rfl (by decide) (by decide) _ _ _ _ _ _ _ _ _ rfl rfl (Sl.made w 3 #[] 0 rfl (by decide)) (hsl.alloc _).src (ints_one rd) (by omega) ?_; intro A4 c4 w1 G4 hs1 ht1 hg1; simp only [Nat.zero_add, List.nil_append] at hs1; have T1 := Lib.hid (tch_own ((Tch.refl NoBlk w).alloc _) ht1 (own_some (Nat.le_refl _))); have N1 := Lib.hid (own_from (B := w.heap.size) (by simp) (own_some (Nat.le_refl _)) hg1); clear ht1 hg1)
      | (refine wpList_app _ rfl (.tmp 26) (.tmp 28) 52 rfl 3 (.int .i64 0) 1 8 Tryz.underlying52 infoInt rfl (by decide) (by decide) _ _ _ _ _ _ _ _ _ rfl rfl (hs1.alloc _) (Src.made w1 3 #[.int .i64 who] 1 rfl) (ints_one [who]) (by omega) ?_; intro A5 c5 w2 G5 hs2 ht2 hg2; have T2 := Lib.hid (tch_own (T1.out.alloc _) ht2 N1.out); have N2 := Lib.hid (own_from (Nat.le_trans T1.out.size (by simp)) N1.out hg2); have hc2' := (HH.out.blk.keep T2.out (fun h => h)).cellOf 2 _ rfl; have hf2 := (HH.out.blk.keep T2.out (fun h => h)).free 2; clear ht2 hg2))
    go_ret2
    have e1 : (rd ++ [who]).length = rd.length + 1 := by simp
    rw [← e1] at hs2 ⊢
    obtain ⟨h2, T3⟩ := HH.out.set2 (q := rd ++ [who]) T2.out (by rw [ints, List.map_append]; exact hs2) N2.out (by simp; omega)
    refine ⟨Told.no w _ 0, T3.mono (fun k _ e => (HF.out k).2 (.inl e)), _, h2.told, fun k hk => ?_, RowApart.no _ _⟩
    rcases hk with hk | hk | hk | hk
    · exact .inl ((HF.out k).2 (.inl hk))
    · exact .inl ((HF.out k).2 (.inr (.inl hk)))
    · exact .inr (N2.out k hk)
    · exact .inl ((HF.out k).2 (.inr (.inr (.inr hk))))
  · have HM : Hid (readM ⟨[], rd, wr⟩ who = (⟨[], rd, wr⟩, [], 140)) := Lib.hid (by simp only [readM]; rw [if_neg hl])
    rw [HM.out]
    have hl2 : 64 ≤ rd.length := by omega
    clear h hl
    go_enter Tryz.func93, Tryz.ntmps93
    go_wp2
    go_ret2
    exact ⟨Told.no w _ 140, Tch.refl F w, F, ⟨A1, c1, G1, A2, c2, G2, A3, c3, G3, HH.out, HF.out⟩, fun k hk => .inl hk, RowApart.no _ _⟩

/-- The tail of a row of two-cell elements. -/
theorem Src.tail2 {w : World} {g off : Nat} {x y : Value} {xs : List Value} {n : Nat} (h : Src w 2 (some ⟨g, off, none⟩) (n + 1) (x :: y :: xs)) : Src w 2 (some ⟨g, off + 2, none⟩) n xs := by
  refine ⟨by have := h.1; simp at this; omega, fun hn => ⟨_, rfl, fun j u hu => ?_⟩⟩
  obtain ⟨a, he, hcell⟩ := h.2 (by omega)
  injection he with he
  subst he
  have := hcell (j + 2) u (by simpa using hu)
  have e1 : (⟨g, off, none⟩ : Addr).add (j + 2) = ⟨g, off + 2 + j, none⟩ := by unfold Addr.add; rw [if_neg (by omega)]; simp; omega
  have e2 : (⟨g, off + 2, none⟩ : Addr).add j = ⟨g, off + 2 + j, none⟩ := by unfold Addr.add; split <;> simp_all
  rw [e1] at this
  rw [e2]
  exact this

theorem RefStrAt.app1 {w w2 : World} {b room : Nat} {s : St} {A1 A2 A3 : Option Addr} {c1 c2 c3 : Nat} {G1 G2 G3 : Option Nat} (h : RefStrAt w b room s A1 c1 G1 A2 c2 G2 A3 c3 G3) (T : Tch (fun k => G1 = some k) w w2) {q : List Int} {A' : Option Addr} {c' : Nat} {G' : Option Nat} (hs : Sl w2 3 1 A' q.length c' (ints q) G') (hG : G' = G1 ∨ ∃ g, G' = some g ∧ w.heap.size ≤ g) (hle : q.length ≤ room) :
    RefStrAt (w2.setCell ⟨b, 1, none⟩ (.slice A' q.length c')) b room ⟨q, s.rd, s.wr⟩ A' c' G' A2 c2 G2 A3 c3 G3 ∧ Tch (fun k => k = b ∨ G1 = some k) w (w2.setCell ⟨b, 1, none⟩ (.slice A' q.length c')) := by
  have hS : Tch (· = b) w2 (w2.setCell ⟨b, 1, none⟩ (.slice A' q.length c')) := (Tch.refl (· = b) w2).setCell (p := ⟨b, 1, none⟩) (fun _ => rfl) _
  have hlb := h.blk.lt
  have hn : ∀ k, k < w.heap.size → G1 ≠ some k → G' ≠ some k := by
    intro k hk hne e
    rcases hG with e2 | ⟨g, e2, hg⟩
    · exact hne (e2 ▸ e)
    · rw [e2] at e
      injection e with e
      omega
  refine ⟨⟨(h.blk.keep T h.n1).set 1 _, hs.keep hS (fun g hg e => hn b hlb h.n1 (e ▸ hg)), (h.s2.keep T (fun g hg e => h.n12 g e hg)).keep hS (fun g hg e => h.n2 (e ▸ hg)), (h.s3.keep T (fun g hg e => h.n13 g e hg)).keep hS (fun g hg e => h.n3 (e ▸ hg)), hn b hlb h.n1, h.n2, h.n3, fun g hg e => hn g (h.s2.lt g e) (fun e2 => h.n12 g e2 e) hg, fun g hg e => hn g (h.s3.lt g e) (fun e2 => h.n13 g e2 e) hg, h.n23, hle, h.le.2⟩, (T.mono (fun _ _ h => .inr h)).trans (hS.mono (fun _ _ h => .inl h))⟩

set_option maxHeartbeats 2000000 in
set_option maxRecDepth 100000 in
theorem refstr_read_some (b room : Nat) (v : Int) (bf rd : List Int) (wr : List (Int × Int)) (F : Nat → Prop) (who : Int) (w : World) (h : RefStrQ w b room ⟨v :: bf, rd, wr⟩ F) (hroom : room ≤ 32) :
    Calls Tryz.prog 93 #[.pointer (some ⟨b, 0, none⟩), .int .i64 who] w fun e w' => RefLeft w w' b room F e (readM ⟨v :: bf, rd, wr⟩ who) := by
  obtain ⟨A1, c1, G1, A2, c2, G2, A3, c3, G3, h, hF⟩ := h
  have hle := h.le
  have hlb := h.blk.lt
  have hsl := h.s1
  obtain ⟨g, rfl, rfl, hcell⟩ := hsl.cells (by simp)
  have hcl : w.cell? ⟨g, 0, none⟩ = some (.int .i64 v) := hcell 0 _ (by simp [ints])
  have hcap := hsl.cap_le
  have hc1 := h.blk.cellOf 1 _ rfl
  have hc3 := h.blk.cellOf 3 _ rfl
  have HH := Lib.hid h
  have HF := Lib.hid hF
  simp only [List.length_cons] at hsl hcap hle hc1 hc3
  have hcap1 : 1 ≤ c1 := by omega
  have ca1 : ∀ (o : Obj), (w.alloc o).cell? ⟨b, 1, none⟩ = some (.slice (some ⟨g, 0, none⟩) (bf.length + 1) c1) := fun o => (World.cell?_alloc_lt w o ⟨b, 1, none⟩ hlb).trans hc1
  have ca2 : ∀ (o p : Obj), ((w.alloc o).alloc p).cell? ⟨b, 1, none⟩ = some (.slice (some ⟨g, 0, none⟩) (bf.length + 1) c1) := fun o p => (World.cell?_alloc_lt (w.alloc o) p ⟨b, 1, none⟩ (by simp; omega)).trans (ca1 o)
  have hsB : ∀ (o p : Obj), Src ((w.alloc o).alloc p) 1 (some ⟨g, 1, none⟩) bf.length (ints bf) := fun o p => ((hsl.alloc o).alloc p).src.tail1
  have hsA : ∀ (o p : Obj), c1 = 1 → Src ((w.alloc o).alloc p) 1 (some ⟨g, 0, none⟩) bf.length (ints bf) := fun o p hc => by
    obtain rfl : bf = [] := List.eq_nil_of_length_eq_zero (by omega)
    exact Src.empty _ _ _
  have HA := Lib.hid hsA
  have HB := Lib.hid hsB
  clear hsA hsB hcell h hF
  cases wr with
  | nil =>
    go_enter Tryz.func93, Tryz.ntmps93
    go_wp2_with (at_builtin; refine wpList_app _ rfl (.tmp 42) (.tmp 47) 52 rfl 3 (.int .i64 0) 1 8 Tryz.underlying52 infoInt rfl (by decide) (by decide) _ _ _ _ _ _ _ _ (ints bf) rfl rfl (Sl.madeAt _ 3 #[] 0 (w.heap.size + 1) (World.size_alloc _ _) rfl (by decide)) (by split; exact HA.out _ _ ‹c1 = 1›; exact HB.out _ _) (ints_one bf) (by omega) ?_; intro A4 c4 w1 G4 hs1 ht1 hg1; simp only [Nat.zero_add, List.nil_append] at hs1; have T0 := Lib.hid (Tch.then ((Tch.refl (fun k => some (w.heap.size + 1) = some k) _).alloc _) ht1 (fun _ _ h => h)); have T1 := Lib.hid (tch_own (((Tch.refl NoBlk w).alloc _).alloc _) ht1 (own_some (Nat.le_succ _))); have N1 := Lib.hid (own_from (B := w.heap.size) (by simp; omega) (own_some (Nat.le_succ _)) hg1); have N1s := Lib.hid (own_from (B := w.heap.size + 1) (by simp) (own_some (Nat.le_refl _)) hg1); have hb1 := HH.out.blk.keep T1.out (fun h => h); have hc1' := hb1.cellOf 1 _ rfl; have hc3' := hb1.cellOf 3 _ rfl; have hf1 := hb1.free 1; clear ht1 hg1 hb1)
    all_goals
      obtain ⟨h2, T3⟩ := HH.out.set1 T1.out hs1 N1.out (by omega)
      have hs0 : Sl (w.alloc (.cells #[.int .i64 who, .int .i64 v] 144)) 144 2 (some ⟨w.heap.size, 0, none⟩) 1 1 (gots [(who, v)]) (some w.heap.size) := Sl.made w 144 #[.int .i64 who, .int .i64 v] 1 rfl (by omega)
      have hs4 := (hs0.keep T0.out (fun g hg e => by injection hg with hg; injection e with e; omega)).keep ((Tch.refl (· = b) w1).setCell (p := ⟨b, 1, none⟩) (fun _ => rfl) (.slice A4 bf.length c4)) (fun g hg e => by injection hg with hg; omega)
      clear hs0
      go_ret2
      have hap : ¬ RefF b G4 G2 G3 w.heap.size := fun e => by
        rcases e with e | e | e | e
        · omega
        · have := N1s.out _ e
          omega
        · have := HH.out.s2.lt _ e
          omega
        · have := HH.out.s3.lt _ e
          omega
      refine ⟨⟨_, _, _, rfl, hs4, own_some (Nat.le_refl _)⟩, T3.mono (fun k _ e => (HF.out k).2 (.inl e)), _, h2.told, fun k hk => ?_, RowApart.one hap⟩
      rcases hk with hk | hk | hk | hk
      · exact .inl ((HF.out k).2 (.inl hk))
      · exact .inr (N1.out k hk)
      · exact .inl ((HF.out k).2 (.inr (.inr (.inl hk))))
      · exact .inl ((HF.out k).2 (.inr (.inr (.inr hk))))
  | cons p wr =>
    obtain ⟨p1, p2⟩ := p
    have hsw := HH.out.s3
    obtain ⟨g3, rfl, rfl, hcell3⟩ := hsw.cells (by simp)
    have hp1 : w.cell? ⟨g3, 0, none⟩ = some (.int .i64 p1) := hcell3 0 _ rfl
    have hp2 : w.cell? ⟨g3, 1, none⟩ = some (.int .i64 p2) := hcell3 1 _ rfl
    have hcap3 := hsw.cap_le
    have hg3b : g3 ≠ b := fun e => HH.out.n3 (by rw [e])
    simp only [List.length_cons] at hsw hcap3 hle hc3
    have hcap4 : 1 ≤ c3 := by omega
    clear hcell3
    go_enter Tryz.func93, Tryz.ntmps93
    go_wp2_with (at_builtin; first | (refine wpList_app _ rfl (.tmp 42) (.tmp 47) 52 rfl 3 (.int .i64 0) 1 8 Tryz.underlying52 infoInt rfl (by decide) (by decide) _ _ _ _ _ _ _ _ (ints bf) rfl rfl (Sl.madeAt _ 3 #[] 0 (w.heap.size + 1) (World.size_alloc _ _) rfl (by decide)) (by split; exact HA.out _ _ ‹c1 = 1›; exact HB.out _ _) (ints_one bf) (by omega) ?_; intro A4 c4 w1 G4 hs1 ht1 hg1; simp only [Nat.zero_add, List.nil_append] at hs1; have T0 := Lib.hid (Tch.then ((Tch.refl (fun k => some (w.heap.size + 1) = some k) _).alloc _) ht1 (fun _ _ h => h)); have T1 := Lib.hid (tch_own (((Tch.refl NoBlk w).alloc _).alloc _) ht1 (own_some (Nat.le_succ _))); have N1 := Lib.hid (own_from (B := w.heap.size) (by simp; omega) (own_some (Nat.le_succ _)) hg1); have N1s := Lib.hid (own_from (B := w.heap.size + 1) (by simp) (own_some (Nat.le_refl _)) hg1); have L1 := Lib.hid (fun g hg => hs1.lt g hg); have hb1 := HH.out.blk.keep T1.out (fun h => h); have hc1' := hb1.cellOf 1 _ rfl; have hf1 := hb1.free 1; have HW := Lib.hid (HH.out.set1 T1.out hs1 N1.out (by omega)); have hc3' : (w1.setCell ⟨b, 1, none⟩ (.slice A4 bf.length c4)).cell? ⟨b, 3, none⟩ = some (.slice (some ⟨g3, 0, none⟩) (wr.length + 1) c3) := HW.out.1.blk.cellOf 3 _ rfl; have hpw1 : (w1.setCell ⟨b, 1, none⟩ (.slice A4 bf.length c4)).cell? ⟨g3, 0, none⟩ = some (.int .i64 p1) := HW.out.2.cell' hp1 hg3b; have hpw2 : (w1.setCell ⟨b, 1, none⟩ (.slice A4 bf.length c4)).cell? ⟨g3, 1, none⟩ = some (.int .i64 p2) := HW.out.2.cell' hp2 hg3b; have hsW := HW.out.1.s3; have hbW := HW.out.1.blk.lt; have hc3'' : ∀ o o', (((w1.setCell ⟨b, 1, none⟩ (.slice A4 bf.length c4)).alloc o).alloc o').cell? ⟨b, 3, none⟩ = some (.slice (some ⟨g3, 0, none⟩) (wr.length + 1) c3) := fun o o' => (((Tch.refl NoBlk (w1.setCell ⟨b, 1, none⟩ (.slice A4 bf.length c4))).alloc o).alloc o').cell' hc3' (fun h => h); have HB3 : Hid (∀ o o', Src (((w1.setCell ⟨b, 1, none⟩ (.slice A4 bf.length c4)).alloc o).alloc o') 2 (some ⟨g3, 2, none⟩) wr.length (gots wr)) := Lib.hid (fun o o' => ((hsW.alloc o).alloc o').src.tail2); have HA3 : Hid (∀ o o', c3 = 1 → Src (((w1.setCell ⟨b, 1, none⟩ (.slice A4 bf.length c4)).alloc o).alloc o') 2 (some ⟨g3, 0, none⟩) wr.length (gots wr)) := Lib.hid (fun o o' hc => by obtain rfl : wr = [] := List.eq_nil_of_length_eq_zero (by omega); exact Src.empty _ _ _); clear ht1 hg1 hb1) | (refine wpList_app _ rfl (.tmp 64) (.tmp 69) 111 rfl 144 (.agg #[.int .i64 0, .int .i64 0]) 2 16 Tryz.underlying111 infoGot rfl (by decide) (by decide) _ _ _ _ _ _ _ _ (gots wr) rfl rfl (Sl.madeAt _ 144 #[] 0 (w1.heap.size + 1) (by simp) rfl (by decide)) (by split; exact HA3.out _ _ ‹c3 = 1›; exact HB3.out _ _) (gots_one wr) (by omega) ?_; intro A5 c5 w2 G5 hs2 ht2 hg2; simp only [Nat.zero_add, List.nil_append] at hs2; have HS2 := Lib.hid hs2; have HT2 := Lib.hid ht2; have HG2 := Lib.hid hg2; have T2 := Lib.hid (tch_own (((Tch.refl NoBlk (w1.setCell ⟨b, 1, none⟩ (.slice A4 bf.length c4))).alloc _).alloc _) ht2 (own_some (by simp))); have hb2 := HW.out.1.blk.keep T2.out (fun h => h); have hc32 := hb2.cellOf 3 _ rfl; have hf32 := hb2.free 3; clear ht2 hg2 hs2 hb2))
    all_goals
      have hsz1 : (w1.setCell ⟨b, 1, none⟩ (.slice A4 bf.length c4)).heap.size = w1.heap.size := by simp
      have N2 : ∀ g, G5 = some g → (w1.setCell ⟨b, 1, none⟩ (.slice A4 bf.length c4)).heap.size ≤ g := by
        intro g hg
        rcases HG2.out with e | ⟨g', e, hlt⟩
        · rw [e] at hg
          injection hg with hg
          omega
        · rw [e] at hg
          injection hg with hg
          simp at hlt
          omega
      have hlw := T1.out.size
      obtain ⟨h3, T3⟩ := HW.out.1.set3 T2.out HS2.out N2 (by omega)
      have HS3 := Lib.hid HW.out.2
      have hs0 : Sl (w.alloc (.cells #[.int .i64 who, .int .i64 v] 144)) 144 2 (some ⟨w.heap.size, 0, none⟩) 1 1 (gots [(who, v)]) (some w.heap.size) := Sl.made w 144 #[.int .i64 who, .int .i64 v] 1 rfl (by omega)
      have hw1 : w.heap.size < w1.heap.size := by have := T0.out.size; simp at this; omega
      have hs3 := ((hs0.keep T0.out (fun g hg e => by injection hg with hg; injection e with e; omega)).keep ((Tch.refl (· = b) w1).setCell (p := ⟨b, 1, none⟩) (fun _ => rfl) (.slice A4 bf.length c4)) (fun g hg e => by injection hg with hg; omega)).keep T3 (fun g hg e => by injection hg with hg; omega)
      have hx0 : Blk ((w1.setCell ⟨b, 1, none⟩ (.slice A4 bf.length c4)).alloc (.cells #[.int .i64 p1, .int .i64 p2] 144)) w1.heap.size 144 [.int .i64 p1, .int .i64 p2] := hsz1 ▸ Blk.new (w1.setCell ⟨b, 1, none⟩ (.slice A4 bf.length c4)) 144 [.int .i64 p1, .int .i64 p2]
      have hx3 := ((hx0.alloc _).keep HT2.out (fun e => by injection e with e; omega)).keep ((Tch.refl (· = b) w2).setCell (p := ⟨b, 3, none⟩) (fun _ => rfl) (.slice A5 wr.length c5)) (by omega)
      have T03 := Lib.hid (HW.out.2.trans T3)
      clear hs0 hx0
      have N1b := N1.out
      have hlt3 := T3.size
      rw [hsz1] at hlt3
      have N2b := Lib.hid (fun g hg => hsz1 ▸ N2 g hg)
      have HG2l := Lib.hid (fun g hg => HH.out.s2.lt g hg)
      clear N2 hsz1 HS2 HT2 HG2 T2 HA3 HB3 hc3'' hpw1 hpw2 hc3' hsW hbW T0 T1 hs1 hc32 hf32 T3 HW HA HB
      generalize (w2.setCell ⟨b, 3, none⟩ (.slice A5 wr.length c5)) = W2 at *
      have HX := Lib.hid hx3
      have hl2 := h3.blk.lt
      have hb1 := h3.blk.cellOf 1 _ rfl
      have hbA : ∀ o, (W2.alloc o).cell? ⟨b, 1, none⟩ = some (.slice A4 bf.length c4) := fun o => ((Tch.refl NoBlk W2).alloc o).cell' hb1 (fun h => h)
      have hx1 := hx3.cellOf 1 _ rfl
      have hs11 := h3.s1
      dsimp only at hs11
      have hs12 := hs11.keep (Tch.refl NoBlk W2).drew (fun _ _ h => h)
      go_region_law (refine step_app _ rfl (.tmp 77) (.tmp 80) 52 rfl 3 (.int .i64 0) 1 8 Tryz.underlying52 infoInt rfl (by decide) (by decide) A4 bf.length c4 (ints bf) G4 (some ⟨W2.heap.size, 0, none⟩) 1 1 [.int .i64 p2] (by simp [Act.eval]) (by simp [Act.eval]) (hs12.alloc _) (Src.made (sz := 1) W2.drew 3 #[.int .i64 p2] 1 rfl) (ints_one [p2]) (by omega) ?_; intro A6 c6 w4 G6 hs6 ht6 hg6; have HS6 := Lib.hid hs6; have HT6 : Hid (Tch (fun k => G4 = some k) W2 w4) := Lib.hid (Tch.then ((Tch.refl _ W2).drew.alloc _) ht6 (fun _ _ h => h)); have HG6 := Lib.hid hg6; have hb6 := h3.blk.keep HT6.out h3.n1; have hc6 := hb6.cellOf 1 _ rfl; have hf6 := hb6.free 1; clear hs6 ht6 hg6 hb6)
      all_goals
        have e1 : (bf ++ [p2]).length = bf.length + 1 := by simp
        have hs6 : Sl w4 3 1 A6 (bf ++ [p2]).length c6 (ints (bf ++ [p2])) G6 := by rw [e1, ints, List.map_append]; exact HS6.out
        have hg6 : G6 = G4 ∨ ∃ g, G6 = some g ∧ W2.heap.size ≤ g := HG6.out.elim .inl (fun ⟨g, h1, h2⟩ => .inr ⟨g, h1, by simp at h2; exact Nat.le_of_succ_le h2⟩)
        have N6 : Hid (∀ g, G6 = some g → w.heap.size + 1 ≤ g) := Lib.hid (fun g hg => by
          rcases hg6 with e | ⟨g', e, hlt⟩
          · exact N1s.out g (e ▸ hg)
          · rw [e] at hg; injection hg with hg; omega)
        have h7 := h3.app1 HT6.out hs6 hg6 (by simp; omega)
        rw [e1] at h7
        obtain ⟨h7, T7⟩ := h7
        have hxk := HX.out.keep T7 (fun e => by rcases e with e | e; omega; have := L1.out _ e; omega)
        have hx70 := hxk.cellOf 0 _ rfl
        have hx71 := hxk.cellOf 1 _ rfl
        have hs7 := hs3.keep T7 (fun g hg e => by injection hg with hg; rcases e with e | e; omega; have := N1s.out _ e; omega)
        have H7 := Lib.hid h7
        have HT7 := Lib.hid T7
        have hsz7 := T7.size
        clear h7 T7 hxk hs6 hg6 HS6 HG6 HT6 hc6 hf6 hs11 hs12 hb1 hbA hx1 hx3 h3
        generalize w4.setCell ⟨b, 1, none⟩ (.slice A6 (bf.length + 1) c6) = W4 at *
        go_wp2_with (at_builtin; refine wpList_app _ rfl (.tmp 84) (.tmp 86) 111 rfl 144 (.agg #[.int .i64 0, .int .i64 0]) 2 16 Tryz.underlying111 infoGot rfl (by decide) (by decide) _ _ _ _ _ _ _ _ _ rfl rfl (hs7.alloc _) (Src.made W4 144 #[.int .i64 p1, .int .i64 p2] 1 rfl) (gots_one [(p1, p2)]) (by omega) ?_; intro A8 c8 w5 G8 hs8 ht8 hg8; have HS8 := Lib.hid hs8; have HT8 : Hid (Tch (fun k => some w.heap.size = some k) W4 w5) := Lib.hid (Tch.then ((Tch.refl _ W4).alloc _) ht8 (fun _ _ h => h)); have HG8 := Lib.hid hg8; clear hs8 ht8 hg8)
        go_ret2
        have TA : Tch (· = b) w w5 := ((T03.out.then HT7.out (fun i hi e => by rcases e with e | e; exact e; have := N1b i e; omega))).then HT8.out (fun i hi e => by injection e with e; omega)
        refine ⟨⟨A8, c8, G8, rfl, HS8.out, ?_⟩, TA.mono (fun k _ e => (HF.out k).2 (.inl e)), _, H7.out.told.keep HT8.out ?_, fun k hk => ?_, RowApart.mk HS8.out.blk (fun g hg hk => ?_)⟩
        · intro g hg
          rcases HG8.out with e | ⟨g', e, hlt⟩
          · rw [e] at hg
            injection hg with hg
            omega
          · rw [e] at hg
            injection hg with hg
            simp at hlt
            omega
        · intro k hk e
          injection e with e
          rcases hk with hk | hk | hk | hk
          · omega
          · have := N6.out k hk
            omega
          · have := HG2l.out k hk
            omega
          · have := N2b.out k hk
            omega
        · rcases hk with hk | hk | hk | hk
          · exact .inl ((HF.out k).2 (.inl hk))
          · exact .inr (by have := N6.out k hk; omega)
          · exact .inl ((HF.out k).2 (.inr (.inr (.inl hk))))
          · exact .inr (by have := N2b.out k hk; omega)
        · rcases HG8.out with e | ⟨g', e, hlt⟩
          · rw [e] at hg
            injection hg with hg
            rcases hk with hk | hk | hk | hk
            · omega
            · have := N6.out g hk
              omega
            · have := HG2l.out g hk
              omega
            · have := N2b.out g hk
              omega
          · rw [e] at hg
            injection hg with hg
            have := H7.out.told.lt g hk
            simp at hlt
            omega

theorem refstr_read (b room : Nat) (s : St) (F : Nat → Prop) (who : Int) (w : World) (h : RefStrQ w b room s F) (hroom : room ≤ 32) :
    Calls Tryz.prog 93 #[.pointer (some ⟨b, 0, none⟩), .int .i64 who] w fun e w' => RefLeft w w' b room F e (readM s who) := by
  obtain ⟨bf, rd, wr⟩ := s
  cases bf with
  | nil => exact refstr_read_none b room rd wr F who w h
  | cons v bf => exact refstr_read_some b room v bf rd wr F who w h hroom
end Go.Proofs.YtipbimbnpikbcaaGreat
