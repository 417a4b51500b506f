/- The document's Write. -/
import Derived.Test.YtmmnilckdlkggaaRefStream
namespace Go.Proofs.Ytmmnilckdlkggaa
open Go.RowKit

set_option maxHeartbeats 1000000 in
set_option maxRecDepth 100000 in
theorem refstr_write (b room : Nat) (s : St) (F : Nat → Prop) (value who : Int) (w : World) (h : RefStrQ w b room s F) (hroom : room ≤ 32) :
    Calls Try.prog 17 #[.pointer (some ⟨b, 0, none⟩), .int .i64 value, .int .i64 who] w fun e w' => RefLeft w w' b room F e (writeM room s value who) := by
  obtain ⟨A1, c1, G1, A2, c2, G2, A3, c3, G3, h, hF⟩ := h
  obtain ⟨bf, rd, wr⟩ := s
  have hc0 := h.blk.cellOf 0 _ rfl
  have hc1 := h.blk.cellOf 1 _ rfl
  have hc2 := h.blk.cellOf 2 _ rfl
  have hc3 := h.blk.cellOf 3 _ rfl
  have hle := h.le
  have HH := Lib.hid h
  have HF := Lib.hid hF
  have hlb := h.blk.lt
  have ca : ∀ (o : Obj) (i : Nat), (w.alloc o).cell? ⟨b, i, none⟩ = w.cell? ⟨b, i, none⟩ := fun o i => World.cell?_alloc_lt w o ⟨b, i, none⟩ hlb
  clear hF
  dsimp only at hc0 hc1 hc2 hc3 hle
  cases rd with
  | cons x rd =>
    have hsl := h.s2
    obtain ⟨g, rfl, rfl, hcell⟩ := hsl.cells (by simp)
    have hcl : w.cell? ⟨g, 0, none⟩ = some (.int .i64 x) := hcell 0 _ (by simp [ints])
    have hcap := hsl.cap_le
    simp only [List.length_cons] at hc2 hsl hcap hle
    have hca2 : ∀ (o : Obj), (w.alloc o).cell? ⟨b, 2, none⟩ = some (.slice (some ⟨g, 0, none⟩) (rd.length + 1) c2) := fun o => (ca o 2).trans hc2
    have hcap1 : 1 ≤ c2 := by omega
    have hsB : ∀ (o : Obj), Src (w.alloc o) 1 (some ⟨g, 1, none⟩) rd.length (ints rd) := fun o => (hsl.alloc o).src.tail1
    have hsA : ∀ (o : Obj), c2 = 1 → Src (w.alloc o) 1 (some ⟨g, 0, none⟩) rd.length (ints rd) := fun o hc => by
      obtain rfl : rd = [] := List.eq_nil_of_length_eq_zero (by omega)
      exact Src.empty _ _ _
    have HA := Lib.hid hsA
    have HB := Lib.hid hsB
    clear hsA hsB hcell h ca
    go_enter Try.func17, Try.ntmps17
    go_wp2_with (at_builtin; refine wpList_app _ rfl (.tmp 22) (.tmp 27) 48 rfl 3 (.int .i64 0) 1 8 Try.underlying48 infoInt rfl (by decide) (by decide) _ _ _ _ _ _ _ _ (ints rd) rfl rfl (Sl.made w 3 #[] 0 rfl (by decide)) (by split; exact HA.out _ ‹c2 = 1›; exact HB.out _) (ints_one rd) (by omega) ?_; intro A4 c4 w1 G4 hs1 ht1 hg1; simp only [Nat.zero_add, List.nil_append] at hs1; have T1 := Lib.hid (tch_own ((Tch.refl NoBlk w).alloc _) ht1 (own_some (Nat.le_refl _))); have N1 := Lib.hid (own_from (B := w.heap.size) (by simp) (own_some (Nat.le_refl _)) hg1); have hc2' := (HH.out.blk.keep T1.out (fun h => h)).cellOf 2 _ rfl; have hf2 := (HH.out.blk.keep T1.out (fun h => h)).free 2; clear ht1 hg1)
    all_goals
      go_ret2
      obtain ⟨h2, T2⟩ := HH.out.set2 T1.out hs1 N1.out (by omega)
      have hN := (Tch.refl NoBlk (w1.setCell ⟨b, 2, none⟩ (.slice A4 rd.length c4))).alloc (.cells #[.int .i64 x, .int .i64 value, .int .i64 who, .int .i64 value] 34)
      refine ⟨Told.twoAt w _ x value who value w1.heap.size (by simp) T2.size, (T2.alloc _).mono (fun k _ e => (HF.out k).2 (.inl e)), _, h2.told.keep hN (fun _ _ h => h), fun k hk => ?_⟩
      rcases hk with hk | hk | hk | hk
      · exact .inl ((HF.out k).2 (.inl hk))
      · exact .inl ((HF.out k).2 (.inr (.inl hk)))
      · exact .inr (N1.out k hk)
      · exact .inl ((HF.out k).2 (.inr (.inr (.inr hk))))
  | nil =>
    by_cases hl : bf.length < room
    · have HM : Hid (writeM room ⟨bf, [], wr⟩ value who = (⟨bf ++ [value], [], wr⟩, [(who, value)], 0)) := Lib.hid (by simp only [writeM]; rw [if_pos hl])
      rw [HM.out]
      have hsl := h.s1
      have hcA : ∀ (n : Nat) (o : Obj), ((w.drewN n).alloc o).cell? ⟨b, 1, none⟩ = some (.slice A1 bf.length c1) := fun n o => (World.cell?_alloc_lt (w.drewN n) o ⟨b, 1, none⟩ hlb).trans hc1
      clear h ca
      go_enter Try.func17, Try.ntmps17
      go_wp2
      go_quiet (fail)
      go_wp2_with (at_builtin; first
        | (refine wpList_app _ rfl (.tmp 49) (.tmp 53) 48 rfl 3 (.int .i64 0) 1 8 Try.underlying48 infoInt rfl (by decide) (by decide) _ _ _ _ _ _ _ _ _ rfl rfl (Sl.made (w.drewN nq) 3 #[] 0 rfl (by decide)) ((hsl.drewN nq).alloc _).src (ints_one bf) (by omega) ?_; intro A4 c4 w1 G4 hs1 ht1 hg1; simp only [Nat.zero_add, List.nil_append] at hs1; have T1 := Lib.hid (tch_own (((Tch.refl NoBlk w).drewN nq).alloc _) ht1 (own_some (Nat.le_refl _))); have N1 := Lib.hid (own_from (B := w.heap.size) (by simp) (own_some (Nat.le_refl _)) hg1); clear ht1 hg1)
        | (refine wpList_app _ rfl (.tmp 54) (.tmp 56) 48 rfl 3 (.int .i64 0) 1 8 Try.underlying48 infoInt rfl (by decide) (by decide) _ _ _ _ _ _ _ _ _ rfl rfl (hs1.alloc _) (Src.made w1 3 #[.int .i64 value] 1 rfl) (ints_one [value]) (by omega) ?_; intro A5 c5 w2 G5 hs2 ht2 hg2; have T2 := Lib.hid (tch_own (T1.out.alloc _) ht2 N1.out); have N2 := Lib.hid (own_from (Nat.le_trans T1.out.size (by simp)) N1.out hg2); have hc2' := (HH.out.blk.keep T2.out (fun h => h)).cellOf 1 _ rfl; have hf2 := (HH.out.blk.keep T2.out (fun h => h)).free 1; clear ht2 hg2))
      go_ret2
      have e1 : (bf ++ [value]).length = bf.length + 1 := by simp
      rw [← e1] at hs2 ⊢
      obtain ⟨h2, T3⟩ := HH.out.set1 (q := bf ++ [value]) T2.out (by rw [ints, List.map_append]; exact hs2) N2.out (by simp; omega)
      have hN := (Tch.refl NoBlk (w2.setCell ⟨b, 1, none⟩ (.slice A5 (bf ++ [value]).length c5))).alloc (.cells #[.int .i64 who, .int .i64 value] 34)
      refine ⟨Told.oneAt w _ who value w2.heap.size (by simp) T3.size, (T3.alloc _).mono (fun k _ e => (HF.out k).2 (.inl e)), _, h2.told.keep hN (fun _ _ h => h), fun k hk => ?_⟩
      rcases hk with hk | hk | hk | hk
      · exact .inl ((HF.out k).2 (.inl hk))
      · exact .inr (N2.out k hk)
      · exact .inl ((HF.out k).2 (.inr (.inr (.inl hk))))
      · exact .inl ((HF.out k).2 (.inr (.inr (.inr hk))))
    · have hle2 : room ≤ bf.length := by omega
      by_cases hw : wr.length < 64
      · have HM : Hid (writeM room ⟨bf, [], wr⟩ value who = (⟨bf, [], wr ++ [(who, value)]⟩, [], 0)) := Lib.hid (by simp only [writeM]; rw [if_neg hl, if_pos hw])
        rw [HM.out]
        have hsl := h.s3
        have hcA : ∀ (n : Nat) (o : Obj), ((w.drewN n).alloc o).cell? ⟨b, 3, none⟩ = some (.slice A3 wr.length c3) := fun n o => (World.cell?_alloc_lt (w.drewN n) o ⟨b, 3, none⟩ hlb).trans hc3
        clear h ca hl
        go_enter Try.func17, Try.ntmps17
        go_wp2
        go_quiet (fail)
        go_wp2_with (at_builtin; first
          | (refine wpList_app _ rfl (.tmp 71) (.tmp 75) 28 rfl 34 (.agg #[.int .i64 0, .int .i64 0]) 2 16 Try.underlying28 infoGot rfl (by decide) (by decide) _ _ _ _ _ _ _ _ _ rfl rfl (Sl.made (w.drewN nq) 34 #[] 0 rfl (by decide)) ((hsl.drewN nq).alloc _).src (gots_one wr) (by omega) ?_; intro A4 c4 w1 G4 hs1 ht1 hg1; simp only [Nat.zero_add, List.nil_append] at hs1; have T1 := Lib.hid (tch_own (((Tch.refl NoBlk w).drewN nq).alloc _) ht1 (own_some (Nat.le_refl _))); have N1 := Lib.hid (own_from (B := w.heap.size) (by simp) (own_some (Nat.le_refl _)) hg1); clear ht1 hg1)
          | (refine wpList_app _ rfl (.tmp 76) (.tmp 80) 28 rfl 34 (.agg #[.int .i64 0, .int .i64 0]) 2 16 Try.underlying28 infoGot rfl (by decide) (by decide) _ _ _ _ _ _ _ _ _ rfl rfl (hs1.alloc _) (Src.made w1 34 #[.int .i64 who, .int .i64 value] 1 rfl) (gots_one [(who, value)]) (by omega) ?_; intro A5 c5 w2 G5 hs2 ht2 hg2; have T2 := Lib.hid (tch_own (T1.out.alloc _) ht2 N1.out); have N2 := Lib.hid (own_from (Nat.le_trans T1.out.size (by simp)) N1.out hg2); have hc2' := (HH.out.blk.keep T2.out (fun h => h)).cellOf 3 _ rfl; have hf2 := (HH.out.blk.keep T2.out (fun h => h)).free 3; clear ht2 hg2))
        go_ret2
        have e1 : (wr ++ [(who, value)]).length = wr.length + 1 := by simp
        rw [← e1] at hs2 ⊢
        obtain ⟨h2, T3⟩ := HH.out.set3 (q := wr ++ [(who, value)]) T2.out (by rw [gots_app]; exact hs2) N2.out (by simp; omega)
        refine ⟨Told.no w _ 0, T3.mono (fun k _ e => (HF.out k).2 (.inl e)), _, h2.told, fun k hk => ?_⟩
        rcases hk with hk | hk | hk | hk
        · exact .inl ((HF.out k).2 (.inl hk))
        · exact .inl ((HF.out k).2 (.inr (.inl hk)))
        · exact .inl ((HF.out k).2 (.inr (.inr (.inl hk))))
        · exact .inr (N2.out k hk)
      · have HM : Hid (writeM room ⟨bf, [], wr⟩ value who = (⟨bf, [], wr⟩, [], 140)) := Lib.hid (by simp only [writeM]; rw [if_neg hl, if_neg hw])
        rw [HM.out]
        have hw2 : 64 ≤ wr.length := by omega
        clear h ca hl hw
        go_enter Try.func17, Try.ntmps17
        go_wp2
        go_quiet (fail)
        go_wp2
        go_ret2
        exact ⟨Told.no w _ 140, (Tch.refl F w).drewN _, F, (show RefStrQ w b room ⟨bf, [], wr⟩ F from ⟨A1, c1, G1, A2, c2, G2, A3, c3, G3, HH.out, HF.out⟩).keep ((Tch.refl NoBlk w).drewN _) (fun _ _ h => h), fun k hk => .inl hk⟩
end Go.Proofs.Ytmmnilckdlkggaa
