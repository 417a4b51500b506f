import Derived.Test.YtipbimbnpikbcaaGreatMg11
import Derived.Test.YtipbimbnpikbcaaGreatMg03
/- The document's stream: three lists. -/
namespace Go.Proofs.YtipbimbnpikbcaaGreat
open Go.RowKit

structure RefStrAt (w : World) (b room : Nat) (s : St) (A1 : Option Addr) (c1 : Nat) (G1 : Option Nat) (A2 : Option Addr) (c2 : Nat) (G2 : Option Nat) (A3 : Option Addr) (c3 : Nat) (G3 : Option Nat) : Prop where
  blk : Blk w b 146 [.int .i64 room, .slice A1 s.bf.length c1, .slice A2 s.rd.length c2, .slice A3 s.wr.length c3]
  s1 : Sl w 3 1 A1 s.bf.length c1 (ints s.bf) G1
  s2 : Sl w 3 1 A2 s.rd.length c2 (ints s.rd) G2
  s3 : Sl w 144 2 A3 s.wr.length c3 (gots s.wr) G3
  n1 : G1 ≠ some b
  n2 : G2 ≠ some b
  n3 : G3 ≠ some b
  n12 : ∀ g, G1 = some g → G2 ≠ some g
  n13 : ∀ g, G1 = some g → G3 ≠ some g
  n23 : ∀ g, G2 = some g → G3 ≠ some g
  le : s.bf.length ≤ room ∧ s.rd.length ≤ 64 ∧ s.wr.length ≤ 64

/-- The document's stream at block b; it lies in the blocks of F alone. -/
def RefStrQ (w : World) (b room : Nat) (s : St) (F : Nat → Prop) : Prop :=
  ∃ A1 c1 G1 A2 c2 G2 A3 c3 G3, RefStrAt w b room s A1 c1 G1 A2 c2 G2 A3 c3 G3 ∧ ∀ k, F k ↔ k = b ∨ G1 = some k ∨ G2 = some k ∨ G3 = some k

section
variable {w w' : World} {b room : Nat} {s : St} {F S : Nat → Prop} {A1 A2 A3 : Option Addr} {c1 c2 c3 : Nat} {G1 G2 G3 : Option Nat}
theorem RefStrAt.keep (h : RefStrAt w b room s A1 c1 G1 A2 c2 G2 A3 c3 G3) (ht : Tch S w w') (hb : ¬ S b) (h1 : ∀ g, G1 = some g → ¬ S g) (h2 : ∀ g, G2 = some g → ¬ S g) (h3 : ∀ g, G3 = some g → ¬ S g) : RefStrAt w' b room s A1 c1 G1 A2 c2 G2 A3 c3 G3 :=
  ⟨h.blk.keep ht hb, h.s1.keep ht h1, h.s2.keep ht h2, h.s3.keep ht h3, h.n1, h.n2, h.n3, h.n12, h.n13, h.n23, h.le⟩
theorem RefStrQ.keep (h : RefStrQ w b room s F) (ht : Tch S w w') (hS : ∀ k, F k → ¬ S k) : RefStrQ w' b room s F := by
  obtain ⟨A1, c1, G1, A2, c2, G2, A3, c3, G3, h, hF⟩ := h
  exact ⟨A1, c1, G1, A2, c2, G2, A3, c3, G3, h.keep ht (hS _ ((hF _).2 (.inl rfl))) (fun g e => hS _ ((hF _).2 (.inr (.inl e)))) (fun g e => hS _ ((hF _).2 (.inr (.inr (.inl e))))) (fun g e => hS _ ((hF _).2 (.inr (.inr (.inr e))))), hF⟩
theorem RefStrQ.lt (h : RefStrQ w b room s F) : ∀ k, F k → k < w.heap.size := by
  obtain ⟨A1, c1, G1, A2, c2, G2, A3, c3, G3, h, hF⟩ := h
  intro k hk
  rcases (hF k).1 hk with rfl | hk | hk | hk
  · exact h.blk.lt
  · exact h.s1.lt k hk
  · exact h.s2.lt k hk
  · exact h.s3.lt k hk
end

theorem refstr_new_yes (room : Nat) (w : World) (h1 : 1 ≤ room) (h2 : room ≤ 32) :
    Calls Tryz.prog 76 #[.int .i64 room] w fun e w' => ∃ b F, e = .returned (.tuple #[.pointer (some ⟨b, 0, none⟩), .int .i64 0]) ∧ RefStrQ w' b room ⟨[], [], []⟩ F ∧ (∀ k, F k → w.heap.size ≤ k) ∧ Tch NoBlk w w' := by
  go_enter Tryz.func76, Tryz.ntmps76
  go_wp2
  go_ret2
  refine ⟨w.heap.size, fun k => k = w.heap.size ∨ (none : Option Nat) = some k ∨ (none : Option Nat) = some k ∨ (none : Option Nat) = some k, rfl, ⟨none, 0, none, none, 0, none, none, 0, none, ⟨Blk.new w _ _, Sl.nil _ _ _, Sl.nil _ _ _, Sl.nil _ _ _, by simp, by simp, by simp, by simp, by simp, by simp, by simp⟩, fun k => Iff.rfl⟩, fun k hk => ?_, (Tch.refl _ _).alloc _⟩
  rcases hk with rfl | hk | hk | hk
  · exact Nat.le_refl _
  · cases hk
  · cases hk
  · cases hk
theorem refstr_new_no (m : Int) (w : World) (h : m < 1 ∨ 32 < m) :
    Calls Tryz.prog 76 #[.int .i64 m] w fun e w' => e = .returned (.tuple #[.pointer none, .int .i64 1]) ∧ w' = w := by
  by_cases h1 : m < 1
  · go_enter Tryz.func76, Tryz.ntmps76
    go_wp2
    go_ret2
    exact ⟨rfl, rfl⟩
  · have h2 : 32 < m := by omega
    clear h
    go_enter Tryz.func76, Tryz.ntmps76
    go_wp2
    go_ret2
    exact ⟨rfl, rfl⟩

section
variable {w w2 : World} {b room : Nat} {s : St} {A1 A2 A3 : Option Addr} {c1 c2 c3 : Nat} {G1 G2 G3 : Option Nat}

theorem RefStrAt.set1 (h : RefStrAt w b room s A1 c1 G1 A2 c2 G2 A3 c3 G3) (T : Tch NoBlk w w2) {q : List Int} {A' : Option Addr} {c' : Nat} {G' : Option Nat} (hs : Sl w2 3 1 A' q.length c' (ints q) G') (hG : ∀ g, G' = some g → w.heap.size ≤ g) (hle : q.length ≤ room) :
    RefStrAt (w2.setCell ⟨b, 1, none⟩ (.slice A' q.length c')) b room ⟨q, s.rd, s.wr⟩ A' c' G' A2 c2 G2 A3 c3 G3 ∧ Tch (· = b) w (w2.setCell ⟨b, 1, none⟩ (.slice A' q.length c')) := by
  have hS : Tch (· = b) w2 (w2.setCell ⟨b, 1, none⟩ (.slice A' q.length c')) := (Tch.refl (· = b) w2).setCell (p := ⟨b, 1, none⟩) (fun _ => rfl) _
  have hlb := h.blk.lt
  have hn : ∀ k, k < w.heap.size → G' ≠ some k := fun k hk e => by have := hG k e; omega
  refine ⟨⟨(h.blk.keep T (fun h => h)).set 1 _, hs.keep hS (fun g hg e => hn b hlb (e ▸ hg)), (h.s2.keep T (fun _ _ h => h)).keep hS (fun g hg e => h.n2 (e ▸ hg)), (h.s3.keep T (fun _ _ h => h)).keep hS (fun g hg e => h.n3 (e ▸ hg)), hn b hlb, h.n2, h.n3, fun g hg e => hn g (h.s2.lt g e) hg, fun g hg e => hn g (h.s3.lt g e) hg, h.n23, hle, h.le.2⟩, (T.mono (fun _ _ h => h.elim)).trans hS⟩
theorem RefStrAt.set2 (h : RefStrAt w b room s A1 c1 G1 A2 c2 G2 A3 c3 G3) (T : Tch NoBlk w w2) {q : List Int} {A' : Option Addr} {c' : Nat} {G' : Option Nat} (hs : Sl w2 3 1 A' q.length c' (ints q) G') (hG : ∀ g, G' = some g → w.heap.size ≤ g) (hle : q.length ≤ 64) :
    RefStrAt (w2.setCell ⟨b, 2, none⟩ (.slice A' q.length c')) b room ⟨s.bf, q, s.wr⟩ A1 c1 G1 A' c' G' A3 c3 G3 ∧ Tch (· = b) w (w2.setCell ⟨b, 2, none⟩ (.slice A' q.length c')) := by
  have hS : Tch (· = b) w2 (w2.setCell ⟨b, 2, none⟩ (.slice A' q.length c')) := (Tch.refl (· = b) w2).setCell (p := ⟨b, 2, none⟩) (fun _ => rfl) _
  have hlb := h.blk.lt
  have hn : ∀ k, k < w.heap.size → G' ≠ some k := fun k hk e => by have := hG k e; omega
  refine ⟨⟨(h.blk.keep T (fun h => h)).set 2 _, (h.s1.keep T (fun _ _ h => h)).keep hS (fun g hg e => h.n1 (e ▸ hg)), hs.keep hS (fun g hg e => hn b hlb (e ▸ hg)), (h.s3.keep T (fun _ _ h => h)).keep hS (fun g hg e => h.n3 (e ▸ hg)), h.n1, hn b hlb, h.n3, fun g hg e => hn g (h.s1.lt g hg) e, h.n13, fun g hg e => hn g (h.s3.lt g e) hg, h.le.1, hle, h.le.2.2⟩, (T.mono (fun _ _ h => h.elim)).trans hS⟩
theorem RefStrAt.set3 (h : RefStrAt w b room s A1 c1 G1 A2 c2 G2 A3 c3 G3) (T : Tch NoBlk w w2) {q : List (Int × Int)} {A' : Option Addr} {c' : Nat} {G' : Option Nat} (hs : Sl w2 144 2 A' q.length c' (gots q) G') (hG : ∀ g, G' = some g → w.heap.size ≤ g) (hle : q.length ≤ 64) :
    RefStrAt (w2.setCell ⟨b, 3, none⟩ (.slice A' q.length c')) b room ⟨s.bf, s.rd, q⟩ A1 c1 G1 A2 c2 G2 A' c' G' ∧ Tch (· = b) w (w2.setCell ⟨b, 3, none⟩ (.slice A' q.length c')) := by
  have hS : Tch (· = b) w2 (w2.setCell ⟨b, 3, none⟩ (.slice A' q.length c')) := (Tch.refl (· = b) w2).setCell (p := ⟨b, 3, none⟩) (fun _ => rfl) _
  have hlb := h.blk.lt
  have hn : ∀ k, k < w.heap.size → G' ≠ some k := fun k hk e => by have := hG k e; omega
  refine ⟨⟨(h.blk.keep T (fun h => h)).set 3 _, (h.s1.keep T (fun _ _ h => h)).keep hS (fun g hg e => h.n1 (e ▸ hg)), (h.s2.keep T (fun _ _ h => h)).keep hS (fun g hg e => h.n2 (e ▸ hg)), hs.keep hS (fun g hg e => hn b hlb (e ▸ hg)), h.n1, h.n2, hn b hlb, h.n12, fun g hg e => hn g (h.s1.lt g hg) e, fun g hg e => hn g (h.s2.lt g hg) e, h.le.1, h.le.2.1, hle⟩, (T.mono (fun _ _ h => h.elim)).trans hS⟩

/-- The blocks of the parts. -/
def RefF (b : Nat) (G1 G2 G3 : Option Nat) (k : Nat) : Prop := k = b ∨ G1 = some k ∨ G2 = some k ∨ G3 = some k
theorem RefStrAt.told (h : RefStrAt w b room s A1 c1 G1 A2 c2 G2 A3 c3 G3) : RefStrQ w b room s (RefF b G1 G2 G3) := ⟨A1, c1, G1, A2, c2, G2, A3, c3, G3, h, fun _ => Iff.rfl⟩
end

theorem Told.oneAt (w w1 : World) (a v : Int) (g : Nat) (hg : w1.heap.size = g) (h : w.heap.size ≤ w1.heap.size) : Told w (w1.alloc (.cells #[.int .i64 a, .int .i64 v] 144)) (.returned (.tuple #[.slice (some ⟨g, 0, none⟩) 1 1, .int .i64 0])) [(a, v)] 0 := by
  subst hg
  exact Told.one w w1 a v h
theorem Told.twoAt (w w1 : World) (a v c u : Int) (g : Nat) (hg : w1.heap.size = g) (h : w.heap.size ≤ w1.heap.size) : Told w (w1.alloc (.cells #[.int .i64 a, .int .i64 v, .int .i64 c, .int .i64 u] 144)) (.returned (.tuple #[.slice (some ⟨g, 0, none⟩) 2 2, .int .i64 0])) [(a, v), (c, u)] 0 := by
  subst hg
  exact Told.two w w1 a v c u h

/-- The row told lies apart from some blocks. -/
def RowApart (e : Ending) (F : Nat → Prop) : Prop := ∀ A n c x, e = .returned (.tuple #[.slice A n c, x]) → ∀ g, (Value.slice A n c).ownBlock = some g → ¬ F g
theorem RowApart.no (x : Value) (F : Nat → Prop) : RowApart (.returned (.tuple #[.slice none 0 0, x])) F := by
  intro A n c y e g hg
  injection e with e
  injection e with e
  simp at e
  obtain ⟨⟨e1, e2, e3⟩, _⟩ := e
  subst e1; subst e2; subst e3
  cases hg
theorem RowApart.mk {A : Option Addr} {n c : Nat} {G : Option Nat} {x : Value} {F : Nat → Prop} (hb : (Value.slice A n c).ownBlock = G) (h : ∀ g, G = some g → ¬ F g) : RowApart (.returned (.tuple #[.slice A n c, x])) F := by
  intro A' n' c' y e g hg
  injection e with e
  injection e with e
  simp at e
  obtain ⟨⟨e1, e2, e3⟩, _⟩ := e
  subst e1; subst e2; subst e3
  exact h g (hb ▸ hg)
theorem RowApart.one {g n c : Nat} {x : Value} {F : Nat → Prop} (h : ¬ F g) : RowApart (.returned (.tuple #[.slice (some ⟨g, 0, none⟩) n c, x])) F := RowApart.mk (G := some g) rfl (fun _ e => by injection e with e; exact e ▸ h)
/-- What a call of the document's stream leaves: the row told, the stream then, nothing else touched; the row lies apart from the stream. -/
def RefLeft (w w' : World) (b room : Nat) (F : Nat → Prop) (e : Ending) (r : St × List (Int × Int) × Int) : Prop :=
  Told w w' e r.2.1 r.2.2 ∧ Tch F w w' ∧ ∃ F', RefStrQ w' b room r.1 F' ∧ (∀ k, F' k → F k ∨ w.heap.size ≤ k) ∧ RowApart e F'

end Go.Proofs.YtipbimbnpikbcaaGreat

/- The document's Write. -/
namespace Go.Proofs.YtipbimbnpikbcaaGreat
open Go.RowKit

set_option maxHeartbeats 1000000 in
set_option maxRecDepth 100000 in
theorem refstr_write (b room : Nat) (s : St) (F : Nat → Prop) (value who : Int) (w : World) (h : RefStrQ w b room s F) (hroom : room ≤ 32) :
    Calls Tryz.prog 94 #[.pointer (some ⟨b, 0, none⟩), .int .i64 value, .int .i64 who] w fun e w' => RefLeft w w' b room F e (writeM room s value who) := by
  obtain ⟨A1, c1, G1, A2, c2, G2, A3, c3, G3, h, hF⟩ := h
  obtain ⟨bf, rd, wr⟩ := s
  have hc0 := h.blk.cellOf 0 _ rfl
  have hc1 := h.blk.cellOf 1 _ rfl
  have hc2 := h.blk.cellOf 2 _ rfl
  have hc3 := h.blk.cellOf 3 _ rfl
  have hle := h.le
  have HH := Lib.hid h
  have HF := Lib.hid hF
  have hlb := h.blk.lt
  have ca : ∀ (o : Obj) (i : Nat), (w.alloc o).cell? ⟨b, i, none⟩ = w.cell? ⟨b, i, none⟩ := fun o i => World.cell?_alloc_lt w o ⟨b, i, none⟩ hlb
  clear hF
  dsimp only at hc0 hc1 hc2 hc3 hle
  cases rd with
  | cons x rd =>
    have hsl := h.s2
    obtain ⟨g, rfl, rfl, hcell⟩ := hsl.cells (by simp)
    have hcl : w.cell? ⟨g, 0, none⟩ = some (.int .i64 x) := hcell 0 _ (by simp [ints])
    have hcap := hsl.cap_le
    simp only [List.length_cons] at hc2 hsl hcap hle
    have hca2 : ∀ (o : Obj), (w.alloc o).cell? ⟨b, 2, none⟩ = some (.slice (some ⟨g, 0, none⟩) (rd.length + 1) c2) := fun o => (ca o 2).trans hc2
    have hcap1 : 1 ≤ c2 := by omega
    have hsB : ∀ (o : Obj), Src (w.alloc o) 1 (some ⟨g, 1, none⟩) rd.length (ints rd) := fun o => (hsl.alloc o).src.tail1
    have hsA : ∀ (o : Obj), c2 = 1 → Src (w.alloc o) 1 (some ⟨g, 0, none⟩) rd.length (ints rd) := fun o hc => by
      obtain rfl : rd = [] := List.eq_nil_of_length_eq_zero (by omega)
      exact Src.empty _ _ _
    have HA := Lib.hid hsA
    have HB := Lib.hid hsB
    clear hsA hsB hcell h ca
    go_enter Tryz.func94, Tryz.ntmps94
    go_wp2_with (at_builtin; refine wpList_app _ rfl (.tmp 22) (.tmp 27) 52 rfl 3 (.int .i64 0) 1 8 Tryz.underlying52 infoInt rfl (by decide) (by decide) _ _ _ _ _ _ _ _ (ints rd) rfl rfl (Sl.made w 3 #[] 0 rfl (by decide)) (by split; exact HA.out _ ‹c2 = 1›; exact HB.out _) (ints_one rd) (by omega) ?_; intro A4 c4 w1 G4 hs1 ht1 hg1; simp only [Nat.zero_add, List.nil_append] at hs1; have T1 := Lib.hid (tch_own ((Tch.refl NoBlk w).alloc _) ht1 (own_some (Nat.le_refl _))); have N1 := Lib.hid (own_from (B := w.heap.size) (by simp) (own_some (Nat.le_refl _)) hg1); have hc2' := (HH.out.blk.keep T1.out (fun h => h)).cellOf 2 _ rfl; have hf2 := (HH.out.blk.keep T1.out (fun h => h)).free 2; clear ht1 hg1)
    all_goals
      go_ret2
      obtain ⟨h2, T2⟩ := HH.out.set2 T1.out hs1 N1.out (by omega)
      have hN := (Tch.refl NoBlk (w1.setCell ⟨b, 2, none⟩ (.slice A4 rd.length c4))).alloc (.cells #[.int .i64 x, .int .i64 value, .int .i64 who, .int .i64 value] 144)
      refine ⟨Told.twoAt w _ x value who value w1.heap.size (by simp) T2.size, (T2.alloc _).mono (fun k _ e => (HF.out k).2 (.inl e)), _, h2.told.keep hN (fun _ _ h => h), fun k hk => ?_, RowApart.one (fun e => by have := h2.told.lt _ e; simp at this)⟩
      rcases hk with hk | hk | hk | hk
      · exact .inl ((HF.out k).2 (.inl hk))
      · exact .inl ((HF.out k).2 (.inr (.inl hk)))
      · exact .inr (N1.out k hk)
      · exact .inl ((HF.out k).2 (.inr (.inr (.inr hk))))
  | nil =>
    by_cases hl : bf.length < room
    · have HM : Hid (writeM room ⟨bf, [], wr⟩ value who = (⟨bf ++ [value], [], wr⟩, [(who, value)], 0)) := Lib.hid (by simp only [writeM]; rw [if_pos hl])
      rw [HM.out]
      have hsl := h.s1
      have hcA : ∀ (n : Nat) (o : Obj), ((w.drewN n).alloc o).cell? ⟨b, 1, none⟩ = some (.slice A1 bf.length c1) := fun n o => (World.cell?_alloc_lt (w.drewN n) o ⟨b, 1, none⟩ hlb).trans hc1
      clear h ca
      go_enter Tryz.func94, Tryz.ntmps94
      go_wp2
      go_quiet (fail)
      go_wp2_with (at_builtin; first
        | (refine wpList_app _ rfl (.tmp 49) (.tmp 53) 52 rfl 3 (.int .i64 0) 1 8 Tryz.underlying52 infoInt rfl (by decide) (by decide) _ _ _ _ _ _ _ _ _ rfl rfl (Sl.made (w.drewN nq) 3 #[] 0 rfl (by decide)) ((hsl.drewN nq).alloc _).src (ints_one bf) (by omega) ?_; intro A4 c4 w1 G4 hs1 ht1 hg1; simp only [Nat.zero_add, List.nil_append] at hs1; have T1 := Lib.hid (tch_own (((Tch.refl NoBlk w).drewN nq).alloc _) ht1 (own_some (Nat.le_refl _))); have N1 := Lib.hid (own_from (B := w.heap.size) (by simp) (own_some (Nat.le_refl _)) hg1); clear ht1 hg1)
        | (refine wpList_app _ rfl (.tmp 54) (.tmp 56) 52 rfl 3 (.int .i64 0) 1 8 Tryz.underlying52 infoInt rfl (by decide) (by decide) _ _ _ _ _ _ _ _ _ rfl rfl (hs1.alloc _) (Src.made w1 3 #[.int .i64 value] 1 rfl) (ints_one [value]) (by omega) ?_; intro A5 c5 w2 G5 hs2 ht2 hg2; have T2 := Lib.hid (tch_own (T1.out.alloc _) ht2 N1.out); have N2 := Lib.hid (own_from (Nat.le_trans T1.out.size (by simp)) N1.out hg2); have hc2' := (HH.out.blk.keep T2.out (fun h => h)).cellOf 1 _ rfl; have hf2 := (HH.out.blk.keep T2.out (fun h => h)).free 1; clear ht2 hg2))
      go_ret2
      have e1 : (bf ++ [value]).length = bf.length + 1 := by simp
      rw [← e1] at hs2 ⊢
      obtain ⟨h2, T3⟩ := HH.out.set1 (q := bf ++ [value]) T2.out (by rw [ints, List.map_append]; exact hs2) N2.out (by simp; omega)
      have hN := (Tch.refl NoBlk (w2.setCell ⟨b, 1, none⟩ (.slice A5 (bf ++ [value]).length c5))).alloc (.cells #[.int .i64 who, .int .i64 value] 144)
      refine ⟨Told.oneAt w _ who value w2.heap.size (by simp) T3.size, (T3.alloc _).mono (fun k _ e => (HF.out k).2 (.inl e)), _, h2.told.keep hN (fun _ _ h => h), fun k hk => ?_, RowApart.one (fun e => by have := h2.told.lt _ e; simp at this)⟩
      rcases hk with hk | hk | hk | hk
      · exact .inl ((HF.out k).2 (.inl hk))
      · exact .inr (N2.out k hk)
      · exact .inl ((HF.out k).2 (.inr (.inr (.inl hk))))
      · exact .inl ((HF.out k).2 (.inr (.inr (.inr hk))))
    · have hle2 : room ≤ bf.length := by omega
      by_cases hw : wr.length < 64
      · have HM : Hid (writeM room ⟨bf, [], wr⟩ value who = (⟨bf, [], wr ++ [(who, value)]⟩, [], 0)) := Lib.hid (by simp only [writeM]; rw [if_neg hl, if_pos hw])
        rw [HM.out]
        have hsl := h.s3
        have hcA : ∀ (n : Nat) (o : Obj), ((w.drewN n).alloc o).cell? ⟨b, 3, none⟩ = some (.slice A3 wr.length c3) := fun n o => (World.cell?_alloc_lt (w.drewN n) o ⟨b, 3, none⟩ hlb).trans hc3
        clear h ca hl
        go_enter Tryz.func94, Tryz.ntmps94
        go_wp2
        go_quiet (fail)
        go_wp2_with (at_builtin; first
          | (refine wpList_app _ rfl (.tmp 71) (.tmp 75) 111 rfl 144 (.agg #[.int .i64 0, .int .i64 0]) 2 16 Tryz.underlying111 infoGot rfl (by decide) (by decide) _ _ _ _ _ _ _ _ _ rfl rfl (Sl.made (w.drewN nq) 144 #[] 0 rfl (by decide)) ((hsl.drewN nq).alloc _).src (gots_one wr) (by omega) ?_; intro A4 c4 w1 G4 hs1 ht1 hg1; simp only [Nat.zero_add, List.nil_append] at hs1; have T1 := Lib.hid (tch_own (((Tch.refl NoBlk w).drewN nq).alloc _) ht1 (own_some (Nat.le_refl _))); have N1 := Lib.hid (own_from (B := w.heap.size) (by simp) (own_some (Nat.le_refl _)) hg1); clear ht1 hg1)
          | (refine wpList_app _ rfl (.tmp 76) (.tmp 80) 111 rfl 144 (.agg #[.int .i64 0, .int .i64 0]) 2 16 Tryz.underlying111 infoGot rfl (by decide) (by decide) _ _ _ _ _ _ _ _ _ rfl rfl (hs1.alloc _) (Src.made w1 144 #[.int .i64 who, .int .i64 value] 1 rfl) (gots_one [(who, value)]) (by omega) ?_; intro A5 c5 w2 G5 hs2 ht2 hg2; have T2 := Lib.hid (tch_own (T1.out.alloc _) ht2 N1.out); have N2 := Lib.hid (own_from (Nat.le_trans T1.out.size (by simp)) N1.out hg2); have hc2' := (HH.out.blk.keep T2.out (fun h => h)).cellOf 3 _ rfl; have hf2 := (HH.out.blk.keep T2.out (fun h => h)).free 3; clear ht2 hg2))
        go_ret2
        have e1 : (wr ++ [(who, value)]).length = wr.length + 1 := by simp
        rw [← e1] at hs2 ⊢
        obtain ⟨h2, T3⟩ := HH.out.set3 (q := wr ++ [(who, value)]) T2.out (by rw [gots_app]; exact hs2) N2.out (by simp; omega)
        refine ⟨Told.no w _ 0, T3.mono (fun k _ e => (HF.out k).2 (.inl e)), _, h2.told, fun k hk => ?_, RowApart.no _ _⟩
        rcases hk with hk | hk | hk | hk
        · exact .inl ((HF.out k).2 (.inl hk))
        · exact .inl ((HF.out k).2 (.inr (.inl hk)))
        · exact .inl ((HF.out k).2 (.inr (.inr (.inl hk))))
        · exact .inr (N2.out k hk)
      · have HM : Hid (writeM room ⟨bf, [], wr⟩ value who = (⟨bf, [], wr⟩, [], 140)) := Lib.hid (by simp only [writeM]; rw [if_neg hl, if_neg hw])
        rw [HM.out]
        have hw2 : 64 ≤ wr.length := by omega
        clear h ca hl hw
        go_enter Tryz.func94, Tryz.ntmps94
        go_wp2
        go_quiet (fail)
        go_wp2
        go_ret2
        exact ⟨Told.no w _ 140, (Tch.refl F w).drewN _, F, (show RefStrQ w b room ⟨bf, [], wr⟩ F from ⟨A1, c1, G1, A2, c2, G2, A3, c3, G3, HH.out, HF.out⟩).keep ((Tch.refl NoBlk w).drewN _) (fun _ _ h => h), fun k hk => .inl hk, RowApart.no _ _⟩
end Go.Proofs.YtipbimbnpikbcaaGreat
