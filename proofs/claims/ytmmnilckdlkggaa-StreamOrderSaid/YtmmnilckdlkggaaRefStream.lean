/- The document's stream: three lists. -/
import Derived.Test.YtmmnilckdlkggaaStreamNew
import Derived.Test.YtmmnilckdlkggaaInts
namespace Go.Proofs.Ytmmnilckdlkggaa
open Go.RowKit

structure RefStrAt (w : World) (b room : Nat) (s : St) (A1 : Option Addr) (c1 : Nat) (G1 : Option Nat) (A2 : Option Addr) (c2 : Nat) (G2 : Option Nat) (A3 : Option Addr) (c3 : Nat) (G3 : Option Nat) : Prop where
  blk : Blk w b 50 [.int .i64 room, .slice A1 s.bf.length c1, .slice A2 s.rd.length c2, .slice A3 s.wr.length c3]
  s1 : Sl w 3 1 A1 s.bf.length c1 (ints s.bf) G1
  s2 : Sl w 3 1 A2 s.rd.length c2 (ints s.rd) G2
  s3 : Sl w 34 2 A3 s.wr.length c3 (gots s.wr) G3
  n1 : G1 ≠ some b
  n2 : G2 ≠ some b
  n3 : G3 ≠ some b
  n12 : ∀ g, G1 = some g → G2 ≠ some g
  n13 : ∀ g, G1 = some g → G3 ≠ some g
  n23 : ∀ g, G2 = some g → G3 ≠ some g
  le : s.bf.length ≤ room ∧ s.rd.length ≤ 64 ∧ s.wr.length ≤ 64

/-- The document's stream at block b; it lies in the blocks of F alone. -/
def RefStrQ (w : World) (b room : Nat) (s : St) (F : Nat → Prop) : Prop :=
  ∃ A1 c1 G1 A2 c2 G2 A3 c3 G3, RefStrAt w b room s A1 c1 G1 A2 c2 G2 A3 c3 G3 ∧ ∀ k, F k ↔ k = b ∨ G1 = some k ∨ G2 = some k ∨ G3 = some k

section
variable {w w' : World} {b room : Nat} {s : St} {F S : Nat → Prop} {A1 A2 A3 : Option Addr} {c1 c2 c3 : Nat} {G1 G2 G3 : Option Nat}
theorem RefStrAt.keep (h : RefStrAt w b room s A1 c1 G1 A2 c2 G2 A3 c3 G3) (ht : Tch S w w') (hb : ¬ S b) (h1 : ∀ g, G1 = some g → ¬ S g) (h2 : ∀ g, G2 = some g → ¬ S g) (h3 : ∀ g, G3 = some g → ¬ S g) : RefStrAt w' b room s A1 c1 G1 A2 c2 G2 A3 c3 G3 :=
  ⟨h.blk.keep ht hb, h.s1.keep ht h1, h.s2.keep ht h2, h.s3.keep ht h3, h.n1, h.n2, h.n3, h.n12, h.n13, h.n23, h.le⟩
theorem RefStrQ.keep (h : RefStrQ w b room s F) (ht : Tch S w w') (hS : ∀ k, F k → ¬ S k) : RefStrQ w' b room s F := by
  obtain ⟨A1, c1, G1, A2, c2, G2, A3, c3, G3, h, hF⟩ := h
  exact ⟨A1, c1, G1, A2, c2, G2, A3, c3, G3, h.keep ht (hS _ ((hF _).2 (.inl rfl))) (fun g e => hS _ ((hF _).2 (.inr (.inl e)))) (fun g e => hS _ ((hF _).2 (.inr (.inr (.inl e))))) (fun g e => hS _ ((hF _).2 (.inr (.inr (.inr e))))), hF⟩
theorem RefStrQ.lt (h : RefStrQ w b room s F) : ∀ k, F k → k < w.heap.size := by
  obtain ⟨A1, c1, G1, A2, c2, G2, A3, c3, G3, h, hF⟩ := h
  intro k hk
  rcases (hF k).1 hk with rfl | hk | hk | hk
  · exact h.blk.lt
  · exact h.s1.lt k hk
  · exact h.s2.lt k hk
  · exact h.s3.lt k hk
end

theorem refstr_new_yes (room : Nat) (w : World) (h1 : 1 ≤ room) (h2 : room ≤ 32) :
    Calls Try.prog 14 #[.int .i64 room] w fun e w' => ∃ b F, e = .returned (.tuple #[.pointer (some ⟨b, 0, none⟩), .int .i64 0]) ∧ RefStrQ w' b room ⟨[], [], []⟩ F ∧ (∀ k, F k → w.heap.size ≤ k) ∧ Tch NoBlk w w' := by
  go_enter Try.func14, Try.ntmps14
  go_wp2
  go_ret2
  refine ⟨w.heap.size, fun k => k = w.heap.size ∨ (none : Option Nat) = some k ∨ (none : Option Nat) = some k ∨ (none : Option Nat) = some k, rfl, ⟨none, 0, none, none, 0, none, none, 0, none, ⟨Blk.new w _ _, Sl.nil _ _ _, Sl.nil _ _ _, Sl.nil _ _ _, by simp, by simp, by simp, by simp, by simp, by simp, by simp⟩, fun k => Iff.rfl⟩, fun k hk => ?_, (Tch.refl _ _).alloc _⟩
  rcases hk with rfl | hk | hk | hk
  · exact Nat.le_refl _
  · cases hk
  · cases hk
  · cases hk
theorem refstr_new_no (m : Int) (w : World) (h : m < 1 ∨ 32 < m) :
    Calls Try.prog 14 #[.int .i64 m] w fun e w' => e = .returned (.tuple #[.pointer none, .int .i64 1]) ∧ w' = w := by
  by_cases h1 : m < 1
  · go_enter Try.func14, Try.ntmps14
    go_wp2
    go_ret2
    exact ⟨rfl, rfl⟩
  · have h2 : 32 < m := by omega
    clear h
    go_enter Try.func14, Try.ntmps14
    go_wp2
    go_ret2
    exact ⟨rfl, rfl⟩

section
variable {w w2 : World} {b room : Nat} {s : St} {A1 A2 A3 : Option Addr} {c1 c2 c3 : Nat} {G1 G2 G3 : Option Nat}

theorem RefStrAt.set1 (h : RefStrAt w b room s A1 c1 G1 A2 c2 G2 A3 c3 G3) (T : Tch NoBlk w w2) {q : List Int} {A' : Option Addr} {c' : Nat} {G' : Option Nat} (hs : Sl w2 3 1 A' q.length c' (ints q) G') (hG : ∀ g, G' = some g → w.heap.size ≤ g) (hle : q.length ≤ room) :
    RefStrAt (w2.setCell ⟨b, 1, none⟩ (.slice A' q.length c')) b room ⟨q, s.rd, s.wr⟩ A' c' G' A2 c2 G2 A3 c3 G3 ∧ Tch (· = b) w (w2.setCell ⟨b, 1, none⟩ (.slice A' q.length c')) := by
  have hS : Tch (· = b) w2 (w2.setCell ⟨b, 1, none⟩ (.slice A' q.length c')) := (Tch.refl (· = b) w2).setCell (p := ⟨b, 1, none⟩) (fun _ => rfl) _
  have hlb := h.blk.lt
  have hn : ∀ k, k < w.heap.size → G' ≠ some k := fun k hk e => by have := hG k e; omega
  refine ⟨⟨(h.blk.keep T (fun h => h)).set 1 _, hs.keep hS (fun g hg e => hn b hlb (e ▸ hg)), (h.s2.keep T (fun _ _ h => h)).keep hS (fun g hg e => h.n2 (e ▸ hg)), (h.s3.keep T (fun _ _ h => h)).keep hS (fun g hg e => h.n3 (e ▸ hg)), hn b hlb, h.n2, h.n3, fun g hg e => hn g (h.s2.lt g e) hg, fun g hg e => hn g (h.s3.lt g e) hg, h.n23, hle, h.le.2⟩, (T.mono (fun _ _ h => h.elim)).trans hS⟩
theorem RefStrAt.set2 (h : RefStrAt w b room s A1 c1 G1 A2 c2 G2 A3 c3 G3) (T : Tch NoBlk w w2) {q : List Int} {A' : Option Addr} {c' : Nat} {G' : Option Nat} (hs : Sl w2 3 1 A' q.length c' (ints q) G') (hG : ∀ g, G' = some g → w.heap.size ≤ g) (hle : q.length ≤ 64) :
    RefStrAt (w2.setCell ⟨b, 2, none⟩ (.slice A' q.length c')) b room ⟨s.bf, q, s.wr⟩ A1 c1 G1 A' c' G' A3 c3 G3 ∧ Tch (· = b) w (w2.setCell ⟨b, 2, none⟩ (.slice A' q.length c')) := by
  have hS : Tch (· = b) w2 (w2.setCell ⟨b, 2, none⟩ (.slice A' q.length c')) := (Tch.refl (· = b) w2).setCell (p := ⟨b, 2, none⟩) (fun _ => rfl) _
  have hlb := h.blk.lt
  have hn : ∀ k, k < w.heap.size → G' ≠ some k := fun k hk e => by have := hG k e; omega
  refine ⟨⟨(h.blk.keep T (fun h => h)).set 2 _, (h.s1.keep T (fun _ _ h => h)).keep hS (fun g hg e => h.n1 (e ▸ hg)), hs.keep hS (fun g hg e => hn b hlb (e ▸ hg)), (h.s3.keep T (fun _ _ h => h)).keep hS (fun g hg e => h.n3 (e ▸ hg)), h.n1, hn b hlb, h.n3, fun g hg e => hn g (h.s1.lt g hg) e, h.n13, fun g hg e => hn g (h.s3.lt g e) hg, h.le.1, hle, h.le.2.2⟩, (T.mono (fun _ _ h => h.elim)).trans hS⟩
theorem RefStrAt.set3 (h : RefStrAt w b room s A1 c1 G1 A2 c2 G2 A3 c3 G3) (T : Tch NoBlk w w2) {q : List (Int × Int)} {A' : Option Addr} {c' : Nat} {G' : Option Nat} (hs : Sl w2 34 2 A' q.length c' (gots q) G') (hG : ∀ g, G' = some g → w.heap.size ≤ g) (hle : q.length ≤ 64) :
    RefStrAt (w2.setCell ⟨b, 3, none⟩ (.slice A' q.length c')) b room ⟨s.bf, s.rd, q⟩ A1 c1 G1 A2 c2 G2 A' c' G' ∧ Tch (· = b) w (w2.setCell ⟨b, 3, none⟩ (.slice A' q.length c')) := by
  have hS : Tch (· = b) w2 (w2.setCell ⟨b, 3, none⟩ (.slice A' q.length c')) := (Tch.refl (· = b) w2).setCell (p := ⟨b, 3, none⟩) (fun _ => rfl) _
  have hlb := h.blk.lt
  have hn : ∀ k, k < w.heap.size → G' ≠ some k := fun k hk e => by have := hG k e; omega
  refine ⟨⟨(h.blk.keep T (fun h => h)).set 3 _, (h.s1.keep T (fun _ _ h => h)).keep hS (fun g hg e => h.n1 (e ▸ hg)), (h.s2.keep T (fun _ _ h => h)).keep hS (fun g hg e => h.n2 (e ▸ hg)), hs.keep hS (fun g hg e => hn b hlb (e ▸ hg)), h.n1, h.n2, hn b hlb, h.n12, fun g hg e => hn g (h.s1.lt g hg) e, fun g hg e => hn g (h.s2.lt g hg) e, h.le.1, h.le.2.1, hle⟩, (T.mono (fun _ _ h => h.elim)).trans hS⟩

/-- The blocks of the parts. -/
def RefF (b : Nat) (G1 G2 G3 : Option Nat) (k : Nat) : Prop := k = b ∨ G1 = some k ∨ G2 = some k ∨ G3 = some k
theorem RefStrAt.told (h : RefStrAt w b room s A1 c1 G1 A2 c2 G2 A3 c3 G3) : RefStrQ w b room s (RefF b G1 G2 G3) := ⟨A1, c1, G1, A2, c2, G2, A3, c3, G3, h, fun _ => Iff.rfl⟩
end

theorem Told.oneAt (w w1 : World) (a v : Int) (g : Nat) (hg : w1.heap.size = g) (h : w.heap.size ≤ w1.heap.size) : Told w (w1.alloc (.cells #[.int .i64 a, .int .i64 v] 34)) (.returned (.tuple #[.slice (some ⟨g, 0, none⟩) 1 1, .int .i64 0])) [(a, v)] 0 := by
  subst hg
  exact Told.one w w1 a v h
theorem Told.twoAt (w w1 : World) (a v c u : Int) (g : Nat) (hg : w1.heap.size = g) (h : w.heap.size ≤ w1.heap.size) : Told w (w1.alloc (.cells #[.int .i64 a, .int .i64 v, .int .i64 c, .int .i64 u] 34)) (.returned (.tuple #[.slice (some ⟨g, 0, none⟩) 2 2, .int .i64 0])) [(a, v), (c, u)] 0 := by
  subst hg
  exact Told.two w w1 a v c u h

/-- What a call of the document's stream leaves: the row told, the stream then, nothing else touched. -/
def RefLeft (w w' : World) (b room : Nat) (F : Nat → Prop) (e : Ending) (r : St × List (Int × Int) × Int) : Prop :=
  Told w w' e r.2.1 r.2.2 ∧ Tch F w w' ∧ ∃ F', RefStrQ w' b room r.1 F' ∧ ∀ k, F' k → F k ∨ w.heap.size ≤ k

end Go.Proofs.Ytmmnilckdlkggaa
