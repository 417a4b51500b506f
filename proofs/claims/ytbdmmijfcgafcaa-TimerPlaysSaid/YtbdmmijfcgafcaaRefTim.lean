/- The document's timers: a row of records, and how many were put, at two cells of some block. -/
import Derived.Test.YtbdmmijfcgafcaaTimPlain
namespace Go.Proofs.Ytbdmmijfcgafcaa
open Go.RowKit

theorem infoTmR : (Try.prog.info? 55).map (fun i => (i.zero, i.size, i.bytes)) = some (some (.agg #[.int .i64 0, .int .i64 0, .int .i64 0]), 3, 24) := by kernel_rfl
structure RefTimAt (w : World) (b : Nat) (ty : TypeId) (cs : List Value) (o : Nat) (L : List Tm) (n : Int) (A : Option Addr) (c : Nat) (G : Option Nat) : Prop where
  blk : Blk w b ty cs
  at_ : cs[o]? = some (.slice A L.length c)
  num : cs[o + 1]? = some (.int .i64 n)
  sl : Sl w 55 3 A L.length c (tcells L) G
  nb : G ≠ some b
  le : L.length ≤ 64
def RefTimQ (w : World) (b : Nat) (ty : TypeId) (cs : List Value) (o : Nat) (L : List Tm) (n : Int) (F : Nat → Prop) : Prop :=
  ∃ A c G, RefTimAt w b ty cs o L n A c G ∧ ∀ k, F k ↔ k = b ∨ G = some k
/-- What a call leaves: the two cells may be new. -/
def RefTimLeft (w w' : World) (b : Nat) (ty : TypeId) (cs : List Value) (o : Nat) (F : Nat → Prop) (L : List Tm) (n : Int) : Prop :=
  Tch F w w' ∧ ∃ v u F', RefTimQ w' b ty ((cs.set o v).set (o + 1) u) o L n F' ∧ ∀ k, F' k → F k ∨ w.heap.size ≤ k

section
variable {w w' w2 : World} {b o : Nat} {ty : TypeId} {cs : List Value} {L : List Tm} {n : Int} {F S : Nat → Prop} {A : Option Addr} {c : Nat} {G : Option Nat}
theorem RefTimAt.keep (h : RefTimAt w b ty cs o L n A c G) (ht : Tch S w w') (h1 : ¬ S b) (h2 : ∀ g, G = some g → ¬ S g) : RefTimAt w' b ty cs o L n A c G :=
  ⟨h.blk.keep ht h1, h.at_, h.num, h.sl.keep ht h2, h.nb, h.le⟩
theorem RefTimQ.keep (h : RefTimQ w b ty cs o L n F) (ht : Tch S w w') (hS : ∀ k, F k → ¬ S k) : RefTimQ w' b ty cs o L n F := by
  obtain ⟨A, c, G, h, hF⟩ := h
  exact ⟨A, c, G, h.keep ht (hS _ ((hF _).2 (.inl rfl))) (fun g e => hS _ ((hF _).2 (.inr e))), hF⟩
theorem RefTimQ.lt (h : RefTimQ w b ty cs o L n F) : ∀ k, F k → k < w.heap.size := by
  obtain ⟨A, c, G, h, hF⟩ := h
  intro k hk
  rcases (hF k).1 hk with rfl | hk
  · exact h.blk.lt
  · exact h.sl.lt k hk
theorem RefTimQ.lenOf (h : RefTimQ w b ty cs o L n F) : ∃ A c, cs[o]? = some (.slice A L.length c) ∧ L.length ≤ c ∧ c ≤ 9223372036854775807 := by
  obtain ⟨A, c, G, h, _⟩ := h
  exact ⟨A, c, h.at_, h.sl.cap_le⟩
theorem set_same {cs : List Value} {o : Nat} {v : Value} (h : cs[o]? = some v) : cs.set o v = cs := by
  obtain ⟨hl, e⟩ := List.getElem?_eq_some_iff.1 h
  rw [← e]
  exact List.set_getElem_self hl
theorem RefTimLeft.same (h : RefTimQ w b ty cs o L n F) (ht : Tch NoBlk w w') : RefTimLeft w w' b ty cs o F L n := by
  have h2 := h.keep ht (fun _ _ h => h)
  obtain ⟨A, c, G, h, _⟩ := h
  refine ⟨ht.mono (fun _ _ h => h.elim), .slice A L.length c, .int .i64 n, F, ?_, fun k hk => .inl hk⟩
  rw [set_same h.at_, set_same h.num]
  exact h2
/-- The row is another one, of its own block or a new one. -/
theorem RefTimAt.row (H : RefTimAt w b ty cs o L n A c G) {L' : List Tm} {A' : Option Addr} {c' : Nat} {G' : Option Nat} (T : Tch (fun k => G = some k) w w2) (hl : L'.length ≤ 64)
    (hs : Sl w2 55 3 A' L'.length c' (tcells L') G') (hG : ∀ g, G' = some g → G = some g ∨ w.heap.size ≤ g) :
    RefTimAt (w2.setCell ⟨b, o, none⟩ (.slice A' L'.length c')) b ty (cs.set o (.slice A' L'.length c')) o L' n A' c' G' ∧ Tch (fun k => k = b ∨ G = some k) w (w2.setCell ⟨b, o, none⟩ (.slice A' L'.length c')) := by
  have hS : Tch (· = b) w2 (w2.setCell ⟨b, o, none⟩ (.slice A' L'.length c')) := (Tch.refl (· = b) w2).setCell (p := ⟨b, o, none⟩) (fun _ => rfl) _
  have hlb := H.blk.lt
  have hn : G' ≠ some b := by
    intro e
    rcases hG b e with e2 | hg
    · exact H.nb e2
    · omega
  have hol : o < cs.length := (List.getElem?_eq_some_iff.1 H.at_).1
  refine ⟨⟨(H.blk.keep T H.nb).set o _, by simp [hol], ?_, hs.keep hS (fun k hk e => hn (by rw [hk, e])), hn, hl⟩, (T.mono (fun _ _ e => .inr e)).trans (hS.mono (fun _ _ e => .inl e))⟩
  rw [List.getElem?_set_ne (by omega)]
  exact H.num
theorem RefTimAt.count (H : RefTimAt w b ty cs o L n A c G) (m : Int) : RefTimAt (w.setCell ⟨b, o + 1, none⟩ (.int .i64 m)) b ty (cs.set (o + 1) (.int .i64 m)) o L m A c G ∧ Tch (· = b) w (w.setCell ⟨b, o + 1, none⟩ (.int .i64 m)) := by
  have hS : Tch (· = b) w (w.setCell ⟨b, o + 1, none⟩ (.int .i64 m)) := (Tch.refl (· = b) w).setCell (p := ⟨b, o + 1, none⟩) (fun _ => rfl) _
  have hol : o + 1 < cs.length := (List.getElem?_eq_some_iff.1 H.num).1
  refine ⟨⟨H.blk.set (o + 1) _, ?_, by simp [hol], H.sl.keep hS (fun k hk e => H.nb (by rw [hk, e])), H.nb, H.le⟩, hS⟩
  rw [List.getElem?_set_ne (by omega)]
  exact H.at_
theorem RefTimQ.left_row (h : RefTimAt w b ty cs o L n A c G) (hF : ∀ k, F k ↔ k = b ∨ G = some k) {L' : List Tm} {A' : Option Addr} {c' : Nat} {G' : Option Nat} (T : Tch (fun k => G = some k) w w2) (hl : L'.length ≤ 64)
    (hs : Sl w2 55 3 A' L'.length c' (tcells L') G') (hG : ∀ g, G' = some g → G = some g ∨ w.heap.size ≤ g) : RefTimLeft w (w2.setCell ⟨b, o, none⟩ (.slice A' L'.length c')) b ty cs o F L' n := by
  obtain ⟨h1, h2⟩ := h.row T hl hs hG
  refine ⟨h2.mono (fun k _ e => (hF k).2 e), .slice A' L'.length c', .int .i64 n, fun k => k = b ∨ G' = some k, ?_, fun k hk => ?_⟩
  · rw [set_same h1.num]
    exact ⟨A', c', G', h1, fun _ => Iff.rfl⟩
  · rcases hk with hk | hk
    · exact .inl ((hF k).2 (.inl hk))
    · rcases hG k hk with e | e
      · exact .inl ((hF k).2 (.inr e))
      · exact .inr e
end
end Go.Proofs.Ytbdmmijfcgafcaa
