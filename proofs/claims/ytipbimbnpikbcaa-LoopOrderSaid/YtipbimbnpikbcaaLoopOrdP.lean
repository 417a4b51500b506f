/- LoopOrder's blocks: how they begin; one more is to come. -/
import Derived.Test.YtipbimbnpikbcaaLoopOrdT
namespace Go.Proofs.Ytipbimbnpikbcaa
open Go.RowKit

theorem ord_start {w0 w : World} {b n zn zM zm zs : Nat} (hI : LpI w0 w b (newL n) (fun k => k = zn)) (hbn : Blk w zn 3 [.int .i64 n]) (hz : w0.heap.size ≤ zn) (eM : zM = w.heap.size + 1) (em : zm = w.heap.size + 1 + 1) (es : zs = w.heap.size + 1 + 1 + 1) :
    OrdI w0 ((((w.alloc (.cells #[.pointer (some ⟨b, 0, none⟩)] 23)).alloc (.cells #[.slice none 0 0] 45)).alloc (.cells #[.slice none 0 0] 45)).alloc (.cells #[.int .i64 0] 3)) b w.heap.size zM zm zs zn n 0 [] [] 0 := by
  have h1 := hI.below.size
  have h2 := hbn.lt
  have hx : Blk (w.alloc (.cells #[.pointer (some ⟨b, 0, none⟩)] 23)) w.heap.size 23 [.pointer (some ⟨b, 0, none⟩)] := heap_alloc_new w _
  have hM : Blk ((w.alloc (.cells #[.pointer (some ⟨b, 0, none⟩)] 23)).alloc (.cells #[.slice none 0 0] 45)) zM 45 [.slice none 0 0] := by
    have := heap_alloc_new (w.alloc (.cells #[.pointer (some ⟨b, 0, none⟩)] 23)) (.cells #[.slice none 0 0] 45)
    rw [World.size_alloc, ← eM] at this
    exact this
  have hm : Blk (((w.alloc (.cells #[.pointer (some ⟨b, 0, none⟩)] 23)).alloc (.cells #[.slice none 0 0] 45)).alloc (.cells #[.slice none 0 0] 45)) zm 45 [.slice none 0 0] := by
    have := heap_alloc_new ((w.alloc (.cells #[.pointer (some ⟨b, 0, none⟩)] 23)).alloc (.cells #[.slice none 0 0] 45)) (.cells #[.slice none 0 0] 45)
    rw [World.size_alloc, World.size_alloc, ← em] at this
    exact this
  have hs : Blk ((((w.alloc (.cells #[.pointer (some ⟨b, 0, none⟩)] 23)).alloc (.cells #[.slice none 0 0] 45)).alloc (.cells #[.slice none 0 0] 45)).alloc (.cells #[.int .i64 0] 3)) zs 3 [.int .i64 0] := by
    have := heap_alloc_new (((w.alloc (.cells #[.pointer (some ⟨b, 0, none⟩)] 23)).alloc (.cells #[.slice none 0 0] 45)).alloc (.cells #[.slice none 0 0] 45)) (.cells #[.int .i64 0] 3)
    rw [World.size_alloc, World.size_alloc, World.size_alloc, ← es] at this
    exact this
  refine ⟨newL n, none, 0, none, none, 0, none, ⟨?_, ((hx.alloc _).alloc _).alloc _, (hM.alloc _).alloc _, hm.alloc _, hs, (((hbn.alloc _).alloc _).alloc _).alloc _, Rw.nil _ _ _, Rw.nil _ _ _, (by omega), (fun g hg => by cases hg), (fun g hg => by cases hg), fun k hk => ?_⟩, QS.new n, Nat.zero_le _⟩
  · refine hI.grow ((((Tch.refl NoBlk w).alloc _).alloc _).alloc _ |>.alloc _) (fun _ e => e.elim) (fun _ e => e.elim) (fun k hk => ?_)
    rcases hk with rfl | rfl | rfl | rfl | rfl | hk | hk
    · exact ⟨.inr (Nat.le_refl _), by simp; omega⟩
    · exact ⟨.inr (by omega), by simp; omega⟩
    · exact ⟨.inr (by omega), by simp; omega⟩
    · exact ⟨.inr (by omega), by simp; omega⟩
    · exact ⟨.inl rfl, by simp; omega⟩
    · cases hk
    · cases hk
  · rcases hk with rfl | rfl | rfl | rfl | rfl | hk | hk
    · omega
    · omega
    · omega
    · omega
    · omega
    · cases hk
    · cases hk

section
variable {w0 w w2 : World} {b zx zM zm zs zn n : Nat} {sv : Int} {ma mi : List Int} {s : Lp} {A1 : Option Addr} {c1 : Nat} {G1 : Option Nat} {A2 : Option Addr} {c2 : Nat} {G2 : Option Nat}
theorem OrdAt.lt (h : OrdAt w0 w b zx zM zm zs zn n sv ma mi s A1 c1 G1 A2 c2 G2) : ∀ k, OrdO zx zM zm zs zn G1 G2 k → k < w.heap.size := h.lp.lt
theorem OrdAt.putM (h : OrdAt w0 w b zx zM zm zs zn n sv ma mi s A1 c1 G1 A2 c2 G2) (x : Int) {A' : Option Addr} {c' : Nat} {G' : Option Nat} (T : Tch (fun k => G1 = some k) w w2) (hr : Rw w2 3 1 A' (ma.length + 1) c' (ints ma ++ [.int .i64 x]) G') (hG : G' = G1 ∨ ∃ g, G' = some g ∧ w.heap.size ≤ g) :
    OrdAt w0 (w2.setCell ⟨zM, 0, none⟩ (.slice A' (ma.length + 1) c')) b zx zM zm zs zn n sv (ma ++ [x]) mi s A' c' G' A2 c2 G2 := by
  have T2 : Tch (· = zM) w2 (w2.setCell ⟨zM, 0, none⟩ (.slice A' (ma.length + 1) c')) := (Tch.refl (· = zM) w2).setCell (p := ⟨zM, 0, none⟩) (fun _ => rfl) _
  have nd := h.nd
  have n1 := h.n1
  have n2 := h.n2
  have hlt := h.lt
  have hG' : ∀ g, G' = some g → G1 = some g ∨ w.heap.size ≤ g := fun g e => by
    rcases hG with e2 | ⟨g', e2, hl⟩
    · exact .inl (e2 ▸ e)
    · rw [e2] at e; injection e with e; subst e; exact .inr hl
  have a1 := hlt zx (.inl rfl)
  have a2 := hlt zM (.inr (.inl rfl))
  have a3 := hlt zm (.inr (.inr (.inl rfl)))
  have a4 := hlt zs (.inr (.inr (.inr (.inl rfl))))
  have a5 := hlt zn (.inr (.inr (.inr (.inr (.inl rfl)))))
  have ne : ∀ g, G' = some g → g ≠ zx ∧ g ≠ zM ∧ g ≠ zm ∧ g ≠ zs ∧ g ≠ zn ∧ G2 ≠ some g := fun g hg => by
    rcases hG' g hg with e | e
    · exact n1 g e
    · refine ⟨by omega, by omega, by omega, by omega, by omega, fun e2 => ?_⟩
      have := hlt g (.inr (.inr (.inr (.inr (.inr (.inr e2))))))
      omega
  have el : (ma ++ [x]).length = ma.length + 1 := by simp
  have ei : ints (ma ++ [x]) = ints ma ++ [.int .i64 x] := by simp [ints]
  have T1' : Tch (OrdO zx zM zm zs zn G1 G2) w (w2.setCell ⟨zM, 0, none⟩ (.slice A' (ma.length + 1) c')) := (T.mono (fun k _ e => .inr (.inr (.inr (.inr (.inr (.inl e))))))).trans (T2.mono (fun k _ e => .inr (.inl e)))
  have hsz := T1'.size
  have hb : ∀ k, OrdO zx zM zm zs zn G' G2 k → OrdO zx zM zm zs zn G1 G2 k ∨ w.heap.size ≤ k := fun k hk => by
    rcases hk with e | e | e | e | e | e | e
    · exact .inl (.inl e)
    · exact .inl (.inr (.inl e))
    · exact .inl (.inr (.inr (.inl e)))
    · exact .inl (.inr (.inr (.inr (.inl e))))
    · exact .inl (.inr (.inr (.inr (.inr (.inl e)))))
    · rcases hG' k e with e | e
      · exact .inl (.inr (.inr (.inr (.inr (.inr (.inl e))))))
      · exact .inr e
    · exact .inl (.inr (.inr (.inr (.inr (.inr (.inr e))))))
  have hr2 := hr.keep T2 (fun g hg => (ne g hg).2.1)
  refine ⟨h.lp.grow T1' (fun _ e => e) h.base (fun k hk => ⟨hb k hk, ?_⟩), (h.x.keep T (fun e => (n1 _ e).1 rfl)).keep T2 nd.1, ?_, (h.m.keep T (fun e => (n1 _ e).2.2.1 rfl)).keep T2 (Ne.symm nd.2.2.2.2.1), (h.sn.keep T (fun e => (n1 _ e).2.2.2.1 rfl)).keep T2 (Ne.symm nd.2.2.2.2.2.1), (h.bn.keep T (fun e => (n1 _ e).2.2.2.2.1 rfl)).keep T2 (Ne.symm nd.2.2.2.2.2.2.1), by rw [el, ei]; exact hr2, (h.r2.keep T (fun g hg e => (n1 g e).2.2.2.2.2 hg)).keep T2 (fun g hg => (n2 g hg).2.1), nd, ne, n2, fun k hk => ?_⟩
  · rcases hk with e | e | e | e | e | e | e
    · subst e; omega
    · subst e; omega
    · subst e; omega
    · subst e; omega
    · subst e; omega
    · exact hr2.lt k e
    · have := hlt k (.inr (.inr (.inr (.inr (.inr (.inr e))))))
      omega
  · rw [el]
    exact (h.M.keep T (fun e => (n1 _ e).2.1 rfl)).set 0 _
  · rcases hb k hk with e | e
    · exact h.base k e
    · exact Nat.le_trans h.lp.below.size e
theorem OrdAt.putm (h : OrdAt w0 w b zx zM zm zs zn n sv ma mi s A1 c1 G1 A2 c2 G2) (x : Int) {A' : Option Addr} {c' : Nat} {G' : Option Nat} (T : Tch (fun k => G2 = some k) w w2) (hr : Rw w2 3 1 A' (mi.length + 1) c' (ints mi ++ [.int .i64 x]) G') (hG : G' = G2 ∨ ∃ g, G' = some g ∧ w.heap.size ≤ g) :
    OrdAt w0 (w2.setCell ⟨zm, 0, none⟩ (.slice A' (mi.length + 1) c')) b zx zM zm zs zn n sv ma (mi ++ [x]) s A1 c1 G1 A' c' G' := by
  have T2 : Tch (· = zm) w2 (w2.setCell ⟨zm, 0, none⟩ (.slice A' (mi.length + 1) c')) := (Tch.refl (· = zm) w2).setCell (p := ⟨zm, 0, none⟩) (fun _ => rfl) _
  have nd := h.nd
  have n1 := h.n1
  have n2 := h.n2
  have hlt := h.lt
  have hG' : ∀ g, G' = some g → G2 = some g ∨ w.heap.size ≤ g := fun g e => by
    rcases hG with e2 | ⟨g', e2, hl⟩
    · exact .inl (e2 ▸ e)
    · rw [e2] at e; injection e with e; subst e; exact .inr hl
  have a1 := hlt zx (.inl rfl)
  have a2 := hlt zM (.inr (.inl rfl))
  have a3 := hlt zm (.inr (.inr (.inl rfl)))
  have a4 := hlt zs (.inr (.inr (.inr (.inl rfl))))
  have a5 := hlt zn (.inr (.inr (.inr (.inr (.inl rfl)))))
  have ne : ∀ g, G' = some g → g ≠ zx ∧ g ≠ zM ∧ g ≠ zm ∧ g ≠ zs ∧ g ≠ zn := fun g hg => by
    rcases hG' g hg with e | e
    · exact n2 g e
    · exact ⟨by omega, by omega, by omega, by omega, by omega⟩
  have ne1 : ∀ g, G1 = some g → g ≠ zx ∧ g ≠ zM ∧ g ≠ zm ∧ g ≠ zs ∧ g ≠ zn ∧ G' ≠ some g := fun g hg => by
    obtain ⟨k1, k2, k3, k4, k5, k6⟩ := n1 g hg
    refine ⟨k1, k2, k3, k4, k5, fun e => ?_⟩
    rcases hG' g e with e | e
    · exact k6 e
    · have := hlt g (.inr (.inr (.inr (.inr (.inr (.inl hg))))))
      omega
  have el : (mi ++ [x]).length = mi.length + 1 := by simp
  have ei : ints (mi ++ [x]) = ints mi ++ [.int .i64 x] := by simp [ints]
  have T1' : Tch (OrdO zx zM zm zs zn G1 G2) w (w2.setCell ⟨zm, 0, none⟩ (.slice A' (mi.length + 1) c')) := (T.mono (fun k _ e => .inr (.inr (.inr (.inr (.inr (.inr e))))))).trans (T2.mono (fun k _ e => .inr (.inr (.inl e))))
  have hsz := T1'.size
  have hb : ∀ k, OrdO zx zM zm zs zn G1 G' k → OrdO zx zM zm zs zn G1 G2 k ∨ w.heap.size ≤ k := fun k hk => by
    rcases hk with e | e | e | e | e | e | e
    · exact .inl (.inl e)
    · exact .inl (.inr (.inl e))
    · exact .inl (.inr (.inr (.inl e)))
    · exact .inl (.inr (.inr (.inr (.inl e))))
    · exact .inl (.inr (.inr (.inr (.inr (.inl e)))))
    · exact .inl (.inr (.inr (.inr (.inr (.inr (.inl e))))))
    · rcases hG' k e with e | e
      · exact .inl (.inr (.inr (.inr (.inr (.inr (.inr e))))))
      · exact .inr e
  have hr2 := hr.keep T2 (fun g hg => (ne g hg).2.2.1)
  refine ⟨h.lp.grow T1' (fun _ e => e) h.base (fun k hk => ⟨hb k hk, ?_⟩), (h.x.keep T (fun e => (n2 _ e).1 rfl)).keep T2 nd.2.1, (h.M.keep T (fun e => (n2 _ e).2.1 rfl)).keep T2 nd.2.2.2.2.1, ?_, (h.sn.keep T (fun e => (n2 _ e).2.2.2.1 rfl)).keep T2 (Ne.symm nd.2.2.2.2.2.2.2.1), (h.bn.keep T (fun e => (n2 _ e).2.2.2.2 rfl)).keep T2 (Ne.symm nd.2.2.2.2.2.2.2.2.1), (h.r1.keep T (fun g hg e => (n1 g hg).2.2.2.2.2 e)).keep T2 (fun g hg => (n1 g hg).2.2.1), by rw [el, ei]; exact hr2, nd, ne1, ne, fun k hk => ?_⟩
  · rcases hk with e | e | e | e | e | e | e
    · subst e; omega
    · subst e; omega
    · subst e; omega
    · subst e; omega
    · subst e; omega
    · have := hlt k (.inr (.inr (.inr (.inr (.inr (.inl e))))))
      omega
    · exact hr2.lt k e
  · rw [el]
    exact (h.m.keep T (fun e => (n2 _ e).2.2.1 rfl)).set 0 _
  · rcases hb k hk with e | e
    · exact h.base k e
    · exact Nat.le_trans h.lp.below.size e
end
end Go.Proofs.Ytipbimbnpikbcaa
