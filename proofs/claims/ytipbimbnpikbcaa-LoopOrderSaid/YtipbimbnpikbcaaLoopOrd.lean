/- LoopOrder's own blocks: the loop's pointer, both rows of what is to come, how many micro tasks were told, the budget. -/
import Derived.Test.YtipbimbnpikbcaaLoopQS
import Derived.Test.YtipbimbnpikbcaaLoopLaw
namespace Go.Proofs.Ytipbimbnpikbcaa
open Go.RowKit

/-- The law's blocks. -/
def OrdO (zx zM zm zs zn : Nat) (G1 G2 : Option Nat) (k : Nat) : Prop := k = zx ∨ k = zM ∨ k = zm ∨ k = zs ∨ k = zn ∨ G1 = some k ∨ G2 = some k
structure OrdAt (w0 w : World) (b zx zM zm zs zn n : Nat) (sv : Int) (ma mi : List Int) (s : Lp) (A1 : Option Addr) (c1 : Nat) (G1 : Option Nat) (A2 : Option Addr) (c2 : Nat) (G2 : Option Nat) : Prop where
  lp : LpI w0 w b s (OrdO zx zM zm zs zn G1 G2)
  x : Blk w zx 23 [.pointer (some ⟨b, 0, none⟩)]
  M : Blk w zM 45 [.slice A1 ma.length c1]
  m : Blk w zm 45 [.slice A2 mi.length c2]
  sn : Blk w zs 3 [.int .i64 sv]
  bn : Blk w zn 3 [.int .i64 n]
  r1 : Rw w 3 1 A1 ma.length c1 (ints ma) G1
  r2 : Rw w 3 1 A2 mi.length c2 (ints mi) G2
  nd : zx ≠ zM ∧ zx ≠ zm ∧ zx ≠ zs ∧ zx ≠ zn ∧ zM ≠ zm ∧ zM ≠ zs ∧ zM ≠ zn ∧ zm ≠ zs ∧ zm ≠ zn ∧ zs ≠ zn
  n1 : ∀ g, G1 = some g → g ≠ zx ∧ g ≠ zM ∧ g ≠ zm ∧ g ≠ zs ∧ g ≠ zn ∧ G2 ≠ some g
  n2 : ∀ g, G2 = some g → g ≠ zx ∧ g ≠ zM ∧ g ≠ zm ∧ g ≠ zs ∧ g ≠ zn
  base : ∀ k, OrdO zx zM zm zs zn G1 G2 k → w0.heap.size ≤ k

section
variable {w0 w w' : World} {b zx zM zm zs zn n : Nat} {sv : Int} {ma mi : List Int} {s s' : Lp} {A1 : Option Addr} {c1 : Nat} {G1 : Option Nat} {A2 : Option Addr} {c2 : Nat} {G2 : Option Nat}
/-- The loop did something. -/
theorem OrdAt.did (h : OrdAt w0 w b zx zM zm zs zn n sv ma mi s A1 c1 G1 A2 c2 G2) (hI : LpI w0 w' b s' (OrdO zx zM zm zs zn G1 G2)) (T : Tch (Oth w0 (OrdO zx zM zm zs zn G1 G2)) w w') : OrdAt w0 w' b zx zM zm zs zn n sv ma mi s' A1 c1 G1 A2 c2 G2 :=
  ⟨hI, h.x.keep T (fun e => e.2 (.inl rfl)), h.M.keep T (fun e => e.2 (.inr (.inl rfl))), h.m.keep T (fun e => e.2 (.inr (.inr (.inl rfl)))), h.sn.keep T (fun e => e.2 (.inr (.inr (.inr (.inl rfl))))), h.bn.keep T (fun e => e.2 (.inr (.inr (.inr (.inr (.inl rfl)))))),
    h.r1.keep T (fun _ hg e => e.2 (.inr (.inr (.inr (.inr (.inr (.inl hg))))))), h.r2.keep T (fun _ hg e => e.2 (.inr (.inr (.inr (.inr (.inr (.inr hg))))))), h.nd, h.n1, h.n2, h.base⟩
theorem OrdAt.nothing (h : OrdAt w0 w b zx zM zm zs zn n sv ma mi s A1 c1 G1 A2 c2 G2) (T : Tch NoBlk w w') : OrdAt w0 w' b zx zM zm zs zn n sv ma mi s A1 c1 G1 A2 c2 G2 :=
  h.did (h.lp.nothing T) (T.mono (fun _ _ e => e.elim))
/-- How many were told. -/
theorem OrdAt.since (h : OrdAt w0 w b zx zM zm zs zn n sv ma mi s A1 c1 G1 A2 c2 G2) (v : Int) : OrdAt w0 (w.setCell ⟨zs, 0, none⟩ (.int .i64 v)) b zx zM zm zs zn n v ma mi s A1 c1 G1 A2 c2 G2 := by
  have T : Tch (· = zs) w (w.setCell ⟨zs, 0, none⟩ (.int .i64 v)) := (Tch.refl (· = zs) w).setCell (p := ⟨zs, 0, none⟩) (fun _ => rfl) _
  have nd := h.nd
  have hlp := h.lp.touch T (fun k hk => .inr (.inr (.inr (.inl hk)))) (fun k hk => h.base k (.inr (.inr (.inr (.inl hk)))))
  exact ⟨hlp, h.x.keep T nd.2.2.1, h.M.keep T nd.2.2.2.2.2.1, h.m.keep T nd.2.2.2.2.2.2.2.1, h.sn.set 0 _, h.bn.keep T (Ne.symm nd.2.2.2.2.2.2.2.2.2), h.r1.keep T (fun g hg => (h.n1 g hg).2.2.2.1), h.r2.keep T (fun g hg => (h.n2 g hg).2.2.2.1), h.nd, h.n1, h.n2, h.base⟩
/-- The first one to come is gone. -/
theorem OrdAt.cutM {x : Int} {g off : Nat} (h : OrdAt w0 w b zx zM zm zs zn n sv (x :: ma) mi s (some ⟨g, off, none⟩) c1 G1 A2 c2 G2) :
    OrdAt w0 (w.setCell ⟨zM, 0, none⟩ (.slice (if c1 = 1 then some ⟨g, off, none⟩ else some ⟨g, off + 1, none⟩) ma.length (c1 - 1))) b zx zM zm zs zn n sv ma mi s (if c1 = 1 then some ⟨g, off, none⟩ else some ⟨g, off + 1, none⟩) (c1 - 1) G1 A2 c2 G2 := by
  have T : Tch (· = zM) w (w.setCell ⟨zM, 0, none⟩ (.slice (if c1 = 1 then some ⟨g, off, none⟩ else some ⟨g, off + 1, none⟩) ma.length (c1 - 1))) := (Tch.refl (· = zM) w).setCell (p := ⟨zM, 0, none⟩) (fun _ => rfl) _
  have nd := h.nd
  have hlp := h.lp.touch T (fun k hk => .inr (.inl hk)) (fun k hk => h.base k (.inr (.inl hk)))
  have hr : Rw w 3 1 (some ⟨g, off, none⟩) (ma.length + 1) c1 (ints (x :: ma)) G1 := h.r1
  exact ⟨hlp, h.x.keep T nd.1, h.M.set 0 _, h.m.keep T (Ne.symm nd.2.2.2.2.1), h.sn.keep T (Ne.symm nd.2.2.2.2.2.1), h.bn.keep T (Ne.symm nd.2.2.2.2.2.2.1), hr.tail.keep T (fun g hg => (h.n1 g hg).2.1), h.r2.keep T (fun g hg => (h.n2 g hg).2.1), h.nd, h.n1, h.n2, h.base⟩
theorem OrdAt.cutm {x : Int} {g off : Nat} (h : OrdAt w0 w b zx zM zm zs zn n sv ma (x :: mi) s A1 c1 G1 (some ⟨g, off, none⟩) c2 G2) :
    OrdAt w0 (w.setCell ⟨zm, 0, none⟩ (.slice (if c2 = 1 then some ⟨g, off, none⟩ else some ⟨g, off + 1, none⟩) mi.length (c2 - 1))) b zx zM zm zs zn n sv ma mi s A1 c1 G1 (if c2 = 1 then some ⟨g, off, none⟩ else some ⟨g, off + 1, none⟩) (c2 - 1) G2 := by
  have T : Tch (· = zm) w (w.setCell ⟨zm, 0, none⟩ (.slice (if c2 = 1 then some ⟨g, off, none⟩ else some ⟨g, off + 1, none⟩) mi.length (c2 - 1))) := (Tch.refl (· = zm) w).setCell (p := ⟨zm, 0, none⟩) (fun _ => rfl) _
  have nd := h.nd
  have hlp := h.lp.touch T (fun k hk => .inr (.inr (.inl hk))) (fun k hk => h.base k (.inr (.inr (.inl hk))))
  have hr : Rw w 3 1 (some ⟨g, off, none⟩) (mi.length + 1) c2 (ints (x :: mi)) G2 := h.r2
  exact ⟨hlp, h.x.keep T nd.2.1, h.M.keep T nd.2.2.2.2.1, h.m.set 0 _, h.sn.keep T (Ne.symm nd.2.2.2.2.2.2.2.1), h.bn.keep T (Ne.symm nd.2.2.2.2.2.2.2.2.1), h.r1.keep T (fun g hg => (h.n1 g hg).2.2.1), hr.tail.keep T (fun g hg => (h.n2 g hg).2.2.1), h.nd, h.n1, h.n2, h.base⟩
end
end Go.Proofs.Ytipbimbnpikbcaa
