/- Rows of integers. -/
import Derived.Test.YtipbimbnpikbcaaProg
import Derived.Test.YtipbimbnpikbcaaSlices
namespace Go.Proofs.Ytipbimbnpikbcaa
open Go.RowKit

def ints (l : List Int) : List Value := l.map fun x => .int .i64 x
theorem ints_length (l : List Int) : (ints l).length = l.length := by simp [ints]
theorem ints_one (l : List Int) : ∀ u ∈ ints l, u.oneCell' = true := by
  intro u hu
  simp only [ints, List.mem_map] at hu
  obtain ⟨x, _, rfl⟩ := hu
  rfl
theorem infoInt : (Try.prog.info? 3).map (fun i => (i.zero, i.size, i.bytes)) = some (some (.int .i64 0), 1, 8) := by kernel_rfl
theorem ints_get (l : List Int) (k : Nat) (h : k < l.length) : (ints l)[k]? = some (.int .i64 (l.getD k 0)) := by simp [ints, List.getD_eq_getElem?_getD, h]
/-- What was just laid, at a block that has a name. -/
theorem Src.madeAt {sz : Nat} (w : World) (e : TypeId) (cs : Array Value) (m g : Nat) (hg : w.heap.size = g) (hl : cs.size = m * sz) : Src (w.alloc (.cells cs e)) sz (some ⟨g, 0, none⟩) m cs.toList := by
  subst hg
  exact Src.made w e cs m hl
/-- A row that was just laid, at a block that has a name. -/
theorem Sl.madeAt {sz : Nat} (w : World) (e : TypeId) (cs : Array Value) (n g : Nat) (hg : w.heap.size = g) (hl : cs.size = n * sz) (hn : n ≤ 9223372036854775807) : Sl (w.alloc (.cells cs e)) e sz (some ⟨g, 0, none⟩) n n cs.toList (some g) := by
  subst hg
  exact Sl.made w e cs n hl hn
theorem Sl.drew1 {w : World} {e : TypeId} {sz n cap : Nat} {A : Option Addr} {xs : List Value} {G : Option Nat} (h : Sl w e sz A n cap xs G) : Sl w.drew e sz A n cap xs G := h.keep (Tch.refl NoBlk w).drew (fun _ _ h => h)
theorem Src.madeAt1 {w : World} {r : Int} {g : Nat} (hg : w.heap.size = g) : Src (w.alloc (.cells #[.int .i64 r] 3)) 1 (some ⟨g, 0, none⟩) 1 [.int .i64 r] := Src.madeAt w 3 #[.int .i64 r] 1 g hg rfl
theorem Src.drew1 {w : World} {r : Int} {g : Nat} (h : Src w 1 (some ⟨g, 0, none⟩) 1 [.int .i64 r]) : Src w.drew 1 (some ⟨g, 0, none⟩) 1 [.int .i64 r] := Src.keep h (Tch.refl NoBlk w).drew (fun _ _ h => h)

end Go.Proofs.Ytipbimbnpikbcaa
