/- A law's loop: Advance. -/
import Derived.Test.YtipbimbnpikbcaaLoopLaw2
import Derived.Test.YtipbimbnpikbcaaLoopAdvW
namespace Go.Proofs.Ytipbimbnpikbcaa
open Go.RowKit

theorem lpi_advance {w0 w : World} {b : Nat} {s s' : Lp} {O : Nat → Prop} (h : LpI w0 w b s O) (now : Int) (hn : s.mac.length + s.L.length < 1000000) (hm : advL s.L.length s now = s') :
    Calls Try.prog 12 #[.pointer (some ⟨b, 0, none⟩), .int .i64 now] w fun e w' => e = .returned (.tuple #[]) ∧ LpI w0 w' b s' O ∧ Tch (Oth w0 O) w w' :=
  h.via (fun _ q => by have := loop_advance q now hn; rw [hm] at this; exact this)
end Go.Proofs.Ytipbimbnpikbcaa
