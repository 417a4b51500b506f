/- A law's loop: After, Settle, Then. -/
import Derived.Test.YtipbimbnpikbcaaLoopLaw
import Derived.Test.YtipbimbnpikbcaaLoopAfter
import Derived.Test.YtipbimbnpikbcaaLoopThen
namespace Go.Proofs.Ytipbimbnpikbcaa
open Go.RowKit

section
variable {w0 w : World} {b : Nat} {s s' : Lp} {O : Nat → Prop}
theorem lpi_after (h : LpI w0 w b s O) (due fn : Int) {x y : Nat} (hm : afterL s due fn = (s', x, y)) :
    Calls Try.prog 15 #[.pointer (some ⟨b, 0, none⟩), .int .i64 due, .int .i64 fn] w fun e w' => e = .returned (.tuple #[.int .i64 x, .int .i64 y]) ∧ LpI w0 w' b s' O ∧ Tch (Oth w0 O) w w' :=
  h.via (fun _ q => by have := loop_after q due fn; rw [hm] at this; exact this)
theorem lpi_settle (h : LpI w0 w b s O) (id v : Int) (hn : s.mic.length + (settleM s.prs id v).2.1.length < 1000000) {y : Nat} (hm : settleL s id v = (s', y)) :
    Calls Try.prog 26 #[.pointer (some ⟨b, 0, none⟩), .int .i64 id, .int .i64 v] w fun e w' => e = .returned (.int .i64 y) ∧ LpI w0 w' b s' O ∧ Tch (Oth w0 O) w w' :=
  h.via (fun _ q => by have := loop_settle q id v hn; rw [hm] at this; exact this)
theorem lpi_then (h : LpI w0 w b s O) (id fn : Int) (hn : s.mic.length < 1000000) {x y : Nat} (hm : thenL s id fn = (s', x, y)) :
    Calls Try.prog 17 #[.pointer (some ⟨b, 0, none⟩), .int .i64 id, .int .i64 fn] w fun e w' => e = .returned (.tuple #[.int .i64 x, .int .i64 y]) ∧ LpI w0 w' b s' O ∧ Tch (Oth w0 O) w w' :=
  h.via (fun _ q => by have := loop_then q id fn hn; rw [hm] at this; exact this)
end
end Go.Proofs.Ytipbimbnpikbcaa
