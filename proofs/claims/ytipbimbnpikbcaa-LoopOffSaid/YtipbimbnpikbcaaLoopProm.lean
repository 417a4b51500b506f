/- The promises of a loop; what waits for a time or a promise. -/
import Derived.Test.YtipbimbnpikbcaaLoopNext
namespace Go.Proofs.Ytipbimbnpikbcaa
open Go.RowKit

section
variable {w w' : World} {b : Nat} {s s' : Lp} {F : Nat → Prop}
/-- A part of the number j alone, in the blocks that it had. -/
theorem LoopAt.oneSame {o : Pl} {P : Nat → Nat → Prop} (H : LoopAt w b s o P) (hF0 : ∀ k, F k ↔ ∃ i, P i k) (j : Nat) (hj0 : j ≠ 0) (T : Tch (P j) w w') (h0 : lcells s' o = lcells s o) (hj : LPart w' b s' o (P j) j)
    (same : ∀ i, i ≠ 0 → i ≠ j → LPart w' b s o (P i) i → LPart w' b s' o (P i) i) (hs : o.sb.length = s'.str.length) (hok : LOk s') : LoopQ w' b s' F ∧ Tch F w w' := by
  refine ⟨⟨o, P, ⟨fun i => ?_, H.dis, hs, hok⟩, hF0⟩, T.mono (fun k _ e => (hF0 k).2 ⟨j, e⟩)⟩
  by_cases e : i = j
  · subst e
    exact hj
  · have hk := (H.part i).keep T (fun k hk e2 => e (H.dis _ _ _ hk e2))
    by_cases e0 : i = 0
    · subst e0
      exact ⟨by rw [h0]; exact hk.1, hk.2⟩
    · exact same i e0 e hk
theorem loop_value (h : LoopQ w b s F) : ∃ p : Nat, w.cell? ⟨b, 7, none⟩ = some (.pointer (some ⟨p, 0, none⟩)) ∧ ∀ id, Calls Try.prog 36 #[.pointer (some ⟨p, 0, none⟩), .int .i64 id] w fun e w' => e = .returned (.tuple #[.int .i64 (valueM s.prs id).1, .bool (valueM s.prs id).2.1, .int .i64 (valueM s.prs id).2.2]) ∧ ∃ n, w' = w.drewN n := by
  obtain ⟨o, P, H, hF⟩ := h
  exact ⟨o.p, (H.part 0).1.cellOf 7 _ rfl, fun id => promise_value o.p s.prs (P 5) id w (H.part 5)⟩
theorem loop_pwaits (h : LoopQ w b s F) : ∃ p : Nat, w.cell? ⟨b, 7, none⟩ = some (.pointer (some ⟨p, 0, none⟩)) ∧ ∀ id, Calls Try.prog 37 #[.pointer (some ⟨p, 0, none⟩), .int .i64 id] w fun e w' => e = .returned (.int .i64 (waitsM s.prs id)) ∧ w' = w := by
  obtain ⟨o, P, H, hF⟩ := h
  exact ⟨o.p, (H.part 0).1.cellOf 7 _ rfl, fun id => promise_waits o.p s.prs (P 5) id w (H.part 5)⟩
theorem loop_plen (h : LoopQ w b s F) : ∃ p : Nat, w.cell? ⟨b, 7, none⟩ = some (.pointer (some ⟨p, 0, none⟩)) ∧ Calls Try.prog 61 #[.pointer (some ⟨p, 0, none⟩)] w fun e w' => e = .returned (.int .i64 s.prs.length) ∧ w' = w := by
  obtain ⟨o, P, H, hF⟩ := h
  exact ⟨o.p, (H.part 0).1.cellOf 7 _ rfl, promise_len o.p s.prs (P 5) w (H.part 5)⟩
theorem loop_pthen (h : LoopQ w b s F) (id k : Int) (hk : 0 ≤ k ∧ k < (s.wai.length : Int)) : ∃ p : Nat, w.cell? ⟨b, 7, none⟩ = some (.pointer (some ⟨p, 0, none⟩)) ∧ Calls Try.prog 39 #[.pointer (some ⟨p, 0, none⟩), .int .i64 id, .int .i64 k] w fun e w' => e = .returned (.tuple #[.int .i64 (thenM s.prs id k).2.1, .bool (thenM s.prs id k).2.2.1, .int .i64 (thenM s.prs id k).2.2.2]) ∧ LoopLeft w w' b F { s with prs := (thenM s.prs id k).1 } := by
  obtain ⟨o, P, H, hF⟩ := h
  refine ⟨o.p, (H.part 0).1.cellOf 7 _ rfl, (promise_then o.p s.prs (P 5) id k w (H.part 5)).mono ?_⟩
  rintro e w' ⟨rfl, hq, T⟩
  obtain ⟨h1, h2⟩ := H.oneSame hF 5 (by decide) T (s' := { s with prs := (thenM s.prs id k).1 }) rfl hq (fun i hi0 hi1 hp => by
    match i, hi0, hi1, hp with
    | 1, _, _, hp => exact hp
    | 2, _, _, hp => exact hp
    | 3, _, _, hp => exact hp
    | 4, _, _, hp => exact hp
    | 6, _, _, hp => exact hp
    | 7, _, _, hp => exact hp
    | i + 8, _, _, hp => exact hp) H.sb (H.ok.thenP id hk)
  exact ⟨rfl, h2, F, h1, fun _ hk => .inl hk⟩
theorem loop_psettle (h : LoopQ w b s F) (id v : Int) : ∃ p : Nat, w.cell? ⟨b, 7, none⟩ = some (.pointer (some ⟨p, 0, none⟩)) ∧ Calls Try.prog 50 #[.pointer (some ⟨p, 0, none⟩), .int .i64 id, .int .i64 v] w fun e w' => ToldInts w w' e (settleM s.prs id v).2.1 (settleM s.prs id v).2.2 ∧ LoopQ w' b { s with prs := (settleM s.prs id v).1 } F ∧ Tch F w w' := by
  obtain ⟨o, P, H, hF⟩ := h
  refine ⟨o.p, (H.part 0).1.cellOf 7 _ rfl, (promise_settle o.p s.prs (P 5) id v w (H.part 5)).mono ?_⟩
  rintro e w' ⟨h1, hq, T⟩
  refine ⟨h1, H.oneSame hF 5 (by decide) T (s' := { s with prs := (settleM s.prs id v).1 }) rfl hq (fun i hi0 hi1 hp => ?_) H.sb (H.ok.settled id v)⟩
  match i, hi0, hi1, hp with
  | 1, _, _, hp => exact hp
  | 2, _, _, hp => exact hp
  | 3, _, _, hp => exact hp
  | 4, _, _, hp => exact hp
  | 6, _, _, hp => exact hp
  | 7, _, _, hp => exact hp
  | i + 8, _, _, hp => exact hp
/-- One that waits is read. -/
theorem LoopQ.wait (h : LoopQ w b s F) {k : Nat} (hk : k < s.wai.length) : ∃ g off c, w.cell? ⟨b, 5, none⟩ = some (.slice (some ⟨g, off, none⟩) s.wai.length c) ∧ s.wai.length ≤ c ∧ c ≤ 9223372036854775807 ∧
    w.cell? ⟨g, off + k * 4, none⟩ = some (.int .i64 (getL s k).kind) ∧ w.cell? ⟨g, off + k * 4 + 1, none⟩ = some (.int .i64 (getL s k).fn) ∧ w.cell? ⟨g, off + k * 4 + 2, none⟩ = some (.int .i64 (getL s k).arg) ∧ w.cell? ⟨g, off + k * 4 + 3, none⟩ = some (.int .i64 (getL s k).tok) := by
  obtain ⟨o, P, H, hF⟩ := h
  have hr := (H.part 3).1
  obtain ⟨g, off, e1, _, hc⟩ := hr.cells (by omega)
  have c5 := (H.part 0).1.cellOf 5 _ rfl
  rw [e1] at c5
  obtain ⟨t0, t1, t2, t3⟩ := tks_get s.wai k hk
  have ek : getL s (k : Int) = s.wai.getD k tk0 := by simp [getL]
  rw [ek]
  exact ⟨g, off, o.c3, c5, hr.cap_le.1, hr.cap_le.2, hc _ _ t0, hc _ _ t1, hc _ _ t2, hc _ _ t3⟩
end
end Go.Proofs.Ytipbimbnpikbcaa
