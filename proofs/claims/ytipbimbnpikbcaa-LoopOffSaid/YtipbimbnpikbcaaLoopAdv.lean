/- What is due, of a loop (for Advance). -/
import Derived.Test.YtipbimbnpikbcaaLoopThen
import Derived.Test.YtipbimbnpikbcaaLoopAfter
namespace Go.Proofs.Ytipbimbnpikbcaa
open Go.RowKit

section
variable {w : World} {b : Nat} {s : Lp} {F : Nat → Prop}
theorem LOk.fewer (h : LOk s) (now : Int) : LOk { s with L := (dueM s.L now).1 } := by
  refine ⟨h.bud, h.told, h.tok, h.mac, h.mic, h.wai, h.waiLe, h.n, dueM_ok h.row now, Nat.le_trans (dueM_le _ _) h.tml, fun y hy => ?_, h.reacts, h.tree, h.str⟩
  unfold dueM at hy
  split at hy
  · exact h.items y hy
  · split at hy
    · exact h.items y hy
    · exact h.items y (List.mem_of_mem_erase hy)
theorem loop_tdue (h : LoopQ w b s F) (now : Int) : ∃ t : Nat, w.cell? ⟨b, 6, none⟩ = some (.pointer (some ⟨t, 0, none⟩)) ∧ Calls Try.prog 30 #[.pointer (some ⟨t, 0, none⟩), .int .i64 now] w fun e w' => e = .returned (.tuple #[.int .i64 (dueM s.L now).2.1, .bool (dueM s.L now).2.2]) ∧ LoopLeft w w' b F { s with L := (dueM s.L now).1 } := by
  obtain ⟨o, P, H, hF⟩ := h
  refine ⟨o.t, (H.part 0).1.cellOf 6 _ rfl, (tmj_due H.tim now _ _ _ rfl).mono ?_⟩
  rintro e w' ⟨rfl, hJ, T⟩
  obtain ⟨h1, h2⟩ := H.oneSame hF 4 (by decide) T (s' := { s with L := (dueM s.L now).1 }) rfl hJ.i.q (fun i hi0 hi1 hp => by
    match i, hi0, hi1, hp with
    | 1, _, _, hp => exact hp
    | 2, _, _, hp => exact hp
    | 3, _, _, hp => exact hp
    | 5, _, _, hp => exact hp
    | 6, _, _, hp => exact hp
    | 7, _, _, hp => exact hp
    | i + 8, _, _, hp => exact hp) H.sb (H.ok.fewer now)
  exact ⟨rfl, h2, F, h1, fun _ hk => .inl hk⟩
end
theorem dueM_no {L : List Tm} {now : Int} (h : (dueM L now).2.2 = false) : (dueM L now).1 = L := by
  unfold dueM at h ⊢
  cases e : firstM L with
  | none => rfl
  | some m =>
    rw [e] at h
    dsimp only at h ⊢
    by_cases hl : now < m.1
    · rw [if_pos hl]
    · rw [if_neg hl] at h
      simp at h
theorem dueM_yes {L : List Tm} {now : Int} (h : (dueM L now).2.2 = true) : (dueM L now).1.length + 1 = L.length := by
  obtain ⟨m, hm, _, e⟩ := dueM_mem (L := L) (now := now) (L' := (dueM L now).1) (x := (dueM L now).2.1) (by rw [← h])
  rw [e, List.length_erase_of_mem hm]
  have := List.length_pos_of_mem hm
  omega
/-- What Advance does, one timer first. -/
theorem advL_step (s : Lp) (now : Int) : advL s.L.length s now = if (dueM s.L now).2.2 then advL (dueM s.L now).1.length { s with L := (dueM s.L now).1, mac := s.mac ++ [getL s (dueM s.L now).2.1] } now else s := by
  cases h : (dueM s.L now).2.2 with
  | false =>
    rw [if_neg (by simp)]
    cases hl : s.L.length with
    | zero => rfl
    | succ k =>
      unfold advL
      rw [h]
      rfl
  | true =>
    have := dueM_yes h
    rw [if_pos rfl, ← this]
    conv => lhs; unfold advL
    rw [h]
    rfl
end Go.Proofs.Ytipbimbnpikbcaa
