import Derived.Test.YtipbimbnpikbcaaGreatMg18
import Derived.Test.YtipbimbnpikbcaaGreatMg03
import Derived.Test.YtipbimbnpikbcaaGreatMg31
/- Stream: a loop has one stream more. -/
namespace Go.Proofs.YtipbimbnpikbcaaGreat
open Go.RowKit

theorem ptrs_oneCell (l : List Nat) : ∀ u ∈ l.map ptr, u.oneCell' = true := by
  intro u hu
  obtain ⟨x, _, rfl⟩ := List.mem_map.1 hu
  rfl
/-- One stream more. -/
def pushS (s : Lp) (r : Nat) : Lp := { s with str := s.str ++ [(r, ⟨[], [], []⟩)] }
def pushP (P : Nat → Nat → Prop) (n : Nat) (G' : Option Nat) (Fq : Nat → Prop) (i k : Nat) : Prop :=
  if i = 7 then G' = some k else if i = 8 + n then Fq k else P i k
section
variable {w w' : World} {b : Nat} {s : Lp} {F : Nat → Prop} {o : Pl} {P : Nat → Nat → Prop}
theorem LoopAt.noStr (H : LoopAt w b s o P) (k : Nat) : ¬ P (8 + s.str.length) k := by
  have h : SPart w (P (s.str.length + 8)) o.sb[s.str.length]? s.str[s.str.length]? := H.part (s.str.length + 8)
  have e1 : o.sb[s.str.length]? = none := List.getElem?_eq_none (by rw [H.sb]; exact Nat.le_refl _)
  have e2 : s.str[s.str.length]? = none := List.getElem?_eq_none (Nat.le_refl _)
  rw [e1, e2] at h
  rw [Nat.add_comm]
  exact h k
theorem LoopAt.push (H : LoopAt w b s o P) (hF0 : ∀ k, F k ↔ ∃ i, P i k) {q r : Nat} {Fq : Nat → Prop} (hq : StreamQ w q r ⟨[], [], []⟩ Fq) (hqP : ∀ i k, P i k → ¬ Fq k) (m : Nat) (hm : ∀ k, Fq k → m ≤ k) (hmw : m ≤ w.heap.size)
    {A : Option Addr} {c : Nat} {G : Option Nat} (T : Tch (fun k => P 0 k ∨ P 7 k) w w') (h0 : Blk w' b 71 (lcells (pushS s r) { o with A4 := A, c4 := c, G4 := G })) (h7 : Sl w' 107 1 A (s.str.length + 1) c ((o.sb ++ [q]).map ptr) G) (hG : ∀ k, G = some k → P 7 k ∨ w.heap.size ≤ k) (hl : s.str.length < 16) :
    Tch F w w' ∧ ∃ F', LoopQ w' b (pushS s r) F' ∧ ∀ k, F' k → F k ∨ m ≤ k := by
  have h00 := H.part 0
  have hlt := hq.lt
  have e7 : ∀ k, pushP P s.str.length G Fq 7 k ↔ G = some k := fun k => by simp [pushP]
  have en : ∀ k, pushP P s.str.length G Fq (s.str.length + 8) k ↔ Fq k := fun k => by simp [pushP]; omega
  have eo : ∀ i, i ≠ 7 → i ≠ s.str.length + 8 → pushP P s.str.length G Fq i = P i := fun i h1 h2 => by
    funext k
    simp [pushP, h1, show ¬ i = 8 + s.str.length by omega]
  have hkeep : ∀ i, i ≠ 0 → i ≠ 7 → LPart w' b s o (P i) i := fun i h1 h2 => (H.part i).keep T (fun k hk e => e.elim (fun e => h1 (H.dis _ _ _ hk e)) (fun e => h2 (H.dis _ _ _ hk e)))
  refine ⟨T.mono (fun k _ e => (hF0 k).2 (e.elim (fun e => ⟨_, e⟩) (fun e => ⟨_, e⟩))), fun k => ∃ i, pushP P s.str.length G Fq i k, ⟨{ o with A4 := A, c4 := c, G4 := G, sb := o.sb ++ [q] }, pushP P s.str.length G Fq, ⟨fun i => ?_, fun i j k hi hj => ?_, by simp [pushS, H.sb], H.ok.strs (by simp; omega)⟩, fun _ => Iff.rfl⟩, fun k hk => ?_⟩
  · match i with
    | 0 =>
      rw [eo 0 (by omega) (by omega)]
      exact ⟨h0, h00.2⟩
    | 1 => rw [eo 1 (by omega) (by omega)]; exact hkeep 1 (by omega) (by omega)
    | 2 => rw [eo 2 (by omega) (by omega)]; exact hkeep 2 (by omega) (by omega)
    | 3 => rw [eo 3 (by omega) (by omega)]; exact hkeep 3 (by omega) (by omega)
    | 4 => rw [eo 4 (by omega) (by omega)]; exact hkeep 4 (by omega) (by omega)
    | 5 => rw [eo 5 (by omega) (by omega)]; exact hkeep 5 (by omega) (by omega)
    | 6 => rw [eo 6 (by omega) (by omega)]; exact hkeep 6 (by omega) (by omega)
    | 7 => exact ⟨by simpa [pushS] using h7, e7⟩
    | i + 8 =>
      by_cases hi : i = s.str.length
      · subst hi
        have e1 : (o.sb ++ [q])[s.str.length]? = some q := by rw [← H.sb]; simp
        have e2 : (s.str ++ [(r, (⟨[], [], []⟩ : St))])[s.str.length]? = some (r, ⟨[], [], []⟩) := by simp
        show SPart w' _ (o.sb ++ [q])[s.str.length]? (s.str ++ [(r, (⟨[], [], []⟩ : St))])[s.str.length]?
        rw [e1, e2]
        have ef : pushP P s.str.length G Fq (s.str.length + 8) = Fq := by funext k; exact propext (en k)
        rw [ef]
        exact hq.keep T (fun k hk e => e.elim (fun e => hqP _ _ e hk) (fun e => hqP _ _ e hk))
      · rw [eo (i + 8) (by omega) (by omega)]
        have hk := hkeep (i + 8) (by omega) (by omega)
        have e1 : (o.sb ++ [q])[i]? = o.sb[i]? ∨ (o.sb[i]? = none ∧ (o.sb ++ [q])[i]? = none) := by
          by_cases hl : i < o.sb.length
          · exact .inl (List.getElem?_append_left hl)
          · exact .inr ⟨List.getElem?_eq_none (by omega), List.getElem?_eq_none (by simp; have := H.sb; omega)⟩
        have e2 : (s.str ++ [(r, (⟨[], [], []⟩ : St))])[i]? = s.str[i]? := by
          by_cases hl : i < s.str.length
          · exact List.getElem?_append_left hl
          · exact (List.getElem?_eq_none (show (s.str ++ [(r, (⟨[], [], []⟩ : St))]).length ≤ i by simp; omega)).trans (List.getElem?_eq_none (by omega)).symm
        show SPart w' _ (o.sb ++ [q])[i]? (s.str ++ [(r, (⟨[], [], []⟩ : St))])[i]?
        rw [e2]
        rcases e1 with e1 | ⟨e0, e1⟩
        · rw [e1]; exact hk
        · rw [e1, ← e0]; exact hk
  · unfold pushP at hi hj
    by_cases i7 : i = 7 <;> by_cases j7 : j = 7
    · rw [i7, j7]
    · rw [if_pos i7] at hi
      rw [if_neg j7] at hj
      by_cases jn : j = 8 + s.str.length
      · rw [if_pos jn] at hj
        rcases hG k hi with e | e
        · exact absurd hj (hqP _ _ e)
        · have := hlt k hj
          omega
      · rw [if_neg jn] at hj
        rcases hG k hi with e | e
        · rw [i7]; exact H.dis _ _ _ e hj
        · have := (H.part j).lt k hj
          omega
    · rw [if_neg i7] at hi
      rw [if_pos j7] at hj
      by_cases jn : i = 8 + s.str.length
      · rw [if_pos jn] at hi
        rcases hG k hj with e | e
        · exact absurd hi (hqP _ _ e)
        · have := hlt k hi
          omega
      · rw [if_neg jn] at hi
        rcases hG k hj with e | e
        · rw [j7]; exact H.dis _ _ _ hi e
        · have := (H.part i).lt k hi
          omega
    · rw [if_neg i7] at hi
      rw [if_neg j7] at hj
      by_cases jn : i = 8 + s.str.length <;> by_cases jm : j = 8 + s.str.length
      · rw [jn, jm]
      · rw [if_pos jn] at hi
        rw [if_neg jm] at hj
        exact absurd hi (hqP _ _ hj)
      · rw [if_neg jn] at hi
        rw [if_pos jm] at hj
        exact absurd hj (hqP _ _ hi)
      · rw [if_neg jn] at hi
        rw [if_neg jm] at hj
        exact H.dis _ _ _ hi hj
  · obtain ⟨i, hi⟩ := hk
    unfold pushP at hi
    by_cases i7 : i = 7
    · rw [if_pos i7] at hi
      rcases hG k hi with e | e
      · exact .inl ((hF0 k).2 ⟨_, e⟩)
      · exact .inr (by omega)
    · rw [if_neg i7] at hi
      by_cases jn : i = 8 + s.str.length
      · rw [if_pos jn] at hi
        exact .inr (hm k hi)
      · rw [if_neg jn] at hi
        exact .inl ((hF0 k).2 ⟨_, hi⟩)

set_option maxHeartbeats 4000000 in
set_option maxRecDepth 100000 in
theorem loop_stream (h : LoopQ w b s F) (room : Int) :
    Calls Tryz.prog 31 #[.pointer (some ⟨b, 0, none⟩), .int .i64 room] w fun e w' => e = .returned (.tuple #[.int .i64 (streamL s room).2.1, .int .i64 (streamL s room).2.2]) ∧ LoopLeft w w' b F (streamL s room).1 := by
  obtain ⟨R, hR⟩ : ∃ R, streamL s room = R := ⟨_, rfl⟩
  rw [hR]
  have HR := Lib.hid hR
  have HQ := Lib.hid h
  clear hR h
  by_cases hr : room < 1 ∨ 32 < room
  · have E1 := Lib.hid (show (s, 0, 1) = R by have := HR.out; simpa [streamL, hr] using this)
    have HN := Lib.hid hr
    clear HR hr
    go_enter Tryz.func31, Tryz.ntmps31
    go_wp2_with fail
    refine (stream_new_no room w HN.out).mono ?_
    rintro e w2 ⟨rfl, hw⟩
    subst hw
    go_wp2
    go_ret2
    rw [← E1.out]
    exact ⟨rfl, LoopLeft.same HQ.out⟩
  · obtain ⟨r, rfl⟩ := Int.eq_ofNat_of_zero_le (show 0 ≤ room by omega)
    have HN := Lib.hid (show 1 ≤ r ∧ r ≤ 32 by omega)
    by_cases hl : 16 ≤ s.str.length
    · have E1 := Lib.hid (show (s, 0, 3) = R by have := HR.out; simpa [streamL, hr, hl] using this)
      have hlI : (16 : Int) ≤ (s.str.length : Int) := by omega
      clear HR hr
      go_enter Tryz.func31, Tryz.ntmps31
      go_wp2_with fail
      refine (stream_new_yes r w HN.out.1 HN.out.2).mono ?_
      rintro e w2 ⟨q, Fq, rfl, hq, hFq, T⟩
      have q2 := HQ.out.keep T (fun _ _ h => h)
      have HF := Lib.hid ((LoopLeft.same q2).ahead T)
      obtain ⟨o, P, H, hF⟩ := q2
      have c9 := (H.part 0).1.cellOf 9 _ rfl
      clear hq hFq T H hF
      go_wp2
      go_ret2
      rw [← E1.out]
      exact ⟨rfl, HF.out⟩
    · have E1 := Lib.hid (show (pushS s r, s.str.length, 0) = R by have := HR.out; simpa [streamL, hr, hl, pushS] using this)
      have hlI : ¬ ((16 : Int) ≤ (s.str.length : Int)) := by omega
      have HL := Lib.hid (show s.str.length < 16 by omega)
      have hlN : s.str.length < 16 := by omega
      clear HR hr
      go_enter Tryz.func31, Tryz.ntmps31
      go_wp2_with fail
      refine (stream_new_yes r w HN.out.1 HN.out.2).mono ?_
      rintro e w2 ⟨q, Fq, rfl, hq, hFq, T⟩
      have q2 := HQ.out.keep T (fun _ _ h => h)
      have hqP : ∀ k, F k → ¬ Fq k := fun k hk e => by
        have := HQ.out.lt k hk
        have := hFq k e
        omega
      obtain ⟨o, P, H, hF⟩ := q2
      have hb := (H.part 0).1
      have h7 := (H.part 7).1
      have h7G := (H.part 7).2
      have c9 := hb.cellOf 9 _ rfl
      have HH := Lib.hid H
      have HF := Lib.hid hF
      have HT := Lib.hid T
      have HQQ := Lib.hid hq
      have HFQ := Lib.hid hFq
      have HQP := Lib.hid hqP
      have HB := Lib.hid hb
      have H7G := Lib.hid h7G
      have hgb : ¬ o.G4 = some b := fun e => absurd (H.dis 0 7 b (((H.part 0).2 b).2 rfl) ((h7G b).2 e)) (by omega)
      have HGB := Lib.hid hgb
      clear H hF T hq hFq hqP hb h7G hgb
      go_wp2_with (at_builtin; refine wpList_app _ rfl (.tmp 30) (.tmp 32) 69 rfl 107 (.pointer none) 1 8 Tryz.underlying69 infoSp rfl (by decide) (by decide) _ _ _ _ _ _ _ _ _ rfl rfl (h7.keep ((Tch.refl NoBlk w2).alloc _) (fun _ _ h => h)) (Src.made w2 107 #[.pointer (some ⟨q, 0, none⟩)] 1 rfl) (ptrs_oneCell [q]) (by omega) ?_; intro A6 c6 w6 G6 hs6 ht6 hg6; have HS6 := Lib.hid hs6; have HT6 : Hid (Tch (fun k => o.G4 = some k) w2 w6) := Lib.hid (Tch.then ((Tch.refl _ w2).alloc _) ht6 (fun _ _ h => h)); have HG6 := Lib.hid hg6; have hb6 := HB.out.keep HT6.out HGB.out; have c9 := hb6.cellOf 9 _ rfl; have f9 := hb6.free 9; clear hs6 ht6 hg6 hb6)
      have hS : Tch (· = b) w6 (w6.setCell ⟨b, 9, none⟩ (.slice A6 (s.str.length + 1) c6)) := (Tch.refl (· = b) w6).setCell (p := ⟨b, 9, none⟩) (fun _ => rfl) _
      have hG6 : ∀ g, G6 = some g → o.G4 = some g ∨ w2.heap.size ≤ g := fun g hg => by
        rcases HG6.out with e | ⟨g', e, hl⟩
        · exact .inl (e ▸ hg)
        · rw [e] at hg
          injection hg with hg
          subst hg
          simp at hl
          exact .inr (by omega)
      have hgb6 : ∀ g, G6 = some g → g ≠ b := fun g hg e => by
        rcases hG6 g hg with e2 | e2
        · exact HGB.out (by rw [← e]; exact e2)
        · have := HB.out.lt
          omega
      have T2 : Tch (fun k => P 0 k ∨ P 7 k) w2 (w6.setCell ⟨b, 9, none⟩ (.slice A6 (s.str.length + 1) c6)) := (HT6.out.mono (fun k _ e => .inr ((H7G.out k).2 e))).trans (hS.mono (fun k _ e => .inl (((HH.out.part 0).2 k).2 e)))
      have hpush := HH.out.push HF.out HQQ.out (fun i k hk => HQP.out k ((HF.out k).2 ⟨i, hk⟩)) w.heap.size HFQ.out HT.out.size (A := A6) (c := c6) (G := G6) T2 (by
        have := (HB.out.keep HT6.out HGB.out).set 9 (.slice A6 (s.str.length + 1) c6)
        simpa [lcells, pushS] using this) (by
        have := HS6.out.keep hS hgb6
        simpa [ptr] using this) (fun k hk => (hG6 k hk).imp_left (fun e => (H7G.out k).2 e)) HL.out
      have HP := Lib.hid hpush
      have sl : IntKind.i64.wrap (s.str.length : Int) = (s.str.length : Int) := by rw [IntKind.wrap_i64]; omega
      clear hS hG6 hgb6 T2 hpush HS6 HT6 HG6 hlN
      go_wp2
      go_ret2
      rw [← E1.out]
      obtain ⟨p1, F', p2, p3⟩ := HP.out
      exact ⟨rfl, (HT.out.mono (fun _ _ e => e.elim)).trans p1, F', p2, p3⟩
end
end Go.Proofs.YtipbimbnpikbcaaGreat

/- The document's loop: Stream, Write, Read. -/
namespace Go.Proofs.YtipbimbnpikbcaaGreat
open Go.RowKit

section
variable {w w' : World} {b : Nat} {s : Lp} {F : Nat → Prop} {o : RPl} {P : Nat → Nat → Prop}
theorem RLoopAt.noStr (H : RLoopAt w b s o P) (k : Nat) : ¬ P (8 + s.str.length) k := by
  have h : RSPart w (P (s.str.length + 8)) o.sb[s.str.length]? s.str[s.str.length]? := H.part (s.str.length + 8)
  have e1 : o.sb[s.str.length]? = none := List.getElem?_eq_none (by rw [H.sb]; exact Nat.le_refl _)
  have e2 : s.str[s.str.length]? = none := List.getElem?_eq_none (Nat.le_refl _)
  rw [e1, e2] at h
  rw [Nat.add_comm]
  exact h k
theorem RLoopAt.push (H : RLoopAt w b s o P) (hF0 : ∀ k, F k ↔ ∃ i, P i k) {q r : Nat} {Fq : Nat → Prop} (hq : RefStrQ w q r ⟨[], [], []⟩ Fq) (hr32 : r ≤ 32) (hqP : ∀ i k, P i k → ¬ Fq k) (m : Nat) (hm : ∀ k, Fq k → m ≤ k) (hmw : m ≤ w.heap.size)
    {A : Option Addr} {c : Nat} {G : Option Nat} (T : Tch (fun k => P 0 k ∨ P 7 k) w w') (h0 : Blk w' b 58 (rcells (pushS s r) { o with A4 := A, c4 := c, G4 := G })) (h7 : Sl w' 121 1 A (s.str.length + 1) c ((o.sb ++ [q]).map ptr) G) (hG : ∀ k, G = some k → P 7 k ∨ w.heap.size ≤ k) (hl : s.str.length < 16) :
    Tch F w w' ∧ ∃ F', RLoopQ w' b (pushS s r) F' ∧ ∀ k, F' k → F k ∨ m ≤ k := by
  have h00 := H.part 0
  have hlt := hq.lt
  have e7 : ∀ k, pushP P s.str.length G Fq 7 k ↔ G = some k := fun k => by simp [pushP]
  have en : ∀ k, pushP P s.str.length G Fq (s.str.length + 8) k ↔ Fq k := fun k => by simp [pushP]; omega
  have eo : ∀ i, i ≠ 7 → i ≠ s.str.length + 8 → pushP P s.str.length G Fq i = P i := fun i h1 h2 => by
    funext k
    simp [pushP, h1, show ¬ i = 8 + s.str.length by omega]
  have hkeep : ∀ i, i ≠ 0 → i ≠ 7 → RSame s o (pushS s r) { o with A4 := A, c4 := c, G4 := G, sb := o.sb ++ [q] } i → RPart w' b (pushS s r) { o with A4 := A, c4 := c, G4 := G, sb := o.sb ++ [q] } (P i) i := fun i h1 h2 e => (H.part i).keepB T (fun k hk e => e.elim (fun e => h1 (H.dis _ _ _ hk e)) (fun e => h2 (H.dis _ _ _ hk e))) h0 e
  refine ⟨T.mono (fun k _ e => (hF0 k).2 (e.elim (fun e => ⟨_, e⟩) (fun e => ⟨_, e⟩))), fun k => ∃ i, pushP P s.str.length G Fq i k, ⟨{ o with A4 := A, c4 := c, G4 := G, sb := o.sb ++ [q] }, pushP P s.str.length G Fq, ⟨fun i => ?_, fun i j k hi hj => ?_, by simp [pushS, H.sb], H.ok.strs (by simp; omega)⟩, fun _ => Iff.rfl⟩, fun k hk => ?_⟩
  · match i with
    | 0 =>
      rw [eo 0 (by omega) (by omega)]
      exact ⟨h0, h00.2⟩
    | 1 => rw [eo 1 (by omega) (by omega)]; exact hkeep 1 (by omega) (by omega) ⟨rfl, rfl, rfl, rfl⟩
    | 2 => rw [eo 2 (by omega) (by omega)]; exact hkeep 2 (by omega) (by omega) ⟨rfl, rfl, rfl, rfl⟩
    | 3 => rw [eo 3 (by omega) (by omega)]; exact hkeep 3 (by omega) (by omega) ⟨rfl, rfl, rfl, rfl⟩
    | 4 => rw [eo 4 (by omega) (by omega)]; exact hkeep 4 (by omega) (by omega) ⟨rfl, rfl, rfl, rfl⟩
    | 5 => rw [eo 5 (by omega) (by omega)]; exact hkeep 5 (by omega) (by omega) ⟨rfl, rfl⟩
    | 6 => rw [eo 6 (by omega) (by omega)]; exact hkeep 6 (by omega) (by omega) ⟨rfl, rfl, rfl, rfl⟩
    | 7 => exact ⟨by simpa [pushS] using h7, e7⟩
    | i + 8 =>
      by_cases hi : i = s.str.length
      · subst hi
        have e1 : (o.sb ++ [q])[s.str.length]? = some q := by rw [← H.sb]; simp
        have e2 : (s.str ++ [(r, (⟨[], [], []⟩ : St))])[s.str.length]? = some (r, ⟨[], [], []⟩) := by simp
        show RSPart w' _ (o.sb ++ [q])[s.str.length]? (s.str ++ [(r, (⟨[], [], []⟩ : St))])[s.str.length]?
        rw [e1, e2]
        have ef : pushP P s.str.length G Fq (s.str.length + 8) = Fq := by funext k; exact propext (en k)
        rw [ef]
        exact ⟨hq.keep T (fun k hk e => e.elim (fun e => hqP _ _ e hk) (fun e => hqP _ _ e hk)), hr32⟩
      · rw [eo (i + 8) (by omega) (by omega)]
        have e1 : (o.sb ++ [q])[i]? = o.sb[i]? := by
          by_cases hl : i < o.sb.length
          · exact List.getElem?_append_left hl
          · exact (List.getElem?_eq_none (by have := H.sb; simp; omega)).trans (List.getElem?_eq_none (by omega)).symm
        have e2 : (s.str ++ [(r, (⟨[], [], []⟩ : St))])[i]? = s.str[i]? := by
          by_cases hl : i < s.str.length
          · exact List.getElem?_append_left hl
          · exact (List.getElem?_eq_none (show (s.str ++ [(r, (⟨[], [], []⟩ : St))]).length ≤ i by simp; omega)).trans (List.getElem?_eq_none (by omega)).symm
        exact hkeep (i + 8) (by omega) (by omega) ⟨e1, e2⟩
  · unfold pushP at hi hj
    by_cases i7 : i = 7 <;> by_cases j7 : j = 7
    · rw [i7, j7]
    · rw [if_pos i7] at hi
      rw [if_neg j7] at hj
      by_cases jn : j = 8 + s.str.length
      · rw [if_pos jn] at hj
        rcases hG k hi with e | e
        · exact absurd hj (hqP _ _ e)
        · have := hlt k hj
          omega
      · rw [if_neg jn] at hj
        rcases hG k hi with e | e
        · rw [i7]; exact H.dis _ _ _ e hj
        · have := (H.part j).lt k hj
          omega
    · rw [if_neg i7] at hi
      rw [if_pos j7] at hj
      by_cases jn : i = 8 + s.str.length
      · rw [if_pos jn] at hi
        rcases hG k hj with e | e
        · exact absurd hi (hqP _ _ e)
        · have := hlt k hi
          omega
      · rw [if_neg jn] at hi
        rcases hG k hj with e | e
        · rw [j7]; exact H.dis _ _ _ hi e
        · have := (H.part i).lt k hi
          omega
    · rw [if_neg i7] at hi
      rw [if_neg j7] at hj
      by_cases jn : i = 8 + s.str.length <;> by_cases jm : j = 8 + s.str.length
      · rw [jn, jm]
      · rw [if_pos jn] at hi
        rw [if_neg jm] at hj
        exact absurd hi (hqP _ _ hj)
      · rw [if_neg jn] at hi
        rw [if_pos jm] at hj
        exact absurd hj (hqP _ _ hi)
      · rw [if_neg jn] at hi
        rw [if_neg jm] at hj
        exact H.dis _ _ _ hi hj
  · obtain ⟨i, hi⟩ := hk
    unfold pushP at hi
    by_cases i7 : i = 7
    · rw [if_pos i7] at hi
      rcases hG k hi with e | e
      · exact .inl ((hF0 k).2 ⟨_, e⟩)
      · exact .inr (by omega)
    · rw [if_neg i7] at hi
      by_cases jn : i = 8 + s.str.length
      · rw [if_pos jn] at hi
        exact .inr (hm k hi)
      · rw [if_neg jn] at hi
        exact .inl ((hF0 k).2 ⟨_, hi⟩)

theorem infoSpR : (Tryz.prog.info? 121).map (fun i => (i.zero, i.size, i.bytes)) = some (some (.pointer none), 1, 8) := by kernel_rfl
set_option maxHeartbeats 4000000 in
set_option maxRecDepth 100000 in
theorem rl_stream (h : RLoopQ w b s F) (room : Int) :
    Calls Tryz.prog 43 #[.pointer (some ⟨b, 0, none⟩), .int .i64 room] w fun e w' => e = .returned (.tuple #[.int .i64 (streamL s room).2.1, .int .i64 (streamL s room).2.2]) ∧ RLeft w w' b F (streamL s room).1 := by
  obtain ⟨R, hR⟩ : ∃ R, streamL s room = R := ⟨_, rfl⟩
  rw [hR]
  have HR := Lib.hid hR
  have HQ := Lib.hid h
  clear hR h
  by_cases hr : room < 1 ∨ 32 < room
  · have E1 := Lib.hid (show (s, 0, 1) = R by have := HR.out; simpa [streamL, hr] using this)
    have HN := Lib.hid hr
    clear HR hr
    go_enter Tryz.func43, Tryz.ntmps43
    go_wp2_with fail
    refine (refstr_new_no room w HN.out).mono ?_
    rintro e w2 ⟨rfl, hw⟩
    subst hw
    go_wp2
    go_ret2
    rw [← E1.out]
    exact ⟨rfl, RLeft.same HQ.out⟩
  · obtain ⟨r, rfl⟩ := Int.eq_ofNat_of_zero_le (show 0 ≤ room by omega)
    have HN := Lib.hid (show 1 ≤ r ∧ r ≤ 32 by omega)
    by_cases hl : 16 ≤ s.str.length
    · have E1 := Lib.hid (show (s, 0, 3) = R by have := HR.out; simpa [streamL, hr, hl] using this)
      have hlI : (16 : Int) ≤ (s.str.length : Int) := by omega
      clear HR hr
      go_enter Tryz.func43, Tryz.ntmps43
      go_wp2_with fail
      refine (refstr_new_yes r w HN.out.1 HN.out.2).mono ?_
      rintro e w2 ⟨q, Fq, rfl, hq, hFq, T⟩
      have q2 := HQ.out.keep T (fun _ _ h => h)
      have HF := Lib.hid ((RLeft.same q2).ahead T)
      obtain ⟨o, P, H, hF⟩ := q2
      have c9 := (H.part 0).1.cellOf 11 _ rfl
      clear hq hFq T H hF
      go_wp2
      go_ret2
      rw [← E1.out]
      exact ⟨rfl, HF.out⟩
    · have E1 := Lib.hid (show (pushS s r, s.str.length, 0) = R by have := HR.out; simpa [streamL, hr, hl, pushS] using this)
      have hlI : ¬ ((16 : Int) ≤ (s.str.length : Int)) := by omega
      have HL := Lib.hid (show s.str.length < 16 by omega)
      have hlN : s.str.length < 16 := by omega
      clear HR hr
      go_enter Tryz.func43, Tryz.ntmps43
      go_wp2_with fail
      refine (refstr_new_yes r w HN.out.1 HN.out.2).mono ?_
      rintro e w2 ⟨q, Fq, rfl, hq, hFq, T⟩
      have q2 := HQ.out.keep T (fun _ _ h => h)
      have hqP : ∀ k, F k → ¬ Fq k := fun k hk e => by
        have := HQ.out.lt k hk
        have := hFq k e
        omega
      obtain ⟨o, P, H, hF⟩ := q2
      have hb := (H.part 0).1
      have h7 := (H.part 7).1
      have h7G := (H.part 7).2
      have c9 := hb.cellOf 11 _ rfl
      have HH := Lib.hid H
      have HF := Lib.hid hF
      have HT := Lib.hid T
      have HQQ := Lib.hid hq
      have HFQ := Lib.hid hFq
      have HQP := Lib.hid hqP
      have HB := Lib.hid hb
      have H7G := Lib.hid h7G
      have hgb : ¬ o.G4 = some b := fun e => absurd (H.dis 0 7 b (((H.part 0).2 b).2 rfl) ((h7G b).2 e)) (by omega)
      have HGB := Lib.hid hgb
      clear H hF T hq hFq hqP hb h7G hgb
      go_wp2_with (at_builtin; refine wpList_app _ rfl (.tmp 26) (.tmp 28) 56 rfl 121 (.pointer none) 1 8 Tryz.underlying56 infoSpR rfl (by decide) (by decide) _ _ _ _ _ _ _ _ _ rfl rfl (h7.keep ((Tch.refl NoBlk w2).alloc _) (fun _ _ h => h)) (Src.made w2 121 #[.pointer (some ⟨q, 0, none⟩)] 1 rfl) (ptrs_oneCell [q]) (by omega) ?_; intro A6 c6 w6 G6 hs6 ht6 hg6; have HS6 := Lib.hid hs6; have HT6 : Hid (Tch (fun k => o.G4 = some k) w2 w6) := Lib.hid (Tch.then ((Tch.refl _ w2).alloc _) ht6 (fun _ _ h => h)); have HG6 := Lib.hid hg6; have hb6 := HB.out.keep HT6.out HGB.out; have c9 := hb6.cellOf 11 _ rfl; have f9 := hb6.free 11; clear hs6 ht6 hg6 hb6)
      have hS : Tch (· = b) w6 (w6.setCell ⟨b, 11, none⟩ (.slice A6 (s.str.length + 1) c6)) := (Tch.refl (· = b) w6).setCell (p := ⟨b, 11, none⟩) (fun _ => rfl) _
      have hG6 : ∀ g, G6 = some g → o.G4 = some g ∨ w2.heap.size ≤ g := fun g hg => by
        rcases HG6.out with e | ⟨g', e, hl⟩
        · exact .inl (e ▸ hg)
        · rw [e] at hg
          injection hg with hg
          subst hg
          simp at hl
          exact .inr (by omega)
      have hgb6 : ∀ g, G6 = some g → g ≠ b := fun g hg e => by
        rcases hG6 g hg with e2 | e2
        · exact HGB.out (by rw [← e]; exact e2)
        · have := HB.out.lt
          omega
      have T2 : Tch (fun k => P 0 k ∨ P 7 k) w2 (w6.setCell ⟨b, 11, none⟩ (.slice A6 (s.str.length + 1) c6)) := (HT6.out.mono (fun k _ e => .inr ((H7G.out k).2 e))).trans (hS.mono (fun k _ e => .inl (((HH.out.part 0).2 k).2 e)))
      have hpush := HH.out.push HF.out HQQ.out HN.out.2 (fun i k hk => HQP.out k ((HF.out k).2 ⟨i, hk⟩)) w.heap.size HFQ.out HT.out.size (A := A6) (c := c6) (G := G6) T2 (by
        have := (HB.out.keep HT6.out HGB.out).set 11 (.slice A6 (s.str.length + 1) c6)
        simpa [rcells, pushS] using this) (by
        have := HS6.out.keep hS hgb6
        simpa [ptr] using this) (fun k hk => (hG6 k hk).imp_left (fun e => (H7G.out k).2 e)) HL.out
      have HP := Lib.hid hpush
      have sl : IntKind.i64.wrap (s.str.length : Int) = (s.str.length : Int) := by rw [IntKind.wrap_i64]; omega
      clear hS hG6 hgb6 T2 hpush HS6 HT6 HG6 hlN
      go_wp2
      go_ret2
      rw [← E1.out]
      obtain ⟨p1, F', p2, p3⟩ := HP.out
      exact ⟨rfl, (HT.out.mono (fun _ _ e => e.elim)).trans p1, F', p2, p3⟩
end
end Go.Proofs.YtipbimbnpikbcaaGreat
