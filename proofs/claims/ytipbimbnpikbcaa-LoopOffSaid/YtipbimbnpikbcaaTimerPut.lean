/- Timers: one is put. -/
import Derived.Test.YtipbimbnpikbcaaTimerDo
import Derived.Deep.RegionLaw
namespace Go.Proofs.Ytipbimbnpikbcaa
open Go.RowKit

theorem TimersAt.more {w w2 : World} {b : Nat} {h : List Tm} {n : Int} {A : Option Addr} {c : Nat} {G : Option Nat} {x : Tm} (H : TimersAt w b h n A c G) (T : Tch (fun k => G = some k) w w2) {A' : Option Addr} {c' : Nat} {G' : Option Nat} (hl : h.length < 64)
    (hs : Sl w2 96 3 A' (h.length + 1) c' (tcells (h ++ [x])) G') (hG : G' = G ∨ ∃ g, G' = some g ∧ w.heap.size ≤ g) :
    ∃ g', A' = some ⟨g', 0, none⟩ ∧ G' = some g' ∧ (G = some g' ∨ w.heap.size ≤ g') ∧ TimersAt (w2.setCell ⟨b, 0, none⟩ (.slice A' (h.length + 1) c')) b (h ++ [x]) n A' c' G' ∧ Tch (fun k => k = b ∨ G = some k) w (w2.setCell ⟨b, 0, none⟩ (.slice A' (h.length + 1) c')) := by
  have hS : Tch (· = b) w2 (w2.setCell ⟨b, 0, none⟩ (.slice A' (h.length + 1) c')) := (Tch.refl (· = b) w2).setCell (p := ⟨b, 0, none⟩) (fun _ => rfl) _
  have hlb := H.blk.lt
  have hn : G' ≠ some b := by
    intro e
    rcases hG with e2 | ⟨g, e2, hg⟩
    · exact H.nb (e2 ▸ e)
    · rw [e2] at e
      injection e with e
      omega
  obtain ⟨g', e1, e2, _⟩ := hs.form (by omega)
  have e : (h ++ [x]).length = h.length + 1 := by simp
  refine ⟨g', e1, e2, ?_, ⟨?_, ?_, hn, by rw [e]; omega⟩, (T.mono (fun _ _ e => .inr e)).trans (hS.mono (fun _ _ e => .inl e))⟩
  · rcases hG with e3 | ⟨g, e3, hg⟩
    · exact .inl (e3 ▸ e2)
    · rw [e3] at e2
      injection e2 with e2
      exact .inr (by omega)
  · rw [e]
    exact (H.blk.keep T H.nb).set 0 _
  · rw [e]
    exact hs.keep hS (fun k hk e => hn (by rw [hk, e]))
theorem TimersAt.count {w : World} {b : Nat} {h : List Tm} {n m : Int} {A : Option Addr} {c : Nat} {G : Option Nat} (H : TimersAt w b h n A c G) : TimersAt (w.setCell ⟨b, 1, none⟩ (.int .i64 m)) b h m A c G ∧ Tch (· = b) w (w.setCell ⟨b, 1, none⟩ (.int .i64 m)) := by
  have hS : Tch (· = b) w (w.setCell ⟨b, 1, none⟩ (.int .i64 m)) := (Tch.refl (· = b) w).setCell (p := ⟨b, 1, none⟩) (fun _ => rfl) _
  exact ⟨⟨H.blk.set 1 _, H.sl.keep hS (fun k hk e => H.nb (by rw [hk, e])), H.nb, H.le⟩, hS⟩

set_option maxHeartbeats 4000000 in
set_option maxRecDepth 100000 in
theorem timer_put (b : Nat) (h : List Tm) (n : Int) (F : Nat → Prop) (due item : Int) (w : World) (H : TimersQ w b h n F) (hH : IsHeap h) (hl : h.length < 64) (hn0 : 0 ≤ n) (hn : n < 4611686018427387904) :
    Calls Try.prog 34 #[.pointer (some ⟨b, 0, none⟩), .int .i64 due, .int .i64 item] w fun e w' => e = .returned (.tuple #[.int .i64 n, .int .i64 0]) ∧ Tch F w w' ∧
      ∃ h' F', TimersQ w' b h' (n + 1) F' ∧ IsHeap h' ∧ h'.Perm (h ++ [(due, n, item)]) ∧ ∀ k, F' k → F k ∨ w.heap.size ≤ k := by
  obtain ⟨A, c, G, H, hF⟩ := H
  have HF := Lib.hid hF
  have hc0 := H.blk.cellOf 0 _ rfl
  have hc1 := H.blk.cellOf 1 _ rfl
  have hb := H.blk
  have hs := H.sl
  have hnb := H.nb
  have hcap := H.sl.cap_le
  have hcA0 : ∀ ob, (w.alloc ob).cell? ⟨b, 0, none⟩ = some (.slice A h.length c) := fun ob => ((Tch.refl NoBlk w).alloc ob).cell' hc0 (fun h => h)
  have hcA1 : ∀ ob, (w.alloc ob).cell? ⟨b, 1, none⟩ = some (.int .i64 n) := fun ob => ((Tch.refl NoBlk w).alloc ob).cell' hc1 (fun h => h)
  have hd64 : decide ((64 : Int) ≤ (h.length : Int)) = false := by simp; omega
  have HH := Lib.hid H
  have HP := Lib.hid (hH.put (due, n, item))
  clear H hF hH
  go_enter Try.func34, Try.ntmps34
  go_wp2_with fail
  go_region_law (refine step_app _ rfl (.tmp 22) (.tmp 30) 92 rfl 96 (.agg #[.int .i64 0, .int .i64 0, .int .i64 0]) 3 24 Try.underlying92 infoTm rfl (by decide) (by decide) A h.length c (tcells h) G (some ⟨w.heap.size, 0, none⟩) 1 1 (tcells [(due, n, item)]) (by simp [Act.eval]) (by simp [Act.eval]) (by exact (hs.alloc _).keep (Tch.refl NoBlk _).drew (fun _ _ h => h)) (by exact (Src.made (sz := 3) w 96 #[.int .i64 due, .int .i64 n, .int .i64 item] 1 rfl).keep (Tch.refl NoBlk _).drew (fun _ _ h => h)) (tcells_one [(due, n, item)]) (by omega) ?_; intro A6 c6 w4 G6 hs6 ht6 hg6; have HS6 := Lib.hid hs6; have HT6 : Hid (Tch (fun k => G = some k) w w4) := Lib.hid (Tch.then ((Tch.refl _ w).alloc _).drew ht6 (fun _ _ h => h)); have HG6 := Lib.hid hg6; have hb6 := hb.keep HT6.out hnb; have hc6 := hb6.cellOf 0 _ rfl; have hf6 := hb6.free 0; clear hs6 ht6 hg6 hb6)
  all_goals
    have hs7 : Sl w4 96 3 A6 (h.length + 1) c6 (tcells (h ++ [(due, n, item)])) G6 := by rw [tcells_app]; exact HS6.out
    have hg7 : G6 = G ∨ ∃ g, G6 = some g ∧ w.heap.size ≤ g := HG6.out.elim .inl (fun ⟨g, h1, h2⟩ => .inr ⟨g, h1, by simp at h2; omega⟩)
    obtain ⟨g', rfl, rfl, hgg, h8, hT8⟩ := HH.out.more HT6.out hl hs7 hg7
    clear hs7 hg7 HS6 HG6 HT6 hc6 hf6
    generalize w4.setCell ⟨b, 0, none⟩ (.slice (some ⟨g', 0, none⟩) (h.length + 1) c6) = w8 at *
    have k1 := h8.blk.cellOf 1 _ rfl
    have q1 := h8.blk.free 1
    obtain ⟨h9, hT9⟩ := h8.count (m := n + 1)
    have k0 : (w8.setCell ⟨b, 1, none⟩ (.int .i64 (n + 1))).cell? ⟨b, 0, none⟩ = some (.slice (some ⟨g', 0, none⟩) (h.length + 1) c6) := by
      have e := h9.blk.cellOf 0 _ rfl
      rw [List.length_append] at e
      exact e
    have H9 := Lib.hid h9
    have HT9 : Hid (Tch F w (w8.setCell ⟨b, 1, none⟩ (.int .i64 (n + 1)))) := Lib.hid ((hT8.mono (fun k _ e => (HF.out k).2 e)).trans (hT9.mono (fun k _ e => (HF.out k).2 (.inl e))))
    have hsz := hT8.size
    clear h8 hT8 h9 hT9 hc0 hc1 hb hs hcA0 hcA1
    go_wp2_with fail
    refine (timer_up b (h ++ [(due, n, item)]) (n + 1) g' c6 h.length _ H9.out HP.out).mono ?_
    rintro e w10 ⟨rfl, h', hA, hI⟩
    have c10 := hA.at_.blk.cellOf 1 _ rfl
    have HA := Lib.hid hA
    have HI := Lib.hid hI
    clear hA hI k0 k1 q1
    go_wp2
    go_ret2
    have hT10 : Tch F w w10 := HT9.out.then HA.out.tch (fun k hk e => by
      subst e
      rcases hgg with e | e
      · exact (HF.out _).2 (.inr e)
      · omega)
    refine ⟨by simp, hT10, h', fun k => k = b ∨ some g' = some k, ⟨_, _, _, HA.out.at_, fun _ => Iff.rfl⟩, HI.out, HA.out.perm, fun k hk => ?_⟩
    rcases hk with hk | hk
    · exact .inl ((HF.out k).2 (.inl hk))
    · injection hk with hk
      subst hk
      rcases hgg with e | e
      · exact .inl ((HF.out _).2 (.inr e))
      · exact .inr e
end Go.Proofs.Ytipbimbnpikbcaa
