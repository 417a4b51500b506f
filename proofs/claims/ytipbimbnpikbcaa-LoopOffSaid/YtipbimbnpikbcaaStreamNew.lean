/- stream.New; whether two rows of what is told are the same. -/
import Derived.Test.YtipbimbnpikbcaaStream
namespace Go.Proofs.Ytipbimbnpikbcaa
open Go.RowKit

theorem gots_get : ∀ (l : List (Int × Int)) (k : Nat), k < l.length → (gots l)[k * 2]? = some (.int .i64 (l.getD k (0, 0)).1) ∧ (gots l)[k * 2 + 1]? = some (.int .i64 (l.getD k (0, 0)).2)
  | [], k, h => absurd h (by simp)
  | p :: r, 0, _ => ⟨rfl, rfl⟩
  | p :: r, k + 1, h => by
    have := gots_get r k (by simpa using h)
    rw [gots_cons, show (k + 1) * 2 = k * 2 + 1 + 1 from by omega]
    exact this

/-- The first k of four rings lie at vs; the others are none. -/
def four (vs : List Nat) : List Value := vs.map (fun v => Value.pointer (some ⟨v, 0, none⟩)) ++ List.replicate (4 - vs.length) (.pointer none)
theorem four_get (vs : List Nat) (h : vs.length < 4) : (four vs)[vs.length]? = some (.pointer none) := by
  unfold four
  rw [List.getElem?_append_right (by simp), List.length_map, Nat.sub_self, List.getElem?_replicate, if_pos (by omega)]
theorem four_set (vs : List Nat) (g : Nat) (h : vs.length < 4) : (four vs).set vs.length (.pointer (some ⟨g, 0, none⟩)) = four (vs ++ [g]) := by
  unfold four
  rw [List.set_append_right _ _ (by simp)]
  simp only [List.length_map, Nat.sub_self, List.map_append, List.map_cons, List.map_nil, List.length_append, List.length_singleton]
  rw [show 4 - vs.length = (4 - (vs.length + 1)) + 1 from by omega, List.replicate_succ, List.set_cons_zero, List.append_assoc]
  rfl

/-- The row of what is made: where each ring goes, how many it may have. -/
def wants (b room : Nat) : List Value := [.pointer (some ⟨b, 0, none⟩), .int .i64 room, .pointer (some ⟨b, 1, none⟩), .int .i64 64, .pointer (some ⟨b, 2, none⟩), .int .i64 64, .pointer (some ⟨b, 3, none⟩), .int .i64 64]
def most (room k : Nat) : Nat := if k = 0 then room else 64
theorem wants_to (b room k : Nat) (h : k < 4) : (wants b room)[k * 2]? = some (.pointer (some ⟨b, k, none⟩)) := by
  match k, h with
  | 0, _ => rfl
  | 1, _ => rfl
  | 2, _ => rfl
  | 3, _ => rfl
theorem wants_most (b room k : Nat) (h : k < 4) : (wants b room)[k * 2 + 1]? = some (.int .i64 (most room k)) := by
  match k, h with
  | 0, _ => rfl
  | 1, _ => rfl
  | 2, _ => rfl
  | 3, _ => rfl

/-- While the rings are made. -/
structure Made (w0 w : World) (b t room : Nat) (vs : List Nat) : Prop where
  blk : Blk w b 108 (four vs)
  row : ∀ i u, (wants b room)[i]? = some u → w.cell? ⟨t, i, none⟩ = some u
  bt : b ≠ t
  nd : vs.Nodup
  ring : ∀ k v, vs[k]? = some v → RingQ w v (most room k) [] ∧ v ≠ b ∧ v ≠ t ∧ w0.heap.size ≤ v
  bb : w0.heap.size ≤ b ∧ t < w.heap.size
  tch : Tch NoBlk w0 w

theorem Made.next {w0 w w1 w2 : World} {b t room g : Nat} {vs : List Nat} (h : Made w0 w b t room vs) (hk : vs.length < 4) (hT : Tch NoBlk w w1) (hg : w.heap.size ≤ g) (hR : RingQ w1 g (most room vs.length) [])
    (he : w2 = w1.setCell ⟨b, vs.length, none⟩ (.pointer (some ⟨g, 0, none⟩))) : Made w0 w2 b t room (vs ++ [g]) := by
  subst he
  have hb1 := h.blk.keep hT (fun h => h)
  have hlb := h.blk.lt
  have hlt : ∀ v ∈ vs, v < w.heap.size := by
    intro v hv
    obtain ⟨k, hk, hkv⟩ := List.mem_iff_getElem.1 hv
    exact (h.ring k v (by rw [List.getElem?_eq_getElem hk, hkv])).1.lt
  have hS : Tch (· = b) w1 (w1.setCell ⟨b, vs.length, none⟩ (.pointer (some ⟨g, 0, none⟩))) := (Tch.refl (· = b) w1).setCell (p := ⟨b, vs.length, none⟩) (fun _ => rfl) _
  have h0 := h.tch.size
  have h1 := hT.size
  refine ⟨?_, fun i u hu => ?_, h.bt, ?_, fun k v hv => ?_, ⟨h.bb.1, by have := h.bb.2; have := hS.size; omega⟩, ?_⟩
  · rw [← four_set _ _ hk]
    exact hb1.set _ _
  · exact hS.cell' (hT.cell' (h.row i u hu) (fun h => h)) (Ne.symm h.bt)
  · rw [List.nodup_append]
    refine ⟨h.nd, by simp, ?_⟩
    intro a ha c hc
    simp at hc
    subst hc
    have := hlt a ha
    omega
  · by_cases hkl : k < vs.length
    · rw [List.getElem?_append_left hkl] at hv
      obtain ⟨r1, r2, r3, r4⟩ := h.ring k v hv
      exact ⟨(r1.keep hT (fun h => h)).keep hS r2, r2, r3, r4⟩
    · rw [List.getElem?_append_right (by omega)] at hv
      have hk0 : k - vs.length = 0 := by
        cases hd : k - vs.length with
        | zero => rfl
        | succ n => rw [hd] at hv; simp at hv
      rw [hk0] at hv
      simp at hv
      subst hv
      have hkk : k = vs.length := by omega
      subst hkk
      have hgb : g ≠ b := by omega
      exact ⟨hR.keep hS hgb, hgb, by have := h.bb.2; omega, by omega⟩
  · exact (h.tch.trans hT).then hS (fun i hi e => by have := h.bb.1; omega)

theorem Made.done {w0 w : World} {b t room : Nat} {vs : List Nat} (h : Made w0 w b t room vs) (hl : vs.length = 4) : ∃ F, StreamQ w b room ⟨[], [], []⟩ F ∧ ∀ i, F i → w0.heap.size ≤ i := by
  obtain ⟨v, r, k, s, rfl⟩ : ∃ v r k s, vs = [v, r, k, s] := by
    match vs, hl with
    | [v, r, k, s], _ => exact ⟨v, r, k, s, rfl⟩
  obtain ⟨a1, a2, _, a4⟩ := h.ring 0 v rfl
  obtain ⟨b1, b2, _, b4⟩ := h.ring 1 r rfl
  obtain ⟨c1, c2, _, c4⟩ := h.ring 2 k rfl
  obtain ⟨d1, d2, _, d4⟩ := h.ring 3 s rfl
  have hn := h.nd
  simp only [List.nodup_cons, List.mem_cons, List.not_mem_nil, or_false, not_or, not_false_eq_true, List.nodup_nil, and_true] at hn
  obtain ⟨⟨m1, m2, m3⟩, ⟨m4, m5⟩, m6⟩ := hn
  refine ⟨fun i => i = b ∨ i = v ∨ i = r ∨ i = k ∨ i = s, ⟨v, r, k, s, ⟨h.blk, a1, b1, c1, d1, Ne.symm a2, Ne.symm b2, Ne.symm c2, Ne.symm d2, m1, m2, m3, m4, m5, m6⟩, fun i => Iff.rfl⟩, fun i hi => ?_⟩
  rcases hi with rfl | rfl | rfl | rfl | rfl
  · exact h.bb.1
  · exact a4
  · exact b4
  · exact c4
  · exact d4

theorem stream_new_no (m : Int) (w : World) (h : m < 1 ∨ 32 < m) :
    Calls Try.prog 40 #[.int .i64 m] w fun e w' => e = .returned (.tuple #[.pointer none, .int .i64 1]) ∧ w' = w := by
  by_cases h1 : m < 1
  · go_enter Try.func40, Try.ntmps40
    go_wp2
    go_ret2
    exact ⟨rfl, rfl⟩
  · have h2 : 32 < m := by omega
    clear h
    go_enter Try.func40, Try.ntmps40
    go_wp2
    go_ret2
    exact ⟨rfl, rfl⟩

theorem stream_new_yes (room : Nat) (w : World) (h1 : 1 ≤ room) (h2 : room ≤ 32) :
    Calls Try.prog 40 #[.int .i64 room] w fun e w' => ∃ b F, e = .returned (.tuple #[.pointer (some ⟨b, 0, none⟩), .int .i64 0]) ∧ StreamQ w' b room ⟨[], [], []⟩ F ∧ (∀ i, F i → w.heap.size ≤ i) ∧ Tch NoBlk w w' := by
  have hd1 : decide ((room : Int) < 1) = false := by simp; omega
  have hd2 : decide ((32 : Int) < (room : Int)) = false := by simp; omega
  go_enter Try.func40, Try.ntmps40
  go_wp2_with fail
  have hbA : Blk (w.alloc (.cells #[.pointer none, .pointer none, .pointer none, .pointer none] 108)) w.heap.size 108 (four []) := heap_alloc_new w _
  have hTA := (Tch.refl NoBlk w).alloc (.cells #[.pointer none, .pointer none, .pointer none, .pointer none] 108)
  generalize hb : w.heap.size = b at *
  generalize w.alloc (.cells #[.pointer none, .pointer none, .pointer none, .pointer none] 108) = wA at *
  go_region
  have hM : Made w (wA.alloc (.cells #[.pointer (some ⟨b, 0, none⟩), .int .i64 room, .pointer (some ⟨b, 1, none⟩), .int .i64 64, .pointer (some ⟨b, 2, none⟩), .int .i64 64, .pointer (some ⟨b, 3, none⟩), .int .i64 64] 110)).drew b wA.heap.size room [] := by
    have hN := ((Tch.refl NoBlk wA).alloc (.cells #[.pointer (some ⟨b, 0, none⟩), .int .i64 room, .pointer (some ⟨b, 1, none⟩), .int .i64 64, .pointer (some ⟨b, 2, none⟩), .int .i64 64, .pointer (some ⟨b, 3, none⟩), .int .i64 64] 110)).drew
    have hR : Blk (wA.alloc (.cells #[.pointer (some ⟨b, 0, none⟩), .int .i64 room, .pointer (some ⟨b, 1, none⟩), .int .i64 64, .pointer (some ⟨b, 2, none⟩), .int .i64 64, .pointer (some ⟨b, 3, none⟩), .int .i64 64] 110)).drew wA.heap.size 110 (wants b room) := heap_alloc_new wA _
    have hl := hbA.lt
    refine ⟨hbA.keep hN (fun h => h), fun i u hu => hR.cellOf i u hu, by omega, List.nodup_nil, fun k v hv => by simp at hv, ⟨by omega, hR.lt⟩, hTA.trans hN⟩
  go_wp2_with fail
  generalize (wA.alloc (.cells #[.pointer (some ⟨b, 0, none⟩), .int .i64 room, .pointer (some ⟨b, 1, none⟩), .int .i64 64, .pointer (some ⟨b, 2, none⟩), .int .i64 64, .pointer (some ⟨b, 3, none⟩), .int .i64 64] 110)).drew = wB at *
  generalize wA.heap.size = t at *
  clear hTA hbA hb
  go_loopw [36] (fun i wr => ∃ (k : Nat) (vs : List Nat), i = .int .i64 k ∧ k ≤ 4 ∧ vs.length = k ∧ Made w wr b t room vs) (fun i _ => 4 - (intOf i).toNat)
  case atStart => exact ⟨0, [], rfl, by omega, rfl, hM⟩
  case round =>
    clear hM
    obtain ⟨k, vs, rfl, hk, hl, hM⟩ := hrel
    have HL := Lib.hid hl
    by_cases hlt : k < 4
    · have hc1 := hM.row (k * 2) _ (wants_to b room k hlt)
      have hc2 := hM.row (k * 2 + 1) _ (wants_most b room k hlt)
      have hm1 : 1 ≤ most room k ∧ most room k ≤ 256 := by unfold most; split <;> omega
      go_wp2_with fail
      refine (ring_new_yes (most room k) _ hm1.1 hm1.2).mono ?_
      rintro e w5 ⟨g, rfl, hg, hR, hT⟩
      have hx := Blk.new wr 110 [.pointer (some ⟨b, k, none⟩), .int .i64 (most room k)]
      have hx5 := (hx.keep hT (fun h => h)).cellOf 0 _ rfl
      have hT5 : Tch NoBlk wr w5 := ((Tch.refl NoBlk wr).alloc _).trans hT
      have hb5 := hM.blk.keep hT5 (fun h => h)
      have hf5 := hb5.free k
      have hc5 : w5.cell? ⟨b, k, none⟩ = some (.pointer none) := hb5.cellOf k _ (hl ▸ four_get vs (by omega))
      simp only [World.size_alloc] at hg
      have HN : Hid (Made w (w5.setCell ⟨b, k, none⟩ (.pointer (some ⟨g, 0, none⟩))) b t room (vs ++ [g])) := Lib.hid (hM.next (by omega) hT5 (by omega) (by rw [hl]; exact hR) (by rw [hl]))
      clear hM hc1 hc2 hx hT hb5 hT5 hR
      go_wp2
      go_roundw
      case rel => exact ⟨k + 1, vs ++ [g], num (by omega), by omega, by simp [HL.out], HN.out⟩
      case measure => simp [intOf]; omega
    · have hk4 : k = 4 := by omega
      obtain ⟨F, h1, h2⟩ := hM.done (by omega)
      have hT := Lib.hid hM.tch
      have H1 := Lib.hid h1
      have H2 := Lib.hid h2
      clear hM h1 h2 hl HL
      go_wp2
      go_ret2
      exact ⟨b, F, rfl, H1.out, H2.out, hT.out⟩
end Go.Proofs.Ytipbimbnpikbcaa
