/- A token is called off. -/
import Derived.Test.YtipbimbnpikbcaaCanEnd
import Derived.Test.YtipbimbnpikbcaaSort
namespace Go.Proofs.Ytipbimbnpikbcaa
open Go.RowKit

/-- What was told: a row of its own. -/
def CanTold (w w' : World) (e : Ending) (x : List Int) (y : Nat) : Prop :=
  ∃ A cap G, e = .returned (.tuple #[.slice A x.length cap, .int .i64 y]) ∧ Sl w' 3 1 A x.length cap (ints x) G ∧ ∀ g, G = some g → w.heap.size ≤ g

set_option maxHeartbeats 2000000 in
set_option maxRecDepth 100000 in
theorem can_cancel (b : Nat) (ab : List Int) (off : List Bool) (F : Nat → Prop) (id : Int) (w : World) (h : CanQ w b ab off F) :
    Calls Try.prog 49 #[.pointer (some ⟨b, 0, none⟩), .int .i64 id] w fun e w' => CanTold w w' e (tcancelM ab off id).2.1 (tcancelM ab off id).2.2 ∧ Tch F w w' ∧ CanQ w' b ab (tcancelM ab off id).1 F := by
  have HQ := Lib.hid h
  obtain ⟨vs, A, c, G, h, h1, h2, h3, hF⟩ := h
  have HN := Lib.hid (h.keep ((Tch.refl NoBlk w).alloc (.cells #[.pointer (some ⟨b, 0, none⟩)] 59)) (fun _ _ h => h))
  have HH := Lib.hid h
  have H1 := Lib.hid h1
  have H2 := Lib.hid h2
  have H3 := Lib.hid h3
  have HF := Lib.hid hF
  have hl := h.le
  unfold tcancelM
  by_cases hid : 0 ≤ id ∧ id < ab.length
  · rw [if_pos hid]
    obtain ⟨i, rfl⟩ := Int.eq_ofNat_of_zero_le hid.1
    have hi : i < vs.length := by omega
    obtain ⟨g, rfl, rfl, _⟩ := h.sl.form (by omega)
    obtain ⟨W3, hW3⟩ : ∃ W, W = ((w.alloc (.cells #[.pointer (some ⟨b, 0, none⟩)] 59)).alloc (.cells #[.slice none 0 0] 45)).alloc (.cells #[endV w.heap.size (w.heap.size + 1) (w.heap.size + 1 + 1)] 24) := ⟨_, rfl⟩
    have hT3 : Tch NoBlk w W3 := by rw [hW3]; exact (((Tch.refl NoBlk w).alloc _).alloc _).alloc _
    have hE : EndAt w W3 b g vs off c w.heap.size (w.heap.size + 1) (w.heap.size + 1 + 1) [] none 0 none := by
      refine ⟨h.keep hT3 (fun _ _ h => h), ?_, ?_, ?_, Sl.nil _ _ _, Nat.le_refl _, by omega, by omega, by omega, by omega, fun k hk => h.lt k hk, (fun k e => by cases e), Nat.zero_le _, hT3.mono (fun _ _ e => e.elim)⟩
      · rw [hW3]
        exact ((Blk.new w _ [.pointer (some ⟨b, 0, none⟩)]).alloc _).alloc _
      · rw [hW3, ← World.size_alloc w (.cells #[.pointer (some ⟨b, 0, none⟩)] 59)]
        exact (Blk.new _ _ [.slice none 0 0]).alloc _
      · have e2 : w.heap.size + 1 + 1 = ((w.alloc (.cells #[.pointer (some ⟨b, 0, none⟩)] 59)).alloc (.cells #[.slice none 0 0] 45)).heap.size := by simp
        rw [hW3, e2]
        exact Blk.new _ _ [_]
    rw [hW3] at hE
    have HE := Lib.hid hE
    have HC : Hid (ClosedAt ab off i) := Lib.hid (fun p q _ h5 h6 => h3.closed h5 h6)
    rw [Int.toNat_natCast]
    clear h h1 h2 h3 hF hT3 hE hid hW3
    unfold endV at HE
    have hsf := fun (a : Addr) (c : Array Value) (w : World) => run_store Try.prog w a (.func (.func 65) #[] c) .plain rfl
    go_enter Try.func49, Try.ntmps49
    go_wp2_with fail
    refine (canat_there_yes HN.out i hi).mono ?_
    rintro e w0 ⟨rfl, h0⟩; subst w0
    go_wp2_with fail
    refine (end_call w b g vs c w.heap.size (w.heap.size + 1) (w.heap.size + 1 + 1) ab H3.out.wf H1.out H2.out vs.length i off [] none 0 none _ (by omega) hi HC.out HE.out).mono ?_
    rintro e w4 ⟨rfl, os', new, A3, c3, G3, hE4, hM4, hT4⟩
    rw [List.nil_append] at hE4
    obtain ⟨out, hout⟩ : ∃ o, o = new.map (fun (j : Nat) => (j : Int)) := ⟨_, rfl⟩
    rw [← hout] at hE4
    have HO := Lib.hid hout
    have hl4 := hE4.l.cellOf 0 _ rfl
    have HE4 := Lib.hid hE4
    have HT4 := Lib.hid hT4
    have HM4 := Lib.hid hM4
    clear hE4 hT4 hM4 HE hout
    go_wp2_with fail
    refine (sort_ints A3 c3 G3 out w4 HE4.out.sl (by have := HE4.out.le; omega)).mono ?_
    rintro e w5 ⟨rfl, hs5, hT5⟩
    have hl5 := hT5.cell' hl4 (fun e => (HE4.out.g2 _ e).2.2.1 rfl)
    obtain ⟨res, hres⟩ : ∃ r, r = (newOff ab off i).map (fun (j : Nat) => (j : Int)) := ⟨_, rfl⟩
    have hns := told_sort H3.out.wf (by have := H1.out; omega) HT4.out
    rw [← HO.out, ← hres] at hns
    rw [hns] at hs5
    have hnl : out.length = res.length := by rw [← hns]; simp
    rw [hnl] at hs5 hl5
    have HS5 := Lib.hid hs5
    have HRES := Lib.hid hres
    have HT5 := Lib.hid hT5
    clear hs5 hT5 hns hl4 hres hnl
    go_wp2
    go_ret2
    have hT6 : Tch (fun k => k = g) w w5 := HE4.out.tch.then HT5.out (fun k hk e => by have := (HE4.out.g2 k e).1; omega)
    rw [← HRES.out]
    refine ⟨⟨A3, c3, G3, rfl, HS5.out, fun q hq => (HE4.out.g2 q hq).1⟩, hT6.mono (fun k _ e => (HF.out k).2 (.inr (.inl (by rw [e])))), vs, some ⟨g, 0, none⟩, c, some g, ?_, H1.out, H2.out, offWith_ok H3.out i, HF.out⟩
    rw [← marks_with H3.out.wf H3.out.len HM4.out]
    exact HE4.out.can.keep HT5.out (fun k hk e => by have := HE4.out.kf k hk; have := (HE4.out.g2 k e).1; omega)
  · rw [if_neg hid]
    have hid2 : id < 0 ∨ (vs.length : Int) ≤ id := by omega
    clear h h1 h2 h3 hF hid
    go_enter Try.func49, Try.ntmps49
    go_wp2_with fail
    refine (canat_there_no HN.out id hid2).mono ?_
    rintro e w0 ⟨rfl, h0⟩; subst w0
    go_wp2
    go_ret2
    exact ⟨⟨none, 0, none, rfl, Sl.nil _ _ _, fun g e => by cases e⟩, ((Tch.refl F w).alloc _), HQ.out.keep ((Tch.refl NoBlk w).alloc _) (fun _ _ h => h)⟩
end Go.Proofs.Ytipbimbnpikbcaa
