import Derived.Test.YtipbimbnpikbcaaGreatMg22
import Derived.Deep.CutRange
/- The document's tree: a token is made, and called off. -/
namespace Go.Proofs.YtipbimbnpikbcaaGreat
open Go.RowKit

section
variable {w w6 w8 : World} {b o : Nat} {ty : TypeId} {cs : List Value} {ab : List Int} {off gone : List Bool} {F : Nat → Prop} {A : Option Addr} {c : Nat} {G : Option Nat} {A' : Option Addr} {c' : Nat} {G' : Option Nat}
/-- The row of those above is longer by one; the other not yet. -/
structure RefTreeMid (w : World) (b : Nat) (ty : TypeId) (cs : List Value) (o : Nat) (ab : List Int) (gone : List Bool) (A : Option Addr) (c : Nat) (G : Option Nat) (A' : Option Addr) (c' : Nat) (G' : Option Nat) : Prop where
  blk : Blk w b ty cs
  at0 : cs[o]? = some (.slice A ab.length c)
  at1 : cs[o + 1]? = some (.slice A' gone.length c')
  sl : Sl w 3 1 A ab.length c (ints ab) G
  sl2 : Sl w 4 1 A' gone.length c' (bools gone) G'
  nb : G ≠ some b
  nb2 : G' ≠ some b
  ne : ∀ g, G = some g → G' ≠ some g
theorem RefTreeAt.above (h : RefTreeAt w b ty cs o ab gone A c G A' c' G') (x : Int) {A6 : Option Addr} {c6 : Nat} {G6 : Option Nat} (T : Tch (fun k => G = some k) w w6) (hs : Sl w6 3 1 A6 (ab.length + 1) c6 (ints ab ++ [.int .i64 x]) G6) (hG : G6 = G ∨ ∃ g, G6 = some g ∧ w.heap.size ≤ g) :
    RefTreeMid (w6.setCell ⟨b, o, none⟩ (.slice A6 (ab.length + 1) c6)) b ty (cs.set o (.slice A6 (ab.length + 1) c6)) o (ab ++ [x]) gone A6 c6 G6 A' c' G' ∧ Tch (fun k => k = b ∨ G = some k) w (w6.setCell ⟨b, o, none⟩ (.slice A6 (ab.length + 1) c6)) ∧ ∀ k, G6 = some k → G = some k ∨ w.heap.size ≤ k := by
  have hS : Tch (· = b) w6 (w6.setCell ⟨b, o, none⟩ (.slice A6 (ab.length + 1) c6)) := (Tch.refl (· = b) w6).setCell (p := ⟨b, o, none⟩) (fun _ => rfl) _
  have hlb := h.blk.lt
  have hn : ∀ k, G6 = some k → G = some k ∨ w.heap.size ≤ k := fun k e => by
    rcases hG with e2 | ⟨g, e2, hg⟩
    · exact .inl (e2 ▸ e)
    · rw [e2] at e
      injection e with e
      exact .inr (by omega)
  have hn6 : G6 ≠ some b := fun e => (hn b e).elim h.nb (fun e => by omega)
  have hol : o < cs.length := (List.getElem?_eq_some_iff.1 h.at0).1
  have e1 : (ab ++ [x]).length = ab.length + 1 := by simp
  refine ⟨⟨(h.blk.keep T h.nb).set o _, by rw [e1]; simp [hol], ?_, ?_, (h.sl2.keep T (fun g hg e => h.ne g e hg)).keep hS (fun g hg e => h.nb2 (by rw [hg, e])), hn6, h.nb2, fun g hg e => ?_⟩, (T.mono (fun _ _ e => .inr e)).trans (hS.mono (fun _ _ e => .inl e)), hn⟩
  · rw [List.getElem?_set_ne (by omega)]
    exact h.at1
  · rw [e1, ints, List.map_append]
    exact hs.keep hS (fun g hg e => hn6 (by rw [hg, e]))
  · rcases hn g hg with e2 | e2
    · exact h.ne g e2 e
    · have := h.sl2.lt g e
      omega
theorem RefTreeMid.goneMore (h : RefTreeMid w b ty cs o ab gone A c G A' c' G') (hl : gone.length + 1 = ab.length) {A6 : Option Addr} {c6 : Nat} {G6 : Option Nat} (T : Tch (fun k => G' = some k) w w6) (hs : Sl w6 4 1 A6 (gone.length + 1) c6 (bools gone ++ [.bool false]) G6) (hG : G6 = G' ∨ ∃ g, G6 = some g ∧ w.heap.size ≤ g) :
    RefTreeAt (w6.setCell ⟨b, o + 1, none⟩ (.slice A6 (gone.length + 1) c6)) b ty (cs.set (o + 1) (.slice A6 (gone.length + 1) c6)) o ab (gone ++ [false]) A c G A6 c6 G6 ∧ Tch (fun k => k = b ∨ G' = some k) w (w6.setCell ⟨b, o + 1, none⟩ (.slice A6 (gone.length + 1) c6)) ∧ ∀ k, G6 = some k → G' = some k ∨ w.heap.size ≤ k := by
  have hS : Tch (· = b) w6 (w6.setCell ⟨b, o + 1, none⟩ (.slice A6 (gone.length + 1) c6)) := (Tch.refl (· = b) w6).setCell (p := ⟨b, o + 1, none⟩) (fun _ => rfl) _
  have hlb := h.blk.lt
  have hn : ∀ k, G6 = some k → G' = some k ∨ w.heap.size ≤ k := fun k e => by
    rcases hG with e2 | ⟨g, e2, hg⟩
    · exact .inl (e2 ▸ e)
    · rw [e2] at e
      injection e with e
      exact .inr (by omega)
  have hn6 : G6 ≠ some b := fun e => (hn b e).elim h.nb2 (fun e => by omega)
  have hol : o + 1 < cs.length := (List.getElem?_eq_some_iff.1 h.at1).1
  have e1 : (gone ++ [false]).length = gone.length + 1 := by simp
  refine ⟨⟨(h.blk.keep T h.nb2).set (o + 1) _, ?_, by rw [e1]; simp [hol], (h.sl.keep T (fun g hg e => h.ne g hg e)).keep hS (fun g hg e => h.nb (by rw [hg, e])), ?_, h.nb, hn6, fun g hg e => ?_, by rw [e1]; exact hl⟩, (T.mono (fun _ _ e => .inr e)).trans (hS.mono (fun _ _ e => .inl e)), hn⟩
  · rw [List.getElem?_set_ne (by omega)]
    exact h.at0
  · rw [e1, bools, List.map_append]
    exact hs.keep hS (fun g hg e => hn6 (by rw [hg, e]))
  · rcases hn g e with e2 | e2
    · exact h.ne g hg e2
    · have := h.sl.lt g hg
      omega
end

set_option maxHeartbeats 2000000 in
set_option maxRecDepth 100000 in
theorem reftree_make (b o : Nat) (ty : TypeId) (cs : List Value) (ab : List Int) (off : List Bool) (F : Nat → Prop) (above : Int) (w : World) (h : RefTreeQ w b ty cs o ab off F) :
    Calls Tryz.prog 68 #[.pointer (some ⟨b, o, none⟩), .int .i64 above] w fun e w' => e = .returned (.tuple #[.int .i64 (tmakeM ab off above).2.1, .int .i64 (tmakeM ab off above).2.2]) ∧ RefTreeLeft w w' b ty cs o F (tmakeM ab off above).1.1 (tmakeM ab off above).1.2 := by
  have HQ := Lib.hid h
  obtain ⟨gone, A, c, G, A', c', G', h, h1, h2, hF⟩ := h
  have hc := h.blk.cellOf o _ h.at0
  have hle := h1.le
  have hcap := h.sl.cap_le
  have HM := Lib.hid (tmakeM_ok h1 above)
  unfold tmakeM at HM ⊢
  by_cases hn : above ≠ -1 ∧ ¬ (0 ≤ above ∧ above < ab.length)
  · rw [if_pos hn]
    by_cases h0 : above < -1
    · have hd : decide (above < -1) = true := by simpa using h0
      clear h h1 h2 hF hn h0 HM
      go_enter Tryz.func68, Tryz.ntmps68
      go_wp2
      go_ret2
      exact ⟨rfl, HQ.out.left (Tch.refl _ _)⟩
    · have hd : decide (above < -1) = false := by simpa using h0
      have hd2 : decide ((ab.length : Int) ≤ above) = true := by simp; omega
      clear h h1 h2 hF hn h0 HM
      go_enter Tryz.func68, Tryz.ntmps68
      go_wp2
      go_ret2
      exact ⟨rfl, HQ.out.left (Tch.refl _ _)⟩
  · rw [if_neg hn] at HM ⊢
    have hd : decide (above < -1) = false := by simp; omega
    have hd2 : decide ((ab.length : Int) ≤ above) = false := by simp; omega
    by_cases hl : 1024 ≤ ab.length
    · rw [if_pos hl]
      have hl2 : ab.length = 1024 := by omega
      rw [hl2] at hc hd2
      have hd3 : decide ((1024 : Int) ≤ above) = false := by simp; omega
      clear h h1 h2 hF hn HM
      go_enter Tryz.func68, Tryz.ntmps68
      go_wp2
      go_ret2
      exact ⟨rfl, HQ.out.left (Tch.refl _ _)⟩
    · rw [if_neg hl] at HM ⊢
      have hx : above = -1 ∨ 0 ≤ above ∧ above < ab.length := by
        by_cases e : above = -1
        · exact .inl e
        · right
          by_cases h : 0 ≤ above ∧ above < ab.length
          · exact h
          · exact absurd ⟨e, h⟩ hn
      have HO := Lib.hid (offOf_make h1 h.len h2 above hx)
      have hd64 : decide ((1024 : Int) ≤ (ab.length : Int)) = false := by simp; omega
      have hd64n : decide (1024 ≤ ab.length) = false := by simp; omega
      have hs := h.sl
      have hb := h.blk
      have hnb := h.nb
      have hat := h.at0
      have hgl := h.len
      have HGL := Lib.hid hgl
      have hgle : gone.length ≤ 1024 := by omega
      have HH := Lib.hid h
      have HF := Lib.hid hF
      clear h h1 h2 hF hn hl hx hgl
      go_enter Tryz.func68, Tryz.ntmps68
      go_upto_region 6 with (at_builtin; refine wpList_app _ rfl (.tmp 27) (.tmp 29) 52 rfl 3 (.int .i64 0) 1 8 Tryz.underlying52 infoInt rfl (by decide) (by decide) _ _ _ _ _ _ _ _ _ rfl rfl (hs.alloc _) (Src.made w 3 #[.int .i64 above] 1 rfl) (ints_one [above]) (by omega) ?_; intro A6 c6 w6 G6 hs6 ht6 hg6; have HS6 := Lib.hid hs6; have HT6 : Hid (Tch (fun k => G = some k) w w6) := Lib.hid (Tch.then ((Tch.refl _ w).alloc _) ht6 (fun _ _ h => h)); have HG6 := Lib.hid hg6; have hb6 := hb.keep HT6.out hnb; have hc6 := hb6.cellOf o _ hat; have hf6 := hb6.free o; clear hs6 ht6 hg6 hb6)
      obtain ⟨h7, hT7, hN7⟩ := HH.out.above above HT6.out HS6.out (HG6.out.elim .inl (fun ⟨g, e1, e2⟩ => .inr ⟨g, e1, by simp at e2; omega⟩))
      clear HS6 HT6 HG6 hc6 hf6 hs hb hat hc
      generalize w6.setCell ⟨b, o, none⟩ (.slice A6 (ab.length + 1) c6) = w7 at *
      have hc7 := h7.blk.cellOf o _ h7.at0
      have hc8 := h7.blk.cellOf (o + 1) _ h7.at1
      have hs7 := h7.sl2
      have hb7 := h7.blk
      have hat7 := h7.at1
      have hat70 := h7.at0
      have hnb7 := h7.nb2
      have H7 := Lib.hid h7
      have HT7 := Lib.hid hT7
      have HN7 := Lib.hid hN7
      rw [List.length_append, List.length_singleton] at hc7 hat70
      clear h7 hT7 hN7
      go_wp2_with (at_builtin; refine wpList_app _ rfl (.tmp 37) (.tmp 38) 53 rfl 4 (.bool false) 1 1 Tryz.underlying53 infoBool rfl (by decide) (by decide) _ _ _ _ _ _ _ _ _ rfl rfl (hs7.alloc _) (Src.made w7 4 #[.bool false] 1 rfl) (bools_one [false]) (by omega) ?_; intro A9 c9 w9 G9 hs9 ht9 hg9; have HS9 := Lib.hid hs9; have HT9 : Hid (Tch (fun k => G' = some k) w7 w9) := Lib.hid (Tch.then ((Tch.refl _ w7).alloc _) ht9 (fun _ _ h => h)); have HG9 := Lib.hid hg9; have hb9 := hb7.keep HT9.out hnb7; have hc9 := hb9.cellOf (o + 1) _ hat7; have hc90 := hb9.cellOf o _ hat70; have hf9 := hb9.free (o + 1); clear hs9 ht9 hg9 hb9)
      go_ret2
      obtain ⟨h10, hT10, hN10⟩ := H7.out.goneMore (by have := HGL.out; simp; omega) HT9.out HS9.out (HG9.out.elim .inl (fun ⟨g, e1, e2⟩ => .inr ⟨g, e1, by simp at e2; omega⟩))
      refine ⟨by simp, (HT7.out.mono (fun k _ e => (HF.out k).2 (e.elim .inl (fun e => .inr (.inl e))))).trans (hT10.mono (fun k _ e => (HF.out k).2 (e.elim .inl (fun e => .inr (.inr e))))), .slice A6 (ab.length + 1) c6, .slice A9 (gone.length + 1) c9, fun k => k = b ∨ G6 = some k ∨ G9 = some k, ?_, fun k hk => ?_⟩
      · exact ⟨gone ++ [false], A6, c6, G6, A9, c9, G9, h10, HM.out, HO.out, fun _ => Iff.rfl⟩
      · have := HT7.out.size
        rcases hk with e | e | e
        · exact .inl ((HF.out k).2 (.inl e))
        · exact (HN7.out k e).imp_left (fun e => (HF.out k).2 (.inr (.inl e)))
        · rcases hN10 k e with e | e
          · exact .inl ((HF.out k).2 (.inr (.inr e)))
          · exact .inr (by omega)

/-- Those told among the first i. -/
def newTo (ab : List Int) (off : List Bool) (c i : Nat) : List Int := ((List.range i).filter fun j => comes ab c j && !off.getD j false).map fun (j : Nat) => (j : Int)
theorem newTo_snoc (ab : List Int) (off : List Bool) (c i : Nat) : newTo ab off c (i + 1) = newTo ab off c i ++ if (comes ab c i && !off.getD i false) = true then [(i : Int)] else [] := by
  simp only [newTo, List.range_succ, List.filter_append, List.map_append]
  congr 1
  rw [List.filter_cons, List.filter_nil]
  split <;> rfl
theorem newTo_le (ab : List Int) (off : List Bool) (c i : Nat) : (newTo ab off c i).length ≤ i := by
  rw [newTo, List.length_map]
  exact Nat.le_trans (List.length_filter_le _ _) (by simp)
/-- What was told: a row of its own. -/
def RefTold (w w' : World) (e : Ending) (x : List Int) (y : Nat) : Prop :=
  ∃ A cap G, e = .returned (.tuple #[.slice A x.length cap, .int .i64 y]) ∧ Sl w' 3 1 A x.length cap (ints x) G ∧ ∀ g, G = some g → w.heap.size ≤ g

section
variable {w w' : World} {b o : Nat} {ty : TypeId} {cs : List Value} {ab : List Int} {off gone : List Bool} {A : Option Addr} {c : Nat} {G : Option Nat} {A' : Option Addr} {c' : Nat} {g' : Nat}
/-- One is called off by itself. -/
theorem RefTreeAt.mark (h : RefTreeAt w b ty cs o ab gone A c G A' c' (some g')) (i : Nat) : RefTreeAt (w.setCell ⟨g', i, none⟩ (.bool true)) b ty cs o ab (gone.set i true) A c G A' c' (some g') ∧ Tch (· = g') w (w.setCell ⟨g', i, none⟩ (.bool true)) := by
  have T := h.sl2.setT i (.bool true)
  refine ⟨⟨h.blk.keep T (fun e => h.nb2 (by rw [e])), h.at0, by rw [List.length_set]; exact h.at1, h.sl.keep T (fun g hg e => h.ne g hg (by rw [e])), ?_, h.nb, h.nb2, h.ne, by rw [List.length_set]; exact h.len⟩, T⟩
  rw [List.length_set, ← bools_set]
  exact h.sl2.set i _
end

set_option maxHeartbeats 4000000 in
set_option maxRecDepth 100000 in
theorem reftree_cancel (b o : Nat) (ty : TypeId) (cs : List Value) (ab : List Int) (off : List Bool) (F : Nat → Prop) (id : Int) (w : World) (h : RefTreeQ w b ty cs o ab off F) :
    Calls Tryz.prog 71 #[.pointer (some ⟨b, o, none⟩), .int .i64 id] w fun e w' => RefTold w w' e (tcancelM ab off id).2.1 (tcancelM ab off id).2.2 ∧ Tch F w w' ∧ RefTreeQ w' b ty cs o ab (tcancelM ab off id).1 F := by
  have HQ := Lib.hid h
  obtain ⟨gone, A, c, G, A', c', G', h, h1, h2, hF⟩ := h
  have hc := h.blk.cellOf o _ h.at0
  have hle := h1.le
  have hcap := h.sl.cap_le
  unfold tcancelM
  by_cases hid : 0 ≤ id ∧ id < ab.length
  · rw [if_pos hid]
    obtain ⟨i, rfl⟩ := Int.eq_ofNat_of_zero_le hid.1
    have hi : i < ab.length := by omega
    have hi64 : i < 1024 := by omega
    have HH := Lib.hid h
    have H1 := Lib.hid h1
    have H2 := Lib.hid h2
    have HF := Lib.hid hF
    have hd1 : decide ((ab.length : Int) ≤ (i : Int)) = false := by simp; omega
    have hd2 : decide ((i : Int) < 0) = false := by simp
    rw [Int.toNat_natCast]
    have HL := Lib.hid h.len
    clear h h1 h2 hF hid
    go_enter Tryz.func71, Tryz.ntmps71
    go_wp2_with (at_make; refine wpList_mk rfl _ _ _ rfl 4 (.bool false) 1 Tryz.underlying53 infoBool rfl ab.length rfl rfl (by omega) (by omega) ?_; intro w3 hs3 ht3; have HS3 : Hid (Sl w3 4 1 (some ⟨w.heap.size, 0, none⟩) ab.length ab.length (bools (List.replicate ab.length false)) (some w.heap.size)) := Lib.hid (by rw [bools, List.map_replicate]; exact hs3); have HT3 := Lib.hid ht3; clear hs3 ht3)
    have HB := Lib.hid (fun k (hk : F k) => HQ.out.lt k hk)
    generalize hwb : w.heap.size = wb at *
    have HZ : Hid (∀ j, j < 0 → (List.replicate ab.length false).getD j false = off.getD j false) := Lib.hid (fun j hj => by omega)
    go_loopw [7] (fun y wr => ∃ (m : Nat) (ws : List Bool), y = .int .i64 m ∧ m ≤ ab.length ∧ ws.length = ab.length ∧ Sl wr 4 1 (some ⟨wb, 0, none⟩) ab.length ab.length (bools ws) (some wb) ∧ Tch NoBlk w wr ∧ ∀ j, j < m → ws.getD j false = off.getD j false) (fun y _ => ab.length - (intOf y).toNat)
    case atStart => exact ⟨0, _, rfl, Nat.zero_le _, by simp, HS3.out, HT3.out, HZ.out⟩
    case round =>
      clear HS3 HT3 HZ
      obtain ⟨m, ws, rfl, hm, hwl, hs, hT, hW⟩ := hrel
      have hcr := hT.cell' hc (fun h => h)
      by_cases hlt : m < ab.length
      · have HR := Lib.hid (HQ.out.keep hT (fun _ _ h => h))
        have hm64 : m < 1024 := by omega
        have hf := hs.free m
        obtain ⟨v5, hv5⟩ : ∃ v, wr.cell? ⟨wb, m, none⟩ = some v := by
          obtain ⟨g', e1, _, hcl⟩ := hs.cells (by omega)
          injection e1 with e1
          injection e1 with e1
          subst e1
          exact ⟨_, hcl _ _ (bools_get ws m (by omega))⟩
        have e1 : toffM off (m : Int) = off.getD m false := by simp [toffM]
        have HS : Hid (Sl (wr.setCell ⟨wb, m, none⟩ (.bool (off.getD m false))) 4 1 (some ⟨wb, 0, none⟩) ab.length ab.length (bools (ws.set m (off.getD m false))) (some wb)) := Lib.hid (by rw [← bools_set]; exact hs.set m _)
        have HT : Hid (Tch NoBlk w (wr.setCell ⟨wb, m, none⟩ (.bool (off.getD m false)))) := Lib.hid (hT.setCell (fun h => by dsimp only at h; omega) _)
        have HW : Hid (∀ j, j < m + 1 → (ws.set m (off.getD m false)).getD j false = off.getD j false) := Lib.hid (fun j hj => by
          rw [bools_set_get _ _ _ _ (by omega)]
          by_cases e : j = m
          · rw [if_pos e, e]
          · rw [if_neg e]
            exact hW j (by omega))
        have hwl2 : (ws.set m (off.getD m false)).length = ab.length := by rw [List.length_set]; exact hwl
        have HWL := Lib.hid hwl2
        clear hs hT hW hwl hwl2
        generalize ws.set m (off.getD m false) = ws2 at *
        generalize off.getD m false = om at *
        go_wp2_with fail
        refine (reftree_off b o ty cs ab off F m wr HR.out).mono ?_
        rw [e1]
        rintro e w4 ⟨rfl, h0⟩; subst w4
        go_wp2
        go_roundw
        case rel => exact ⟨m + 1, ws2, num (by omega), by omega, HWL.out, HS.out, HT.out, HW.out⟩
        case measure => simp [intOf]; omega
      · obtain rfl : m = ab.length := by omega
        clear hlt hm
        have hA := HH.out.keep hT (fun h => h) (fun _ _ h => h) (fun _ _ h => h)
        obtain ⟨g', e1, e2, hcl⟩ := hA.sl2.cells (by have := HL.out; omega)
        have HG' := Lib.hid e2
        subst e2
        obtain ⟨hM, hTM⟩ := hA.mark i
        have hf := hA.sl2.free i
        have hcg := hcl _ _ (bools_get gone i (by have := HL.out; omega))
        have hc1 := hA.blk.cellOf (o + 1) _ hA.at1
        rw [HL.out] at hc1
        rw [e1] at hc1
        have hgcap := hA.sl2.cap_le
        rw [HL.out] at hgcap
        have hgb : ¬ b = g' := fun e => hA.nb2 (by rw [e])
        have hwbg : ¬ wb = g' := fun e => by have := HB.out g' ((HF.out g').2 (.inr (.inr rfl))); omega
        have HS := Lib.hid (hs.keep hTM (fun k hk e => by injection hk with hk; omega))
        have HT : Hid (Tch (· = g') w (wr.setCell ⟨g', i, none⟩ (.bool true))) := Lib.hid ((hT.mono (fun _ _ e => e.elim)).trans hTM)
        have HO := Lib.hid (offOf_cancel H1.out HL.out H2.out i hi)
        have HOK := Lib.hid (offWith_ok H1.out i)
        have HMM := Lib.hid hM
        have HWS := Lib.hid hW
        have HWL := Lib.hid hwl
        clear hA hcl hM hTM hs hT hW hwl
        go_upto_region 9 with fail
        generalize wr.setCell ⟨g', i, none⟩ (.bool true) = w5 at *
        have HQ5 : Hid (RefTreeQ w5 b ty cs o ab (offWith ab off i) F) := Lib.hid ⟨gone.set i true, A, c, G, A', c', some g', HMM.out, HOK.out, HO.out, HF.out⟩
        have hc5 := HMM.out.blk.cellOf o _ HMM.out.at0
        clear hf hcg hc1 hcr
        go_wp2_with fail
        go_loopw [8, 9] (fun x y wr => ∃ (m : Nat) (row : List Int) (A8 : Option Addr) (c8 : Nat) (G8 : Option Nat), y = .int .i64 m ∧ m ≤ ab.length ∧ x = .slice A8 row.length c8 ∧ row = newTo ab off i m ∧ Sl wr 3 1 A8 row.length c8 (ints row) G8 ∧ (∀ k, G8 = some k → wb ≤ k ∧ w5.heap.size ≤ k) ∧ Tch NoBlk w5 wr) (fun _ y _ => ab.length - (intOf y).toNat)
        case atStart => exact ⟨0, [], none, 0, none, rfl, Nat.zero_le _, rfl, rfl, Sl.nil _ _ _, (fun k e => by cases e), Tch.refl _ _⟩
        case round =>
          clear hc5
          obtain ⟨m, row, A8, c8, G8, rfl, hm, rfl, hrow, hs, hG8, hT⟩ := hrel
          have hcr := (HMM.out.blk.keep hT (fun h => h)).cellOf o _ HMM.out.at0
          have hnl : row.length ≤ m := by rw [hrow]; exact newTo_le ab off i m
          have HROW := Lib.hid hrow
          by_cases hlt : m < ab.length
          · have HR := Lib.hid (HQ5.out.keep hT (fun _ _ h => h))
            have hm64 : m < 1024 := by omega
            obtain ⟨g8, e8, _, hcl⟩ := (HS.out.keep hT (fun _ _ h => h)).cells (by omega)
            injection e8 with e8
            injection e8 with e8
            subst e8
            have hw8 := hcl _ _ (bools_get ws m (by have := HWL.out; omega))
            rw [HWS.out m hlt] at hw8
            have e1 : toffM (offWith ab off i) (m : Int) = (off.getD m false || comes ab i m) := by
              have := offWith_get (ab := ab) (off := off) (c := i) hlt
              simpa [toffM] using this
            have HSN : Hid (newTo ab off i (m + 1) = row ++ if (comes ab i m && !off.getD m false) = true then [(m : Int)] else []) := Lib.hid (by rw [hrow]; exact newTo_snoc ab off i m)
            have HSL := Lib.hid hs
            have HG8 := Lib.hid hG8
            have HT8 := Lib.hid hT
            clear hcl hs hG8 hT hrow
            cases ho : off.getD m false with
            | true =>
              rw [ho] at hw8 e1 HSN
              have HE : Hid (row = newTo ab off i (m + 1)) := Lib.hid (by rw [HSN.out]; simp)
              clear HSN
              go_wp2_with fail
              refine (reftree_off b o ty cs ab (offWith ab off i) F m wr HR.out).mono ?_
              rw [e1, Bool.true_or]
              rintro e w4 ⟨rfl, h0⟩; subst w4
              go_wp2
              go_roundw
              case rel => exact ⟨m + 1, row, A8, c8, G8, num (by omega), by omega, rfl, HE.out, HSL.out, HG8.out, HT8.out⟩
              case measure => simp [intOf]; omega
            | false =>
              rw [ho] at hw8 e1 HSN
              cases hcm : comes ab i m with
              | false =>
                rw [hcm] at e1 HSN
                have HE : Hid (row = newTo ab off i (m + 1)) := Lib.hid (by rw [HSN.out]; simp)
                clear HSN
                go_wp2_with fail
                refine (reftree_off b o ty cs ab (offWith ab off i) F m wr HR.out).mono ?_
                rw [e1, Bool.or_self]
                rintro e w4 ⟨rfl, h0⟩; subst w4
                go_wp2
                go_roundw
                case rel => exact ⟨m + 1, row, A8, c8, G8, num (by omega), by omega, rfl, HE.out, HSL.out, HG8.out, HT8.out⟩
                case measure => simp [intOf]; omega
              | true =>
                rw [hcm] at e1 HSN
                have HE : Hid (row ++ [(m : Int)] = newTo ab off i (m + 1)) := Lib.hid (by rw [HSN.out]; simp)
                have hs := HSL.out
                clear HSN
                go_wp2_with fail
                refine (reftree_off b o ty cs ab (offWith ab off i) F m wr HR.out).mono ?_
                rw [e1, Bool.or_true]
                rintro e w4 ⟨rfl, h0⟩; subst w4
                go_wp2_with (at_builtin; refine wpList_app _ rfl (.tmp 69) (.tmp 71) 52 rfl 3 (.int .i64 0) 1 8 Tryz.underlying52 infoInt rfl (by decide) (by decide) _ _ _ _ _ _ _ _ _ rfl rfl (hs.alloc _) (Src.made wr 3 #[.int .i64 m] 1 rfl) (ints_one [(m : Int)]) (by omega) ?_; intro A6 c6 w6 G6 hs6 ht6 hg6; have HS6 := Lib.hid hs6; have HT6 : Hid (Tch (fun k => G8 = some k) wr w6) := Lib.hid (Tch.then ((Tch.refl _ wr).alloc _) ht6 (fun _ _ h => h)); have HG6 := Lib.hid hg6; clear hs6 ht6 hg6)
                have hsl : (row ++ [(m : Int)]).length = row.length + 1 := by simp
                have HS9 : Hid (Sl w6 3 1 A6 (row ++ [(m : Int)]).length c6 (ints (row ++ [(m : Int)])) G6) := Lib.hid (by rw [hsl, ints, List.map_append]; exact HS6.out)
                have HG9 : Hid (∀ k, G6 = some k → wb ≤ k ∧ w5.heap.size ≤ k) := Lib.hid (fun k hk => by
                  rcases HG6.out with e | ⟨q, e, hq⟩
                  · exact HG8.out k (e ▸ hk)
                  · rw [e] at hk
                    injection hk with hk
                    subst hk
                    simp at hq
                    have h1 := HT8.out.size
                    have h2 := HT.out.size
                    exact ⟨by omega, by omega⟩)
                have HT9 : Hid (Tch NoBlk w5 w6) := Lib.hid (HT8.out.then HT6.out (fun k hk e => by have := (HG8.out k e).2; omega))
                clear HS6 HT6 HG6 hs
                go_roundw
                case rel => exact ⟨m + 1, row ++ [(m : Int)], A6, c6, G6, num (by omega), by omega, by rw [hsl], HE.out, HS9.out, HG9.out, HT9.out⟩
                case measure => simp [intOf]; omega
          · obtain rfl : m = ab.length := by omega
            have er : row = (newOff ab off i).map (fun (j : Nat) => (j : Int)) := hrow
            have HER := Lib.hid er
            have HSL := Lib.hid hs
            have HG8 := Lib.hid hG8
            have HT8 := Lib.hid hT
            clear hs hG8 hT hlt er hrow
            go_wp2
            go_ret2
            rw [← HER.out]
            refine ⟨⟨A8, c8, G8, rfl, HSL.out, fun k hk => by have := (HG8.out k hk).1; omega⟩, ?_, HQ5.out.keep HT8.out (fun _ _ h => h)⟩
            exact (HT.out.mono (fun k _ e => (HF.out k).2 (.inr (.inr (by rw [e]))))).trans (HT8.out.mono (fun _ _ h => h.elim))
  · rw [if_neg hid]
    by_cases h0 : id < 0
    · have hd : decide (id < 0) = true := by simpa using h0
      clear h h1 h2 hF hid
      go_enter Tryz.func71, Tryz.ntmps71
      go_wp2
      go_ret2
      exact ⟨⟨none, 0, none, rfl, Sl.nil _ _ _, fun g e => by cases e⟩, Tch.refl _ _, HQ.out⟩
    · have hd : decide (id < 0) = false := by simpa using h0
      have hd2 : decide ((ab.length : Int) ≤ id) = true := by simp; omega
      clear h h1 h2 hF hid h0
      go_enter Tryz.func71, Tryz.ntmps71
      go_wp2
      go_ret2
      exact ⟨⟨none, 0, none, rfl, Sl.nil _ _ _, fun g e => by cases e⟩, Tch.refl _ _, HQ.out⟩
end Go.Proofs.YtipbimbnpikbcaaGreat
