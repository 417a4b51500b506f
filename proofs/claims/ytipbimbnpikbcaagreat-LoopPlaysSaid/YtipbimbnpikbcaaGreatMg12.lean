import Derived.Test.YtipbimbnpikbcaaGreatMg09
import Derived.Test.YtipbimbnpikbcaaGreatMg05
import Derived.Test.YtipbimbnpikbcaaGreatMg03
/- A tree of tokens in memory: a row of records; each keeps those below it in a row of its own. -/
namespace Go.Proofs.YtipbimbnpikbcaaGreat
open Go.RowKit

/-- Those below one, and where the row lies. -/
structure Bv where
  b : List Int
  A : Option Addr
  c : Nat
  G : Option Nat
def kcells : List Bv → List Bool → List Value
  | x :: vs, o :: os => .slice x.A x.b.length x.c :: .bool o :: kcells vs os
  | _, _ => []
theorem kcells_one (vs : List Bv) (os : List Bool) : ∀ u ∈ kcells vs os, u.oneCell' = true := by
  induction vs generalizing os with
  | nil => intro u hu; simp [kcells] at hu
  | cons x vs ih =>
    cases os with
    | nil => intro u hu; simp [kcells] at hu
    | cons o os =>
      intro u hu
      simp only [kcells, List.mem_cons] at hu
      rcases hu with rfl | rfl | hu
      · rfl
      · rfl
      · exact ih os u hu
theorem kcells_get (vs : List Bv) (os : List Bool) (i : Nat) (x : Bv) (h : vs[i]? = some x) (hl : os.length = vs.length) :
    (kcells vs os)[i * 2]? = some (.slice x.A x.b.length x.c) ∧ (kcells vs os)[i * 2 + 1]? = some (.bool (os.getD i false)) := by
  induction vs generalizing os i with
  | nil => simp at h
  | cons y vs ih =>
    cases os with
    | nil => simp at hl
    | cons o os =>
      cases i with
      | zero =>
        simp at h
        subst h
        exact ⟨rfl, rfl⟩
      | succ i =>
        have := ih os i (by simpa using h) (by simpa using hl)
        rw [show (i + 1) * 2 = i * 2 + 1 + 1 from by omega]
        exact this
theorem kcells_mark (vs : List Bv) (os : List Bool) (i : Nat) (v : Bool) (hl : os.length = vs.length) (hi : i < vs.length) : (kcells vs os).set (i * 2 + 1) (.bool v) = kcells vs (os.set i v) := by
  induction vs generalizing os i with
  | nil => simp at hi
  | cons y vs ih =>
    cases os with
    | nil => simp at hl
    | cons o os =>
      cases i with
      | zero => rfl
      | succ i =>
        have := ih os i (by simpa using hl) (by simpa using hi)
        rw [show (i + 1) * 2 + 1 = i * 2 + 1 + 1 + 1 from by omega]
        simp only [kcells, List.set_cons_succ]
        rw [this]
theorem kcells_row (vs : List Bv) (os : List Bool) (i : Nat) (x : Bv) (hl : os.length = vs.length) (hi : i < vs.length) : (kcells vs os).set (i * 2) (.slice x.A x.b.length x.c) = kcells (vs.set i x) os := by
  induction vs generalizing os i with
  | nil => simp at hi
  | cons y vs ih =>
    cases os with
    | nil => simp at hl
    | cons o os =>
      cases i with
      | zero => rfl
      | succ i =>
        have := ih os i (by simpa using hl) (by simpa using hi)
        rw [show (i + 1) * 2 = i * 2 + 1 + 1 from by omega]
        simp only [kcells, List.set_cons_succ]
        rw [this]
theorem kcells_snoc (vs : List Bv) (os : List Bool) (x : Bv) (o : Bool) (hl : os.length = vs.length) : kcells (vs ++ [x]) (os ++ [o]) = kcells vs os ++ [.slice x.A x.b.length x.c, .bool o] := by
  induction vs generalizing os with
  | nil =>
    cases os with
    | nil => rfl
    | cons o os => simp at hl
  | cons y vs ih =>
    cases os with
    | nil => simp at hl
    | cons p os =>
      have := ih os (by simpa using hl)
      simp only [List.cons_append, kcells]
      rw [this]
theorem infoTok : (Tryz.prog.info? 128).map (fun i => (i.zero, i.size, i.bytes)) = some (some (.agg #[.slice none 0 0, .bool false]), 2, 32) := by kernel_rfl

structure CanAt (w : World) (b : Nat) (vs : List Bv) (os : List Bool) (A : Option Addr) (c : Nat) (G : Option Nat) : Prop where
  blk : Blk w b 97 [.slice A vs.length c]
  len : os.length = vs.length
  sl : Sl w 128 2 A vs.length c (kcells vs os) G
  each : ∀ (i : Nat) (x : Bv), vs[i]? = some x → Sl w 3 1 x.A x.b.length x.c (ints x.b) x.G
  nb : G ≠ some b
  nx : ∀ (i : Nat) (x : Bv), vs[i]? = some x → x.G ≠ some b ∧ ∀ g, x.G = some g → G ≠ some g
  nn : ∀ (i j : Nat) (x y : Bv), vs[i]? = some x → vs[j]? = some y → i ≠ j → ∀ g, x.G = some g → y.G ≠ some g
  le : vs.length ≤ 1024
/-- The blocks of the parts. -/
def KF (b : Nat) (vs : List Bv) (G : Option Nat) (k : Nat) : Prop := k = b ∨ G = some k ∨ ∃ (i : Nat) (x : Bv), vs[i]? = some x ∧ x.G = some k
def CanQ (w : World) (b : Nat) (ab : List Int) (off : List Bool) (F : Nat → Prop) : Prop :=
  ∃ vs A c G, CanAt w b vs off A c G ∧ vs.length = ab.length ∧ (∀ (i : Nat) (x : Bv), vs[i]? = some x → x.b = belowL ab i) ∧ TreeOk ab off ∧ ∀ k, F k ↔ KF b vs G k

section
variable {w w' w2 : World} {b : Nat} {vs : List Bv} {os : List Bool} {A : Option Addr} {c : Nat} {G : Option Nat} {ab : List Int} {off : List Bool} {F S : Nat → Prop}
theorem CanAt.keep (h : CanAt w b vs os A c G) (ht : Tch S w w') (hS : ∀ k, KF b vs G k → ¬ S k) : CanAt w' b vs os A c G :=
  ⟨h.blk.keep ht (hS _ (.inl rfl)), h.len, h.sl.keep ht (fun _ e => hS _ (.inr (.inl e))), fun i x hx => (h.each i x hx).keep ht (fun _ e => hS _ (.inr (.inr ⟨i, x, hx, e⟩))), h.nb, h.nx, h.nn, h.le⟩
theorem CanQ.keep (h : CanQ w b ab off F) (ht : Tch S w w') (hS : ∀ k, F k → ¬ S k) : CanQ w' b ab off F := by
  obtain ⟨vs, A, c, G, h, h1, h2, h3, hF⟩ := h
  exact ⟨vs, A, c, G, h.keep ht (fun k hk => hS _ ((hF k).2 hk)), h1, h2, h3, hF⟩
theorem CanAt.lt (h : CanAt w b vs os A c G) (k : Nat) (hk : KF b vs G k) : k < w.heap.size := by
  rcases hk with rfl | hk | ⟨i, x, hx, e⟩
  · exact h.blk.lt
  · exact h.sl.lt k hk
  · exact (h.each i x hx).lt k e
theorem CanQ.lt (h : CanQ w b ab off F) : ∀ k, F k → k < w.heap.size := by
  obtain ⟨vs, A, c, G, h, _, _, _, hF⟩ := h
  intro k hk
  exact h.lt k ((hF k).1 hk)
theorem CanQ.ok (h : CanQ w b ab off F) : TreeOk ab off := by
  obtain ⟨_, _, _, _, _, _, _, h, _⟩ := h
  exact h
/-- A mark is set. -/
theorem CanAt.mark {g : Nat} (h : CanAt w b vs os A c (some g)) (i : Nat) (hi : i < vs.length) (v : Bool) : CanAt (w.setCell ⟨g, i * 2 + 1, none⟩ (.bool v)) b vs (os.set i v) A c (some g) ∧ Tch (· = g) w (w.setCell ⟨g, i * 2 + 1, none⟩ (.bool v)) := by
  have T := h.sl.setT (i * 2 + 1) (.bool v)
  refine ⟨⟨h.blk.keep T (fun e => h.nb (by rw [e])), by rw [List.length_set]; exact h.len, ?_, fun j x hx => (h.each j x hx).keep T (fun k hk e => (h.nx j x hx).2 k hk (by rw [e])), h.nb, h.nx, h.nn, h.le⟩, T⟩
  rw [← kcells_mark vs os i v h.len hi]
  exact h.sl.set _ _
/-- The row below one is another: touched are the row of records alone, and the row itself. -/
theorem CanAt.row {g : Nat} (h : CanAt w b vs os A c (some g)) (i : Nat) (x y : Bv) (hx : vs[i]? = some x) (T : Tch (fun k => k = g ∨ x.G = some k) w w') (hs : Sl w' 128 2 A vs.length c (kcells (vs.set i y) os) (some g))
    (hy : Sl w' 3 1 y.A y.b.length y.c (ints y.b) y.G) (hG : ∀ k, y.G = some k → x.G = some k ∨ w.heap.size ≤ k) :
    CanAt w' b (vs.set i y) os A c (some g) ∧ ∀ k, KF b (vs.set i y) (some g) k → KF b vs (some g) k ∨ w.heap.size ≤ k := by
  have hil : i < vs.length := (List.getElem?_eq_some_iff.1 hx).1
  have hself : (vs.set i y)[i]? = some y := by simp [hil]
  have hoth : ∀ j, j ≠ i → (vs.set i y)[j]? = vs[j]? := fun j hj => by simp [Ne.symm hj]
  have hbg : b ≠ g := fun e => h.nb (by rw [e])
  have hlb := h.blk.lt
  have hlg := h.sl.lt g rfl
  refine ⟨⟨?_, by rw [List.length_set]; exact h.len, by rw [List.length_set]; exact hs, fun j z hz => ?_, h.nb, fun j z hz => ?_, fun j k z u hz hu hjk e he => ?_, by rw [List.length_set]; exact h.le⟩, fun k hk => ?_⟩
  · rw [List.length_set]
    exact h.blk.keep T (fun e => e.elim hbg (fun e => (h.nx i x hx).1 e))
  · by_cases hj : j = i
    · subst hj
      rw [hself] at hz
      injection hz with hz
      subst hz
      exact hy
    · rw [hoth j hj] at hz
      exact (h.each j z hz).keep T (fun e he hee => hee.elim (fun hee => (h.nx j z hz).2 e he (by rw [hee])) (fun hee => h.nn j i z x hz hx hj e he hee))
  · by_cases hj : j = i
    · subst hj
      rw [hself] at hz
      injection hz with hz
      subst hz
      refine ⟨fun e => ?_, fun e he e2 => ?_⟩
      · rcases hG b e with e3 | e3
        · exact (h.nx j x hx).1 e3
        · omega
      · injection e2 with e2
        subst e2
        rcases hG g he with e3 | e3
        · exact (h.nx j x hx).2 g e3 rfl
        · omega
    · rw [hoth j hj] at hz
      exact h.nx j z hz
  · by_cases hj : j = i
    · subst hj
      rw [hself] at hz
      injection hz with hz
      subst hz
      rw [hoth k (Ne.symm hjk)] at hu
      intro e2
      rcases hG e he with e3 | e3
      · exact h.nn j k x u hx hu hjk e e3 e2
      · have := (h.each k u hu).lt e e2
        omega
    · rw [hoth j hj] at hz
      by_cases hk : k = i
      · subst hk
        rw [hself] at hu
        injection hu with hu
        subst hu
        intro e2
        rcases hG e e2 with e3 | e3
        · exact h.nn j k z x hz hx hjk e he e3
        · have := (h.each j z hz).lt e he
          omega
      · rw [hoth k hk] at hu
        exact h.nn j k z u hz hu hjk e he
  · rcases hk with hk | hk | ⟨j, z, hz, e⟩
    · exact .inl (.inl hk)
    · exact .inl (.inr (.inl hk))
    · by_cases hj : j = i
      · subst hj
        rw [hself] at hz
        injection hz with hz
        subst hz
        rcases hG k e with e3 | e3
        · exact .inl (.inr (.inr ⟨j, x, hx, e3⟩))
        · exact .inr e3
      · rw [hoth j hj] at hz
        exact .inl (.inr (.inr ⟨j, z, hz, e⟩))
/-- A record is put behind the others. -/
theorem CanAt.more (h : CanAt w b vs os A c G) (o : Bool) (T : Tch (fun k => G = some k) w w2) {A' : Option Addr} {c' : Nat} {G' : Option Nat} (hl : vs.length < 1024)
    (hs : Sl w2 128 2 A' (vs.length + 1) c' (kcells vs os ++ [.slice none 0 0, .bool o]) G') (hG : G' = G ∨ ∃ g, G' = some g ∧ w.heap.size ≤ g) :
    CanAt (w2.setCell ⟨b, 0, none⟩ (.slice A' (vs.length + 1) c')) b (vs ++ [⟨[], none, 0, none⟩]) (os ++ [o]) A' c' G' ∧
      (∀ k, KF b (vs ++ [⟨[], none, 0, none⟩]) G' k → KF b vs G k ∨ w.heap.size ≤ k) ∧ Tch (KF b vs G) w (w2.setCell ⟨b, 0, none⟩ (.slice A' (vs.length + 1) c')) := by
  have hS : Tch (· = b) w2 (w2.setCell ⟨b, 0, none⟩ (.slice A' (vs.length + 1) c')) := (Tch.refl (· = b) w2).setCell (p := ⟨b, 0, none⟩) (fun _ => rfl) _
  have hlb := h.blk.lt
  have hn : ∀ k, k < w.heap.size → G ≠ some k → G' ≠ some k := by
    intro k hk hne e
    rcases hG with e2 | ⟨g, e2, hg⟩
    · exact hne (e2 ▸ e)
    · rw [e2] at e
      injection e with e
      omega
  have hlen : (vs ++ [(⟨[], none, 0, none⟩ : Bv)]).length = vs.length + 1 := by simp
  have hget : ∀ (j : Nat) (z : Bv), (vs ++ [⟨[], none, 0, none⟩])[j]? = some z → vs[j]? = some z ∨ z = ⟨[], none, 0, none⟩ := by
    intro j z hz
    by_cases hj : j < vs.length
    · rw [List.getElem?_append_left hj] at hz
      exact .inl hz
    · rw [List.getElem?_append_right (by omega)] at hz
      right
      have : j - vs.length = 0 := by
        rcases Nat.eq_zero_or_pos (j - vs.length) with h | h
        · exact h
        · rw [List.getElem?_eq_none (by simp; omega)] at hz
          cases hz
      rw [this] at hz
      simp at hz
      exact hz.symm
  refine ⟨⟨?_, by rw [hlen]; simp [h.len], ?_, fun j z hz => ?_, hn b hlb h.nb, fun j z hz => ?_, fun j k z u hz hu hjk e he => ?_, by rw [hlen]; omega⟩, fun k hk => ?_, (T.mono (fun k _ e => .inr (.inl e))).trans (hS.mono (fun k _ e => .inl e))⟩
  · rw [hlen]
    exact (h.blk.keep T h.nb).set 0 _
  · rw [hlen, kcells_snoc vs os ⟨[], none, 0, none⟩ o h.len]
    exact hs.keep hS (fun g hg e => hn b hlb h.nb (e ▸ hg))
  · rcases hget j z hz with hz | rfl
    · exact ((h.each j z hz).keep T (fun g hg e => (h.nx j z hz).2 g hg e)).keep hS (fun g hg e => (h.nx j z hz).1 (e ▸ hg))
    · exact Sl.nil _ _ _
  · rcases hget j z hz with hz | rfl
    · exact ⟨(h.nx j z hz).1, fun g hg e => hn g ((h.each j z hz).lt g hg) ((h.nx j z hz).2 g hg) e⟩
    · exact ⟨by simp, fun g hg => by simp at hg⟩
  · rcases hget j z hz with hz2 | rfl
    · rcases hget k u hu with hu2 | rfl
      · exact h.nn j k z u hz2 hu2 hjk e he
      · simp
    · simp at he
  · rcases hk with hk | hk | ⟨j, z, hz, e⟩
    · exact .inl (.inl hk)
    · rcases hG with e2 | ⟨g, e2, hg⟩
      · exact .inl (.inr (.inl (e2 ▸ hk)))
      · rw [e2] at hk
        injection hk with hk
        exact .inr (by omega)
    · rcases hget j z hz with hz | rfl
      · exact .inl (.inr (.inr ⟨j, z, hz, e⟩))
      · simp at e
end

theorem can_new (w : World) : Calls Tryz.prog 20 #[] w fun e w' => ∃ b F, e = .returned (.pointer (some ⟨b, 0, none⟩)) ∧ CanQ w' b [] [] F ∧ (∀ k, F k → w.heap.size ≤ k) ∧ Tch NoBlk w w' := by
  go_enter Tryz.func20, Tryz.ntmps20
  go_wp2
  go_ret
  refine ⟨w.heap.size, KF w.heap.size [] none, rfl, ⟨[], none, 0, none, ⟨Blk.new w _ _, rfl, Sl.nil _ _ _, by simp, by simp, by simp, by simp, by simp⟩, rfl, by simp, ⟨fun j x h => by simp at h, rfl, fun i j h => by simp [up] at h, by simp⟩, fun _ => Iff.rfl⟩, fun k hk => ?_, (Tch.refl NoBlk w).alloc _⟩
  rcases hk with rfl | hk | ⟨i, x, hx, _⟩
  · exact Nat.le_refl _
  · cases hk
  · simp at hx
section
variable {w : World} {b : Nat} {vs : List Bv} {os : List Bool} {A : Option Addr} {c : Nat} {G : Option Nat}
theorem canat_len (h : CanAt w b vs os A c G) : Calls Tryz.prog 96 #[.pointer (some ⟨b, 0, none⟩)] w fun e w' => e = .returned (.int .i64 vs.length) ∧ w' = w := by
  have hc := h.blk.cellOf 0 _ rfl
  clear h
  go_enter Tryz.func96, Tryz.ntmps96
  go_wp2
  go_ret
  exact ⟨rfl, rfl⟩
theorem canat_there_no (h : CanAt w b vs os A c G) (id : Int) (hid : id < 0 ∨ (vs.length : Int) ≤ id) : Calls Tryz.prog 79 #[.pointer (some ⟨b, 0, none⟩), .int .i64 id] w fun e w' => e = .returned (.bool false) ∧ w' = w := by
  have HH := Lib.hid h
  clear h
  rcases Int.lt_or_le id 0 with g | g
  · have d : decide ((0 : Int) ≤ id) = false := by simp; omega
    clear hid g
    go_enter Tryz.func79, Tryz.ntmps79
    go_wp2_with fail
    go_ret
    exact ⟨rfl, rfl⟩
  · have d : decide ((0 : Int) ≤ id) = true := by simp; omega
    have d2 : decide (id < (vs.length : Int)) = false := by simp; omega
    clear hid g
    go_enter Tryz.func79, Tryz.ntmps79
    go_wp2_with ((go_at_call 96; refine (canat_len HH.out).mono ?_; rintro e w8 ⟨rfl, hw8⟩; subst w8))
    go_ret
    exact ⟨rfl, rfl⟩
theorem canat_there_yes (h : CanAt w b vs os A c G) (i : Nat) (hi : i < vs.length) : Calls Tryz.prog 79 #[.pointer (some ⟨b, 0, none⟩), .int .i64 i] w fun e w' => e = .returned (.bool true) ∧ w' = w := by
  have HH := Lib.hid h
  clear h
  have d : decide ((0 : Int) ≤ (i : Int)) = true := by simp
  have d2 : decide ((i : Int) < (vs.length : Int)) = true := by simp; omega
  have d3 : decide (i < vs.length) = true := by simp; omega
  go_enter Tryz.func79, Tryz.ntmps79
  go_wp2_with ((go_at_call 96; refine (canat_len HH.out).mono ?_; rintro e w8 ⟨rfl, hw8⟩; subst w8))
  go_ret
  exact ⟨rfl, rfl⟩
theorem canat_off (h : CanAt w b vs os A c G) (id : Int) : Calls Tryz.prog 52 #[.pointer (some ⟨b, 0, none⟩), .int .i64 id] w fun e w' => e = .returned (.bool (toffM os id)) ∧ w' = w := by
  have HH := Lib.hid h
  by_cases hid : 0 ≤ id ∧ id < (vs.length : Int)
  · obtain ⟨i, rfl⟩ := Int.eq_ofNat_of_zero_le hid.1
    have hi : i < vs.length := by omega
    have e1 : toffM os (i : Int) = os.getD i false := by simp [toffM]
    rw [e1]
    have hc := h.blk.cellOf 0 _ rfl
    obtain ⟨g, rfl, rfl, hcl⟩ := h.sl.cells (by omega)
    have c1 := hcl _ _ (kcells_get vs os i vs[i] (by simp [hi]) h.len).2
    have hcap := h.sl.cap_le
    have hle := h.le
    clear h hcl e1 hid
    generalize os.getD i false = o at *
    go_enter Tryz.func52, Tryz.ntmps52
    go_wp2_with fail
    refine (canat_there_yes HH.out i hi).mono ?_
    rintro e w8 ⟨rfl, hw8⟩; subst w8
    go_wp2
    go_ret
    exact ⟨rfl, rfl⟩
  · have e1 : toffM os id = false := by
      unfold toffM
      by_cases h0 : 0 ≤ id
      · have : os.length ≤ id.toNat := by have := h.len; omega
        simp [List.getD_eq_getElem?_getD, List.getElem?_eq_none this]
      · simp [h0]
    rw [e1]
    clear h e1
    go_enter Tryz.func52, Tryz.ntmps52
    go_wp2_with fail
    refine (canat_there_no HH.out id (by omega)).mono ?_
    rintro e w8 ⟨rfl, hw8⟩; subst w8
    go_wp2
    go_ret
    exact ⟨rfl, rfl⟩
end
theorem can_len (b : Nat) (ab : List Int) (off : List Bool) (F : Nat → Prop) (w : World) (h : CanQ w b ab off F) : Calls Tryz.prog 96 #[.pointer (some ⟨b, 0, none⟩)] w fun e w' => e = .returned (.int .i64 ab.length) ∧ w' = w := by
  obtain ⟨vs, A, c, G, h, h1, _⟩ := h
  rw [← h1]
  exact canat_len h
theorem can_off (b : Nat) (ab : List Int) (off : List Bool) (F : Nat → Prop) (id : Int) (w : World) (h : CanQ w b ab off F) : Calls Tryz.prog 52 #[.pointer (some ⟨b, 0, none⟩), .int .i64 id] w fun e w' => e = .returned (.bool (toffM off id)) ∧ w' = w := by
  obtain ⟨vs, A, c, G, h, h1, _⟩ := h
  exact canat_off h id
theorem can_len_nil (w : World) : Calls Tryz.prog 96 #[.pointer none] w fun e w' => e = .returned (.int .i64 0) ∧ w' = w := by
  go_enter Tryz.func96, Tryz.ntmps96
  go_wp2
  go_ret
  exact ⟨rfl, rfl⟩
end Go.Proofs.YtipbimbnpikbcaaGreat
