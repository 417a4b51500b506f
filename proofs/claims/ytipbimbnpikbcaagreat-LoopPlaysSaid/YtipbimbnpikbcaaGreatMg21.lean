import Derived.Test.YtipbimbnpikbcaaGreatMg20
import Derived.BigQuiet
import Derived.Test.YtipbimbnpikbcaaGreatProg
import Derived.Test.YtipbimbnpikbcaaGreatMg05
import Derived.OwnWalk
/- The document's timers: a row of records, and how many were put, at two cells of some block. -/
namespace Go.Proofs.YtipbimbnpikbcaaGreat
open Go.RowKit

theorem infoTmR : (Tryz.prog.info? 84).map (fun i => (i.zero, i.size, i.bytes)) = some (some (.agg #[.int .i64 0, .int .i64 0, .int .i64 0]), 3, 24) := by kernel_rfl
structure RefTimAt (w : World) (b : Nat) (ty : TypeId) (cs : List Value) (o : Nat) (L : List Tm) (n : Int) (A : Option Addr) (c : Nat) (G : Option Nat) : Prop where
  blk : Blk w b ty cs
  at_ : cs[o]? = some (.slice A L.length c)
  num : cs[o + 1]? = some (.int .i64 n)
  sl : Sl w 84 3 A L.length c (tcells L) G
  nb : G ≠ some b
  le : L.length ≤ 64
def RefTimQ (w : World) (b : Nat) (ty : TypeId) (cs : List Value) (o : Nat) (L : List Tm) (n : Int) (F : Nat → Prop) : Prop :=
  ∃ A c G, RefTimAt w b ty cs o L n A c G ∧ ∀ k, F k ↔ k = b ∨ G = some k
/-- What a call leaves: the two cells may be new. -/
def RefTimLeft (w w' : World) (b : Nat) (ty : TypeId) (cs : List Value) (o : Nat) (F : Nat → Prop) (L : List Tm) (n : Int) : Prop :=
  Tch F w w' ∧ ∃ v u F', RefTimQ w' b ty ((cs.set o v).set (o + 1) u) o L n F' ∧ ∀ k, F' k → F k ∨ w.heap.size ≤ k

section
variable {w w' w2 : World} {b o : Nat} {ty : TypeId} {cs : List Value} {L : List Tm} {n : Int} {F S : Nat → Prop} {A : Option Addr} {c : Nat} {G : Option Nat}
theorem RefTimAt.keep (h : RefTimAt w b ty cs o L n A c G) (ht : Tch S w w') (h1 : ¬ S b) (h2 : ∀ g, G = some g → ¬ S g) : RefTimAt w' b ty cs o L n A c G :=
  ⟨h.blk.keep ht h1, h.at_, h.num, h.sl.keep ht h2, h.nb, h.le⟩
theorem RefTimQ.keep (h : RefTimQ w b ty cs o L n F) (ht : Tch S w w') (hS : ∀ k, F k → ¬ S k) : RefTimQ w' b ty cs o L n F := by
  obtain ⟨A, c, G, h, hF⟩ := h
  exact ⟨A, c, G, h.keep ht (hS _ ((hF _).2 (.inl rfl))) (fun g e => hS _ ((hF _).2 (.inr e))), hF⟩
theorem RefTimQ.lt (h : RefTimQ w b ty cs o L n F) : ∀ k, F k → k < w.heap.size := by
  obtain ⟨A, c, G, h, hF⟩ := h
  intro k hk
  rcases (hF k).1 hk with rfl | hk
  · exact h.blk.lt
  · exact h.sl.lt k hk
theorem RefTimQ.lenOf (h : RefTimQ w b ty cs o L n F) : ∃ A c, cs[o]? = some (.slice A L.length c) ∧ L.length ≤ c ∧ c ≤ 9223372036854775807 := by
  obtain ⟨A, c, G, h, _⟩ := h
  exact ⟨A, c, h.at_, h.sl.cap_le⟩
theorem set_same {cs : List Value} {o : Nat} {v : Value} (h : cs[o]? = some v) : cs.set o v = cs := by
  obtain ⟨hl, e⟩ := List.getElem?_eq_some_iff.1 h
  rw [← e]
  exact List.set_getElem_self hl
theorem RefTimLeft.same (h : RefTimQ w b ty cs o L n F) (ht : Tch NoBlk w w') : RefTimLeft w w' b ty cs o F L n := by
  have h2 := h.keep ht (fun _ _ h => h)
  obtain ⟨A, c, G, h, _⟩ := h
  refine ⟨ht.mono (fun _ _ h => h.elim), .slice A L.length c, .int .i64 n, F, ?_, fun k hk => .inl hk⟩
  rw [set_same h.at_, set_same h.num]
  exact h2
/-- The row is another one, of its own block or a new one. -/
theorem RefTimAt.row (H : RefTimAt w b ty cs o L n A c G) {L' : List Tm} {A' : Option Addr} {c' : Nat} {G' : Option Nat} (T : Tch (fun k => G = some k) w w2) (hl : L'.length ≤ 64)
    (hs : Sl w2 84 3 A' L'.length c' (tcells L') G') (hG : ∀ g, G' = some g → G = some g ∨ w.heap.size ≤ g) :
    RefTimAt (w2.setCell ⟨b, o, none⟩ (.slice A' L'.length c')) b ty (cs.set o (.slice A' L'.length c')) o L' n A' c' G' ∧ Tch (fun k => k = b ∨ G = some k) w (w2.setCell ⟨b, o, none⟩ (.slice A' L'.length c')) := by
  have hS : Tch (· = b) w2 (w2.setCell ⟨b, o, none⟩ (.slice A' L'.length c')) := (Tch.refl (· = b) w2).setCell (p := ⟨b, o, none⟩) (fun _ => rfl) _
  have hlb := H.blk.lt
  have hn : G' ≠ some b := by
    intro e
    rcases hG b e with e2 | hg
    · exact H.nb e2
    · omega
  have hol : o < cs.length := (List.getElem?_eq_some_iff.1 H.at_).1
  refine ⟨⟨(H.blk.keep T H.nb).set o _, by simp [hol], ?_, hs.keep hS (fun k hk e => hn (by rw [hk, e])), hn, hl⟩, (T.mono (fun _ _ e => .inr e)).trans (hS.mono (fun _ _ e => .inl e))⟩
  rw [List.getElem?_set_ne (by omega)]
  exact H.num
theorem RefTimAt.count (H : RefTimAt w b ty cs o L n A c G) (m : Int) : RefTimAt (w.setCell ⟨b, o + 1, none⟩ (.int .i64 m)) b ty (cs.set (o + 1) (.int .i64 m)) o L m A c G ∧ Tch (· = b) w (w.setCell ⟨b, o + 1, none⟩ (.int .i64 m)) := by
  have hS : Tch (· = b) w (w.setCell ⟨b, o + 1, none⟩ (.int .i64 m)) := (Tch.refl (· = b) w).setCell (p := ⟨b, o + 1, none⟩) (fun _ => rfl) _
  have hol : o + 1 < cs.length := (List.getElem?_eq_some_iff.1 H.num).1
  refine ⟨⟨H.blk.set (o + 1) _, ?_, by simp [hol], H.sl.keep hS (fun k hk e => H.nb (by rw [hk, e])), H.nb, H.le⟩, hS⟩
  rw [List.getElem?_set_ne (by omega)]
  exact H.at_
theorem RefTimQ.left_row (h : RefTimAt w b ty cs o L n A c G) (hF : ∀ k, F k ↔ k = b ∨ G = some k) {L' : List Tm} {A' : Option Addr} {c' : Nat} {G' : Option Nat} (T : Tch (fun k => G = some k) w w2) (hl : L'.length ≤ 64)
    (hs : Sl w2 84 3 A' L'.length c' (tcells L') G') (hG : ∀ g, G' = some g → G = some g ∨ w.heap.size ≤ g) : RefTimLeft w (w2.setCell ⟨b, o, none⟩ (.slice A' L'.length c')) b ty cs o F L' n := by
  obtain ⟨h1, h2⟩ := h.row T hl hs hG
  refine ⟨h2.mono (fun k _ e => (hF k).2 e), .slice A' L'.length c', .int .i64 n, fun k => k = b ∨ G' = some k, ?_, fun k hk => ?_⟩
  · rw [set_same h1.num]
    exact ⟨A', c', G', h1, fun _ => Iff.rfl⟩
  · rcases hk with hk | hk
    · exact .inl ((hF k).2 (.inl hk))
    · rcases hG k hk with e | e
      · exact .inl ((hF k).2 (.inr e))
      · exact .inr e
end
end Go.Proofs.YtipbimbnpikbcaaGreat

/- What the document's timers do: the first one, one is taken away. -/
namespace Go.Proofs.YtipbimbnpikbcaaGreat
open Go.RowKit


section
variable {b o : Nat} {ty : TypeId} {cs : List Value} {L : List Tm} {n : Int} {A : Option Addr} {c : Nat} {G : Option Nat}
/-- The place of the first one; -1: there is none. -/
def RefFirst (L : List Tm) (e : Ending) : Prop :=
  (L = [] ∧ e = .returned (.int .i64 (-1))) ∨ ∃ k : Nat, k < L.length ∧ e = .returned (.int .i64 k) ∧ (∀ j, j < L.length → (tat L k).1 ≤ (tat L j).1) ∧ ∀ j, j < k → (tat L k).1 < (tat L j).1
/-- Among the first i: x is the place of the first one. -/
def FirstTo (L : List Tm) (i : Nat) (x : Int) : Prop :=
  (i = 0 ∧ x = -1) ∨ ∃ k : Nat, x = k ∧ k < i ∧ (∀ j, j < i → (tat L k).1 ≤ (tat L j).1) ∧ ∀ j, j < k → (tat L k).1 < (tat L j).1
theorem FirstTo.less {L : List Tm} {i k : Nat} (h : FirstTo L i k) (hl : (tat L i).1 < (tat L k).1) : FirstTo L (i + 1) i := by
  rcases h with ⟨_, h⟩ | ⟨k', h1, h2, h3, h4⟩
  · omega
  · obtain rfl : k = k' := by omega
    refine .inr ⟨i, rfl, by omega, fun j hj => ?_, fun j hj => ?_⟩
    · by_cases e : j = i
      · subst e
        omega
      · have := h3 j (by omega)
        omega
    · have := h3 j hj
      omega
theorem FirstTo.more {L : List Tm} {i k : Nat} (h : FirstTo L i k) (hl : ¬ (tat L i).1 < (tat L k).1) : FirstTo L (i + 1) k := by
  rcases h with ⟨_, h⟩ | ⟨k', h1, h2, h3, h4⟩
  · omega
  · obtain rfl : k = k' := by omega
    refine .inr ⟨k, rfl, by omega, fun j hj => ?_, h4⟩
    by_cases e : j = i
    · subst e
      omega
    · exact h3 j (by omega)
theorem FirstTo.start (L : List Tm) : FirstTo L 1 (0 : Nat) := by
  refine .inr ⟨0, rfl, by omega, fun j hj => ?_, fun j hj => by omega⟩
  obtain rfl : j = 0 := by omega
  exact Int.le_refl _
theorem FirstTo.done {L : List Tm} {i : Nat} {x : Int} (h : FirstTo L i x) (hi : i = L.length) : RefFirst L (.returned (.int .i64 x)) := by
  rcases h with ⟨h, rfl⟩ | ⟨k, rfl, h2, h3, h4⟩
  · exact .inl ⟨List.eq_nil_of_length_eq_zero (by omega), rfl⟩
  · exact .inr ⟨k, by omega, rfl, fun j hj => h3 j (by omega), h4⟩

set_option maxRecDepth 100000 in
theorem reftim_first (w : World) (h : RefTimAt w b ty cs o L n A c G) :
    Calls Tryz.prog 49 #[.pointer (some ⟨b, o, none⟩)] w fun e w' => RefFirst L e ∧ ∃ k, w' = w.drewN k := by
  have hc := h.blk.cellOf o _ h.at_
  have hle := h.le
  have hcap := h.sl.cap_le
  go_enter Tryz.func49, Tryz.ntmps49
  go_wp2_with fail
  go_loopw [3, 4] (fun x y wr => ∃ (x' : Int) (i q : Nat), x = .int .i64 x' ∧ y = .int .i64 i ∧ i ≤ L.length ∧ FirstTo L i x' ∧ wr = w.drewN q) (fun _ y _ => L.length - (intOf y).toNat)
  case atStart => exact ⟨-1, 0, 0, rfl, rfl, Nat.zero_le _, .inl ⟨rfl, rfl⟩, rfl⟩
  case round =>
    obtain ⟨x', i, q, rfl, rfl, hi, hF, rfl⟩ := hrel
    by_cases hlt : i < L.length
    · obtain ⟨g, rfl, rfl, hcl⟩ := h.sl.cells (by omega)
      have ci := hcl _ _ (tcells_get L i hlt).1
      by_cases h0 : i = 0
      · subst h0
        have hx : x' = -1 := by
          rcases hF with ⟨_, h⟩ | ⟨k, _, h, _⟩
          · exact h
          · omega
        subst hx
        have HN := Lib.hid (FirstTo.start L)
        have hneg : decide ((-1 : Int) < 0) = true := by decide
        clear h hcl hF ci
        go_wp2_with fail
        go_quiet (fail)
        go_wp2
        go_roundw
        case rel => exact ⟨0, 1, _, rfl, rfl, by omega, HN.out, rfl⟩
        case measure => simp [intOf]; omega
      · obtain ⟨k, rfl, hki, h3, h4⟩ : ∃ k : Nat, x' = k ∧ k < i ∧ (∀ j, j < i → (tat L k).1 ≤ (tat L j).1) ∧ ∀ j, j < k → (tat L k).1 < (tat L j).1 := hF.elim (fun e => absurd e.1 h0) (fun e => e)
        have ck := hcl _ _ (tcells_get L k (by omega)).1
        have hneg : decide ((k : Int) < 0) = false := by simp
        have hk2 : k < L.length := by omega
        clear h3 h4 hcl h
        by_cases hl : (tat L i).1 < (tat L k).1
        · have hd : decide ((tat L i).1 < (tat L k).1) = true := by simpa using hl
          have HN := Lib.hid (hF.less hl)
          clear hF hl
          go_wp2_with fail
          go_quiet (fail)
          go_wp2
          go_roundw
          case rel => exact ⟨i, i + 1, _, rfl, num (by omega), by omega, HN.out, rfl⟩
          case measure => simp [intOf]; omega
        · have hd : decide ((tat L i).1 < (tat L k).1) = false := by simpa using hl
          have HN := Lib.hid (hF.more hl)
          clear hF hl
          go_wp2_with fail
          go_quiet (fail)
          go_wp2
          go_roundw
          case rel => exact ⟨k, i + 1, _, rfl, num (by omega), by omega, HN.out, rfl⟩
          case measure => simp [intOf]; omega
    · have HN := Lib.hid (hF.done (by omega))
      clear h hF
      go_wp2
      go_ret
      exact ⟨HN.out, _, rfl⟩
end

theorem tcells_drop (h : List Tm) (m : Nat) (hm : m ≤ h.length) : (tcells h).drop (m * 3) = tcells (h.drop m) := by
  induction h generalizing m with
  | nil => simp [tcells]
  | cons y h ih =>
    cases m with
    | zero => rfl
    | succ m =>
      rw [tcells_cons, show (m + 1) * 3 = m * 3 + 1 + 1 + 1 from by omega]
      simp only [List.drop_succ_cons]
      rw [ih m (by simpa using hm)]

theorem src_tail {w : World} {e : TypeId} {xs : List Value} {g n c k : Nat} (hs : Sl w e 3 (some ⟨g, 0, none⟩) n c xs (some g)) (hk : k + 1 ≤ n) :
    Src w 3 (if c = k + 1 then some ⟨g, 0, none⟩ else some ⟨g, (k + 1) * 3, none⟩) (n - (k + 1)) (xs.drop ((k + 1) * 3)) := by
  have h := hs.src.cut hk hs.cap_le.1
  have e : (⟨g, 0, none⟩ : Addr).add ((k + 1) * 3) = ⟨g, (k + 1) * 3, none⟩ := by unfold Addr.add; rw [if_neg (by omega)]; simp
  simpa [e] using h
theorem src_head {w : World} {e : TypeId} {xs : List Value} {g n c k : Nat} (hs : Sl w e 3 (some ⟨g, 0, none⟩) n c xs (some g)) (hk : k ≤ n) : Src w 3 (some ⟨g, 0, none⟩) k (xs.take (k * 3)) := (hs.less hk).src
theorem tcells_but (L : List Tm) (k : Nat) : tcells (L.take k) ++ tcells (L.drop (k + 1)) = tcells (L.eraseIdx k) := by rw [← tcells_app, List.eraseIdx_eq_take_drop_succ]

set_option maxHeartbeats 4000000 in
set_option maxRecDepth 100000 in
theorem reftim_gone (b o : Nat) (ty : TypeId) (cs : List Value) (L : List Tm) (n : Int) (F : Nat → Prop) (k : Nat) (w : World) (h : RefTimQ w b ty cs o L n F) (hk : k < L.length) :
    Calls Tryz.prog 95 #[.pointer (some ⟨b, o, none⟩), .int .i64 k] w fun e w' => e = .returned (.int .i64 (tat L k).2.2) ∧ RefTimLeft w w' b ty cs o F (L.eraseIdx k) n := by
  obtain ⟨A, c, G, h, hF⟩ := h
  obtain ⟨g, rfl, rfl, hcl⟩ := h.sl.cells (by omega)
  have hc := h.blk.cellOf o _ h.at_
  have c2 := hcl _ _ (tcells_get L k hk).2.2
  have hle := h.le
  have hcap := h.sl.cap_le
  have hnb := h.nb
  have hs := h.sl
  have hb := h.blk
  have hat := h.at_
  have HH := Lib.hid h
  have HF := Lib.hid hF
  obtain ⟨m, hm⟩ : ∃ m, m = L.length - (k + 1) := ⟨_, rfl⟩
  have hk64 : k < 64 := by omega
  have hw1 : IntKind.i64.wrap ((k : Int) + 1) = (k : Int) + 1 := by rw [IntKind.wrap_i64]; omega
  have hkc : k ≤ c := by omega
  have hk1c : k + 1 ≤ c := by omega
  have hk1l : k + 1 ≤ L.length := by omega
  have hcA : ∀ ob, (w.alloc ob).cell? ⟨b, o, none⟩ = some (.slice (some ⟨g, 0, none⟩) L.length c) := fun ob => ((Tch.refl NoBlk w).alloc ob).cell' hc (fun h => h)
  have HA : Hid (Src w 3 (some ⟨g, 0, none⟩) k (tcells (L.take k))) := Lib.hid (by rw [← tcells_take L k (by omega)]; exact src_head hs (by omega))
  have HB : Hid (Src w 3 (if c = k + 1 then some ⟨g, 0, none⟩ else some ⟨g, (k + 1) * 3, none⟩) (L.length - (k + 1)) (tcells (L.drop (k + 1)))) := Lib.hid (by rw [← tcells_drop L (k + 1) (by omega)]; exact src_tail hs (by omega))
  have hi0 : (0 : Int) ≤ (k : Int) + 1 := by omega
  have hi1 : (k : Int) + 1 ≤ (L.length : Int) := by omega
  clear h hF hcl
  go_enter Tryz.func95, Tryz.ntmps95
  go_wp2_with fail
  go_region_law (first
    | (refine step_app _ rfl (.tmp 15) (.tmp 21) 46 rfl 84 (.agg #[.int .i64 0, .int .i64 0, .int .i64 0]) 3 24 Tryz.underlying46 infoTmR rfl (by decide) (by decide) (some ⟨w.heap.size, 0, none⟩) 0 0 [] (some w.heap.size) (some ⟨g, 0, none⟩) k c (tcells (L.take k)) (by simp [Act.eval, Act.put]) (by simp [Act.eval, Act.put]) (by exact (Sl.made w 84 #[] 0 rfl (by decide)).drew1) (by exact HA.out.keep ((Tch.refl NoBlk w).alloc (.cells #[] 84)).drew (fun _ _ h => h)) (tcells_one _) (by omega) ?_; intro A5 c5 w5 G5 hs5 ht5 hg5; simp only [Nat.zero_add, List.nil_append] at hs5; have HS5 := Lib.hid hs5; have HT5 : Hid (Tch NoBlk w w5) := Lib.hid (tch_own ((Tch.refl NoBlk w).alloc (.cells #[] 84)).drew ht5 (own_some (by omega))); have HN5 : Hid (∀ k, G5 = some k → w.heap.size ≤ k) := Lib.hid (own_from (Tch.size ((Tch.refl NoBlk w).alloc (.cells #[] 84)).drew) (own_some (by omega)) hg5); have hc5 : w5.cell? ⟨b, o, none⟩ = some (.slice (some ⟨g, 0, none⟩) L.length c) := HT5.out.cell' hc (fun h => h); clear hs5 ht5 hg5)
    | (refine step_app _ rfl (.tmp 22) (.tmp 29) 46 rfl 84 (.agg #[.int .i64 0, .int .i64 0, .int .i64 0]) 3 24 Tryz.underlying46 infoTmR rfl (by decide) (by decide) A5 k c5 (tcells (L.take k)) G5 (if c = k + 1 then some ⟨g, 0, none⟩ else some ⟨g, (k + 1) * 3, none⟩) (L.length - (k + 1)) (c - (k + 1)) (tcells (L.drop (k + 1))) (by simp [Act.eval, Act.put]) (by simp [Act.eval, Act.put]) HS5.out (HB.out.keep HT5.out (fun _ _ h => h)) (tcells_one _) (by omega) ?_; intro A6 c6 w6 G6 hs6 ht6 hg6; have HS6 := Lib.hid hs6; have HT6 : Hid (Tch NoBlk w w6) := Lib.hid (tch_own HT5.out ht6 HN5.out); have HN6 : Hid (∀ k, G6 = some k → w.heap.size ≤ k) := Lib.hid (own_from (Tch.size HT5.out) HN5.out hg6); have hb6 := hb.keep HT6.out (fun h => h); have hc6 := hb6.cellOf o _ hat; have hf6 := hb6.free o; clear hs6 ht6 hg6 hb6))
  all_goals
    have hlen : (L.eraseIdx k).length = k + (L.length - (k + 1)) := by rw [List.length_eraseIdx, if_pos hk]; omega
    have HE : Hid (RefTimLeft w (w6.setCell ⟨b, o, none⟩ (.slice A6 (k + (L.length - (k + 1))) c6)) b ty cs o F (L.eraseIdx k) n) := Lib.hid (by
      have := RefTimQ.left_row HH.out HF.out (L' := L.eraseIdx k) (A' := A6) (c' := c6) (G' := G6) (HT6.out.mono (fun _ _ e => e.elim)) (by rw [hlen]; omega) (by rw [hlen, ← tcells_but]; exact HS6.out) (fun g e => .inr (HN6.out g e))
      rw [hlen] at this
      exact this)
    clear HS6 HT6 HN6 HS5 HT5 HN5 HA HB hs hb
    generalize (if c = k + 1 then some (⟨g, 0, none⟩ : Addr) else some ⟨g, (k + 1) * 3, none⟩) = B6 at *
    go_wp2
    go_ret
    exact ⟨rfl, HE.out⟩

set_option maxHeartbeats 4000000 in
set_option maxRecDepth 100000 in
theorem reftim_put (b o : Nat) (ty : TypeId) (cs : List Value) (L : List Tm) (n : Int) (F : Nat → Prop) (due item : Int) (w : World) (h : RefTimQ w b ty cs o L n F) (hl : L.length < 64) (hn0 : 0 ≤ n) (hn : n < 4611686018427387904) :
    Calls Tryz.prog 69 #[.pointer (some ⟨b, o, none⟩), .int .i64 due, .int .i64 item] w fun e w' => e = .returned (.tuple #[.int .i64 n, .int .i64 0]) ∧ RefTimLeft w w' b ty cs o F (L ++ [(due, n, item)]) (n + 1) := by
  obtain ⟨A, c, G, h, hF⟩ := h
  have hc := h.blk.cellOf o _ h.at_
  have hc1 := h.blk.cellOf (o + 1) _ h.num
  have hcap := h.sl.cap_le
  have hnb := h.nb
  have hs := h.sl
  have hb := h.blk
  have hat := h.at_
  have hnum := h.num
  have HH := Lib.hid h
  have HF := Lib.hid hF
  have hd64 : decide ((64 : Int) ≤ (L.length : Int)) = false := by simp; omega
  have hcA : ∀ ob, (w.alloc ob).cell? ⟨b, o, none⟩ = some (.slice A L.length c) := fun ob => ((Tch.refl NoBlk w).alloc ob).cell' hc (fun h => h)
  have hcA1 : ∀ ob, (w.alloc ob).cell? ⟨b, o + 1, none⟩ = some (.int .i64 n) := fun ob => ((Tch.refl NoBlk w).alloc ob).cell' hc1 (fun h => h)
  clear h hF
  go_enter Tryz.func69, Tryz.ntmps69
  go_wp2_with fail
  go_region_law (refine step_app _ rfl (.tmp 18) (.tmp 26) 46 rfl 84 (.agg #[.int .i64 0, .int .i64 0, .int .i64 0]) 3 24 Tryz.underlying46 infoTmR rfl (by decide) (by decide) A L.length c (tcells L) G (some ⟨w.heap.size, 0, none⟩) 1 1 (tcells [(due, n, item)]) (by simp [Act.eval]) (by simp [Act.eval]) (by exact (hs.alloc _).drew1) (by exact (Src.made (sz := 3) w 84 #[.int .i64 due, .int .i64 n, .int .i64 item] 1 rfl).keep (Tch.refl NoBlk _).drew (fun _ _ h => h)) (tcells_one [(due, n, item)]) (by omega) ?_; intro A6 c6 w6 G6 hs6 ht6 hg6; have HS6 := Lib.hid hs6; have HT6 : Hid (Tch (fun k => G = some k) w w6) := Lib.hid (Tch.then ((Tch.refl _ w).alloc _).drew ht6 (fun _ _ h => h)); have HG6 := Lib.hid hg6; have hb6 := hb.keep HT6.out hnb; have hc6 := hb6.cellOf o _ hat; have hf6 := hb6.free o; clear hs6 ht6 hg6 hb6)
  all_goals
    have hlen : (L ++ [(due, n, item)]).length = L.length + 1 := by simp
    have h7 := HH.out.row (L' := L ++ [(due, n, item)]) (A' := A6) (c' := c6) (G' := G6) HT6.out (by rw [hlen]; omega) (by rw [hlen, tcells_app]; exact HS6.out) (fun g e => HG6.out.elim (fun h1 => .inl (h1 ▸ e)) (fun ⟨g', h1, h2⟩ => by rw [h1] at e; injection e with e; subst e; simp at h2; exact .inr (by omega)))
    rw [hlen] at h7
    obtain ⟨h7, hT7⟩ := h7
    have HG7 : Hid (∀ g, G6 = some g → G = some g ∨ w.heap.size ≤ g) := Lib.hid (fun g e => HG6.out.elim (fun h1 => .inl (h1 ▸ e)) (fun ⟨g', h1, h2⟩ => by rw [h1] at e; injection e with e; subst e; simp at h2; exact .inr (by omega)))
    clear HS6 HT6 HG6 hc6 hf6
    generalize w6.setCell ⟨b, o, none⟩ (.slice A6 (L.length + 1) c6) = w7 at *
    have hc7 := h7.blk.cellOf (o + 1) _ h7.num
    have hf7 := h7.blk.free (o + 1)
    obtain ⟨h8, hT8⟩ := h7.count (n + 1)
    have hc8 := h8.blk.cellOf (o + 1) _ h8.num
    have HE : Hid (RefTimLeft w (w7.setCell ⟨b, o + 1, none⟩ (.int .i64 (n + 1))) b ty cs o F (L ++ [(due, n, item)]) (n + 1)) := Lib.hid ⟨(hT7.mono (fun k _ e => (HF.out k).2 e)).trans (hT8.mono (fun k _ e => (HF.out k).2 (.inl e))), _, _, fun k => k = b ∨ G6 = some k, ⟨A6, c6, G6, h8, fun _ => Iff.rfl⟩, fun k hk => hk.elim (fun e => .inl ((HF.out k).2 (.inl e))) (fun e => (HG7.out k e).elim (fun e => .inl ((HF.out k).2 (.inr e))) .inr)⟩
    clear h7 hT7 h8 hT8 hs hb HG7
    go_wp2
    go_ret2
    exact ⟨by simp, HE.out⟩
theorem reftim_put_full (b o : Nat) (ty : TypeId) (cs : List Value) (L : List Tm) (n : Int) (F : Nat → Prop) (due item : Int) (w : World) (h : RefTimQ w b ty cs o L n F) (hl : L.length = 64) :
    Calls Tryz.prog 69 #[.pointer (some ⟨b, o, none⟩), .int .i64 due, .int .i64 item] w fun e w' => e = .returned (.tuple #[.int .i64 0, .int .i64 140]) ∧ w' = w := by
  obtain ⟨A, c, G, h, hF⟩ := h
  have hc := h.blk.cellOf o _ h.at_
  rw [hl] at hc
  clear h hF
  go_enter Tryz.func69, Tryz.ntmps69
  go_wp2
  go_ret2
  exact ⟨rfl, rfl⟩

theorem reftim_next (b o : Nat) (ty : TypeId) (cs : List Value) (L : List Tm) (n : Int) (F : Nat → Prop) (w : World) (h : RefTimQ w b ty cs o L n F) (O : RowOk L n) :
    Calls Tryz.prog 14 #[.pointer (some ⟨b, o, none⟩)] w fun e w' => e = .returned (.tuple #[.int .i64 (nextM L).1, .bool (nextM L).2]) ∧ ∃ k, w' = w.drewN k := by
  obtain ⟨A, c, G, h, _⟩ := h
  have HH := Lib.hid h
  have HO := Lib.hid O
  have hc := h.blk.cellOf o _ h.at_
  have hle := h.le
  have hcap := h.sl.cap_le
  clear h O
  go_enter Tryz.func14, Tryz.ntmps14
  go_wp2_with fail
  refine (reftim_first w HH.out).mono ?_
  rintro e w' ⟨⟨rfl, rfl⟩ | ⟨k, hk, rfl, h1, h2⟩, q, rfl⟩
  · clear HH HO
    go_wp2
    go_ret2
    exact ⟨rfl, _, rfl⟩
  · have e := HO.out.firstAt hk h1 h2
    have HE : Hid (nextM L = ((tat L k).1, true)) := Lib.hid (by unfold nextM; rw [e])
    obtain ⟨g, rfl, rfl, hcl⟩ := HH.out.sl.cells (by omega)
    have ck := hcl _ _ (tcells_get L k hk).1
    have hneg : decide ((k : Int) < 0) = false := by simp
    clear HH HO hcl h1 h2 e
    go_wp2
    go_ret2
    exact ⟨by rw [HE.out]; rfl, _, rfl⟩

/-- What Due and Remove leave. -/
theorem reftim_due (b o : Nat) (ty : TypeId) (cs : List Value) (L : List Tm) (n : Int) (F : Nat → Prop) (now : Int) (w : World) (h : RefTimQ w b ty cs o L n F) (O : RowOk L n) :
    Calls Tryz.prog 78 #[.pointer (some ⟨b, o, none⟩), .int .i64 now] w fun e w' => e = .returned (.tuple #[.int .i64 (dueM L now).2.1, .bool (dueM L now).2.2]) ∧ RefTimLeft w w' b ty cs o F (dueM L now).1 n := by
  have HQ := Lib.hid h
  obtain ⟨A, c, G, h, _⟩ := h
  have HH := Lib.hid h
  have HO := Lib.hid O
  have hc := h.blk.cellOf o _ h.at_
  have hle := h.le
  have hcap := h.sl.cap_le
  clear h O
  go_enter Tryz.func78, Tryz.ntmps78
  go_wp2_with fail
  refine (reftim_first w HH.out).mono ?_
  rintro e w' ⟨⟨rfl, rfl⟩ | ⟨k, hk, rfl, h1, h2⟩, q, rfl⟩
  · have HE := Lib.hid (RefTimLeft.same HQ.out ((Tch.refl NoBlk w).drewN q))
    have hneg : decide ((-1 : Int) < 0) = true := by decide
    clear HH HO HQ
    go_wp2
    go_ret2
    exact ⟨rfl, HE.out⟩
  · have e := HO.out.firstAt hk h1 h2
    have HI : Hid (L.erase (tat L k) = L.eraseIdx k) := Lib.hid (HO.out.eraseAt hk)
    obtain ⟨g, rfl, rfl, hcl⟩ := HH.out.sl.cells (by omega)
    have ck := hcl _ _ (tcells_get L k hk).1
    have hneg : decide ((k : Int) < 0) = false := by simp
    by_cases hd : now < (tat L k).1
    · have hdi : decide (now < (tat L k).1) = true := by simpa using hd
      have HE : Hid (dueM L now = (L, 0, false)) := Lib.hid (by unfold dueM; rw [e]; exact if_pos hd)
      have HF := Lib.hid (RefTimLeft.same HQ.out ((Tch.refl NoBlk w).drewN q))
      clear HH HO hcl h1 h2 e HQ hd HI
      go_wp2
      go_ret2
      exact ⟨by rw [HE.out]; rfl, by rw [HE.out]; exact HF.out⟩
    · have hdi : decide (now < (tat L k).1) = false := by simpa using hd
      have HE : Hid (dueM L now = (L.eraseIdx k, (tat L k).2.2, true)) := Lib.hid (by unfold dueM; rw [e, ← HI.out]; exact if_neg hd)
      have HQ2 := Lib.hid (HQ.out.keep ((Tch.refl NoBlk w).drewN q) (fun _ _ h => h))
      clear HH HO hcl h1 h2 e HQ hd HI
      go_wp2_with fail
      refine (reftim_gone b o ty cs L n F k _ HQ2.out hk).mono ?_
      rintro e w2 ⟨rfl, hL, hR⟩
      have HR : Hid (RefTimLeft w w2 b ty cs o F (L.eraseIdx k) n) := Lib.hid ⟨((Tch.refl F w).drewN q).trans hL, hR⟩
      clear hL hR
      go_wp2
      go_ret2
      exact ⟨by rw [HE.out]; rfl, by rw [HE.out]; exact HR.out⟩
end Go.Proofs.YtipbimbnpikbcaaGreat

/- Rows of bools that the program makes. -/
namespace Go.Proofs.YtipbimbnpikbcaaGreat
open Go.RowKit

def bools (l : List Bool) : List Value := l.map fun x => .bool x
theorem bools_length (l : List Bool) : (bools l).length = l.length := by simp [bools]
theorem bools_get (l : List Bool) (k : Nat) (h : k < l.length) : (bools l)[k]? = some (.bool (l.getD k false)) := by simp [bools, List.getD_eq_getElem?_getD, h]
theorem bools_set (l : List Bool) (k : Nat) (x : Bool) : (bools l).set k (.bool x) = bools (l.set k x) := by simp [bools, List.map_set]
theorem infoBool : (Tryz.prog.info? 4).map (fun i => (i.zero, i.size, i.bytes)) = some (some (.bool false), 1, 1) := by kernel_rfl
theorem bools_set_get (l : List Bool) (k j : Nat) (x : Bool) (hj : j < l.length) : (l.set k x).getD j false = if j = k then x else l.getD j false := by
  by_cases e : j = k
  · subst e
    simp [List.getD_eq_getElem?_getD, hj]
  · rw [if_neg e]
    simp [List.getD_eq_getElem?_getD, Ne.symm e]

/-- 'make([]T, n)' of elements of one cell. -/
theorem wpList_mk {P : Program} {w : World} {ops : Array Oper} {rest : List Oper} {o : Oper} {a : Act} {Q : Exit → Act → World → Prop}
    (hg : o.guard = none) (l c : Operand) (t : TypeId) (hop : o.op = Op.makeSlice t l c)
    (e : TypeId) (z : Value) (bytes : Nat) (h1 : P.underlying t = some (.slice e)) (hinfo : (P.info? e).map (fun i => (i.zero, i.size, i.bytes)) = some (some z, 1, bytes)) (hz : z.cells = #[z])
    (n : Nat) (hl : a.eval l = .int .i64 n) (hc : a.eval c = .int .i64 n) (b2 : bytes * n ≤ 281474976710656) (b3 : n ≤ 9223372036854775807)
    (hK : ∀ w', Sl w' e 1 (some ⟨w.heap.size, 0, none⟩) n n (List.replicate n z) (some w.heap.size) → Tch NoBlk w w' → wpList P ops Q rest (a.put o.dst (.slice (some ⟨w.heap.size, 0, none⟩) n n)) w') : wpList P ops Q (o :: rest) a w := by
  obtain ⟨i, hi, hzz⟩ := Option.map_eq_some_iff.1 hinfo
  simp only [Prod.mk.injEq] at hzz
  obtain ⟨hz0, hz1, hz2⟩ := hzz
  refine wpList_make_full w hg l c t hop 0 e i z 1 h1 hi hz0 hz1 .i64 .i64 n n n hl hc rfl rfl (by rw [hz2]; exact b2) (by unfold maxLen; omega) (Nat.zero_le _) fun w' ho hgr => hK w' ⟨?_, rfl⟩ ?_
  · rw [hz, Nat.mul_one, toList_madeCells_one] at ho
    exact ho
  · exact (Tch.refl NoBlk w).grown hgr (fun k e => by cases e)
end Go.Proofs.YtipbimbnpikbcaaGreat
