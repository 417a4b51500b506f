import Derived.Test.YtipbimbnpikbcaaGreatMg09
import Derived.Test.YtipbimbnpikbcaaGreatMg21
import Derived.Test.YtipbimbnpikbcaaGreatMg03
/- The document's tree of tokens: which one each is below, and whether it was called off by itself: two rows, at two cells of some block. -/
namespace Go.Proofs.YtipbimbnpikbcaaGreat
open Go.RowKit

theorem bools_one (l : List Bool) : ∀ u ∈ bools l, u.oneCell' = true := by
  intro u hu
  simp only [bools, List.mem_map] at hu
  obtain ⟨x, _, rfl⟩ := hu
  rfl
/-- Called off: by itself, or by one above it. -/
def GoneUp (ab : List Int) (gone : List Bool) (j : Nat) : Prop := ∃ a, Comes ab a j ∧ gone.getD a false = true
def OffOf (ab : List Int) (off gone : List Bool) : Prop := ∀ j, j < ab.length → (off.getD j false = true ↔ GoneUp ab gone j)
theorem goneUp_yes {ab : List Int} {gone : List Bool} {k : Nat} (h : gone.getD k false = true) : GoneUp ab gone k := ⟨k, .self, h⟩
theorem goneUp_step {ab : List Int} {gone : List Bool} {k p : Nat} (hu : up ab k = some p) (h : gone.getD k false = false) : GoneUp ab gone k ↔ GoneUp ab gone p := by
  constructor
  · rintro ⟨a, h1, h2⟩
    cases h1 with
    | self => rw [h] at h2; cases h2
    | step h3 h4 =>
      rw [hu] at h3
      injection h3 with h3
      subst h3
      exact ⟨a, h4, h2⟩
  · rintro ⟨a, h1, h2⟩
    exact ⟨a, .step hu h1, h2⟩
theorem goneUp_top {ab : List Int} {gone : List Bool} {k : Nat} (hu : up ab k = none) (h : gone.getD k false = false) : ¬ GoneUp ab gone k := by
  rintro ⟨a, h1, h2⟩
  cases h1 with
  | self => rw [h] at h2; cases h2
  | step h3 h4 => rw [hu] at h3; cases h3
theorem offOf_cancel {ab : List Int} {off gone : List Bool} (H : TreeOk ab off) (hl : gone.length = ab.length) (h : OffOf ab off gone) (c : Nat) (hc : c < ab.length) : OffOf ab (offWith ab off c) (gone.set c true) := by
  have hg : ∀ a, a < ab.length → (gone.set c true).getD a false = if a = c then true else gone.getD a false := fun a ha => bools_set_get gone c a true (by omega)
  intro j hj
  rw [offWith_get hj, Bool.or_eq_true, h j hj, comes_iff H.wf]
  constructor
  · rintro (⟨a, h1, h2⟩ | h1)
    · refine ⟨a, h1, ?_⟩
      have := h1.le H.wf
      rw [hg a (by omega)]
      split
      · rfl
      · exact h2
    · refine ⟨c, h1, ?_⟩
      rw [hg c hc, if_pos rfl]
  · rintro ⟨a, h1, h2⟩
    have := h1.le H.wf
    rw [hg a (by omega)] at h2
    split at h2
    · rename_i e
      subst e
      exact .inr h1
    · exact .inl ⟨a, h1, h2⟩
theorem comes_snoc {ab : List Int} (H : TreeWf ab) (x : Int) {a j : Nat} (hj : j < ab.length) : Comes (ab ++ [x]) a j ↔ Comes ab a j := by
  constructor
  · intro h
    induction h with
    | self => exact .self
    | step h1 _ ih =>
      rw [up_snoc ab x _ hj] at h1
      have := (H.up h1).1
      exact .step h1 (ih (by omega))
  · intro h
    induction h with
    | self => exact .self
    | step h1 _ ih =>
      have := (H.up h1).1
      exact .step (by rw [up_snoc ab x _ hj]; exact h1) (ih (by omega))
theorem offOf_make {ab : List Int} {off gone : List Bool} (H : TreeOk ab off) (hl : gone.length = ab.length) (h : OffOf ab off gone) (x : Int) (hx : x = -1 ∨ 0 ≤ x ∧ x < ab.length) : OffOf (ab ++ [x]) (off ++ [toffM off x]) (gone ++ [false]) := by
  have hgo : ∀ a, a < ab.length → (gone ++ [false]).getD a false = gone.getD a false := fun a ha => by
    rw [List.getD_eq_getElem?_getD, List.getD_eq_getElem?_getD, List.getElem?_append_left (by omega)]
  have hgl : (gone ++ [false]).getD ab.length false = false := by
    rw [List.getD_eq_getElem?_getD, ← hl, List.getElem?_append_right (Nat.le_refl _)]
    simp
  have key : ∀ j, j < ab.length → (GoneUp (ab ++ [x]) (gone ++ [false]) j ↔ GoneUp ab gone j) := fun j hj => by
    constructor
    · rintro ⟨a, h1, h2⟩
      rw [comes_snoc H.wf x hj] at h1
      have := h1.le H.wf
      rw [hgo a (by omega)] at h2
      exact ⟨a, h1, h2⟩
    · rintro ⟨a, h1, h2⟩
      have := h1.le H.wf
      exact ⟨a, (comes_snoc H.wf x hj).2 h1, by rw [hgo a (by omega)]; exact h2⟩
  intro j hj
  rw [List.length_append, List.length_singleton] at hj
  by_cases hjl : j < ab.length
  · rw [List.getD_eq_getElem?_getD, List.getElem?_append_left (by rw [H.len]; exact hjl), ← List.getD_eq_getElem?_getD, h j hjl, key j hjl]
  · obtain rfl : j = ab.length := by omega
    have hlast : (ab ++ [x])[ab.length]? = some x := by simp
    rw [List.getD_eq_getElem?_getD, List.getElem?_append_right (by rw [H.len]; exact Nat.le_refl _), H.len]
    simp only [Nat.sub_self, List.getElem?_cons_zero, Option.getD_some]
    rcases hx with rfl | ⟨h0, h1⟩
    · have hu : up (ab ++ [-1]) ab.length = none := up_none hlast
      have := goneUp_top hu hgl
      simp [toffM, this]
    · obtain ⟨p, rfl⟩ := Int.eq_ofNat_of_zero_le h0
      have hu : up (ab ++ [(p : Int)]) ab.length = some p := up_of hlast
      have hp : p < ab.length := by omega
      rw [goneUp_step hu hgl, key p hp, ← h p hp]
      simp [toffM]

structure RefTreeAt (w : World) (b : Nat) (ty : TypeId) (cs : List Value) (o : Nat) (ab : List Int) (gone : List Bool) (A : Option Addr) (c : Nat) (G : Option Nat) (A' : Option Addr) (c' : Nat) (G' : Option Nat) : Prop where
  blk : Blk w b ty cs
  at0 : cs[o]? = some (.slice A ab.length c)
  at1 : cs[o + 1]? = some (.slice A' gone.length c')
  sl : Sl w 3 1 A ab.length c (ints ab) G
  sl2 : Sl w 4 1 A' gone.length c' (bools gone) G'
  nb : G ≠ some b
  nb2 : G' ≠ some b
  ne : ∀ g, G = some g → G' ≠ some g
  len : gone.length = ab.length
def RefTreeQ (w : World) (b : Nat) (ty : TypeId) (cs : List Value) (o : Nat) (ab : List Int) (off : List Bool) (F : Nat → Prop) : Prop :=
  ∃ gone A c G A' c' G', RefTreeAt w b ty cs o ab gone A c G A' c' G' ∧ TreeOk ab off ∧ OffOf ab off gone ∧ ∀ k, F k ↔ k = b ∨ G = some k ∨ G' = some k
def RefTreeLeft (w w' : World) (b : Nat) (ty : TypeId) (cs : List Value) (o : Nat) (F : Nat → Prop) (ab : List Int) (off : List Bool) : Prop :=
  Tch F w w' ∧ ∃ v u F', RefTreeQ w' b ty ((cs.set o v).set (o + 1) u) o ab off F' ∧ ∀ k, F' k → F k ∨ w.heap.size ≤ k

section
variable {w w' w2 : World} {b o : Nat} {ty : TypeId} {cs : List Value} {ab : List Int} {off gone : List Bool} {F S : Nat → Prop} {A : Option Addr} {c : Nat} {G : Option Nat} {A' : Option Addr} {c' : Nat} {G' : Option Nat}
theorem RefTreeAt.keep (h : RefTreeAt w b ty cs o ab gone A c G A' c' G') (ht : Tch S w w') (h0 : ¬ S b) (h1 : ∀ g, G = some g → ¬ S g) (h2 : ∀ g, G' = some g → ¬ S g) : RefTreeAt w' b ty cs o ab gone A c G A' c' G' :=
  ⟨h.blk.keep ht h0, h.at0, h.at1, h.sl.keep ht h1, h.sl2.keep ht h2, h.nb, h.nb2, h.ne, h.len⟩
theorem RefTreeQ.keep (h : RefTreeQ w b ty cs o ab off F) (ht : Tch S w w') (hS : ∀ k, F k → ¬ S k) : RefTreeQ w' b ty cs o ab off F := by
  obtain ⟨gone, A, c, G, A', c', G', h, h1, h2, hF⟩ := h
  exact ⟨gone, A, c, G, A', c', G', h.keep ht (hS _ ((hF _).2 (.inl rfl))) (fun g e => hS _ ((hF _).2 (.inr (.inl e)))) (fun g e => hS _ ((hF _).2 (.inr (.inr e)))), h1, h2, hF⟩
theorem RefTreeQ.lt (h : RefTreeQ w b ty cs o ab off F) : ∀ k, F k → k < w.heap.size := by
  obtain ⟨gone, A, c, G, A', c', G', h, _, _, hF⟩ := h
  intro k hk
  rcases (hF k).1 hk with rfl | hk | hk
  · exact h.blk.lt
  · exact h.sl.lt k hk
  · exact h.sl2.lt k hk
theorem RefTreeQ.ok (h : RefTreeQ w b ty cs o ab off F) : TreeOk ab off := by
  obtain ⟨_, _, _, _, _, _, _, _, h, _⟩ := h
  exact h
theorem RefTreeQ.lenOf (h : RefTreeQ w b ty cs o ab off F) : ∃ A c, cs[o]? = some (.slice A ab.length c) ∧ ab.length ≤ c ∧ c ≤ 9223372036854775807 := by
  obtain ⟨gone, A, c, G, A', c', G', h, _⟩ := h
  exact ⟨A, c, h.at0, h.sl.cap_le⟩
theorem set_same2 {cs : List Value} {o : Nat} {v : Value} (h : cs[o]? = some v) : cs.set o v = cs := by
  obtain ⟨hl, e⟩ := List.getElem?_eq_some_iff.1 h
  rw [← e]
  exact List.set_getElem_self hl
theorem RefTreeQ.left (h : RefTreeQ w' b ty cs o ab off F) (ht : Tch F w w') : RefTreeLeft w w' b ty cs o F ab off := by
  have h2 := h
  obtain ⟨gone, A, c, G, A', c', G', h, _⟩ := h
  refine ⟨ht, .slice A ab.length c, .slice A' gone.length c', F, ?_, fun k hk => .inl hk⟩
  rw [set_same2 h.at0, set_same2 h.at1]
  exact h2

theorem reftree_off_at (id : Int) (h : RefTreeAt w b ty cs o ab gone A c G A' c' G') (h1 : TreeOk ab off) (h2 : OffOf ab off gone) :
    Calls Tryz.prog 53 #[.pointer (some ⟨b, o, none⟩), .int .i64 id] w fun e w' => e = .returned (.bool (toffM off id)) ∧ w' = w := by
  have hc := h.blk.cellOf o _ h.at0
  have hc1 := h.blk.cellOf (o + 1) _ h.at1
  have hle := h1.le
  have hgl := h.len
  rw [hgl] at hc1
  have HH := Lib.hid h
  have H1 := Lib.hid h1
  have H2 := Lib.hid h2
  have hcap := h.sl.cap_le
  have hcap2 := h.sl2.cap_le
  rw [hgl] at hcap2
  have HGL := Lib.hid hgl
  clear h h1 h2 hgl
  by_cases hid : (ab.length : Int) ≤ id
  · have e1 : toffM off id = false := by
      unfold toffM
      have : off.length ≤ id.toNat := by have := H1.out.len; omega
      simp [List.getD_eq_getElem?_getD, List.getElem?_eq_none this]
    rw [e1]
    have hd : decide ((ab.length : Int) ≤ id) = true := by simpa using hid
    clear e1 hid
    go_enter Tryz.func53, Tryz.ntmps53
    go_wp2
    go_ret
    exact ⟨rfl, rfl⟩
  · have hd : decide ((ab.length : Int) ≤ id) = false := by simp; omega
    have hid2 : id < ab.length := by omega
    go_enter Tryz.func53, Tryz.ntmps53
    go_wp2_with fail
    go_loopw [5] (fun y wr => ∃ x : Int, y = .int .i64 x ∧ x < ab.length ∧ wr = w ∧ (toffM off id = true ↔ ∃ k : Nat, x = k ∧ GoneUp ab gone k)) (fun y _ => (intOf y + 1).toNat)
    case atStart =>
      refine ⟨id, rfl, hid2, rfl, ?_⟩
      unfold toffM
      constructor
      · intro h
        rw [Bool.and_eq_true, decide_eq_true_eq] at h
        obtain ⟨k, rfl⟩ := Int.eq_ofNat_of_zero_le h.1
        exact ⟨k, rfl, (H2.out k (by omega)).1 (by simpa using h.2)⟩
      · rintro ⟨k, rfl, h⟩
        rw [Bool.and_eq_true, decide_eq_true_eq]
        exact ⟨by omega, by simpa using (H2.out k (by omega)).2 h⟩
    case round =>
      obtain ⟨x, rfl, hx, rfl, hI⟩ := hrel
      by_cases h0 : 0 ≤ x
      · obtain ⟨k, rfl⟩ := Int.eq_ofNat_of_zero_le h0
        have hk : k < ab.length := by omega
        have hd0 : decide ((0 : Int) ≤ (k : Int)) = true := by simp
        obtain ⟨g2, e2, _, hcl2⟩ := HH.out.sl2.cells (by have := HGL.out; omega)
        have cg := hcl2 _ _ (bools_get gone k (by have := HGL.out; omega))
        obtain ⟨g, e1, _, hcl⟩ := HH.out.sl.cells (by omega)
        have ca := hcl _ _ (ints_get ab k hk)
        rw [e2] at hc1
        rw [e1] at hc
        clear hcl hcl2
        by_cases hg : gone.getD k false = true
        · rw [hg] at cg
          have HR : Hid (toffM off id = true) := Lib.hid (hI.2 ⟨k, rfl, goneUp_yes hg⟩)
          clear hI hg h0
          go_wp2
          go_ret
          exact ⟨by rw [HR.out]; rfl, rfl⟩
        · have hg2 : gone.getD k false = false := by simpa using hg
          rw [hg2] at cg
          have hab : ab[k]? = some (ab.getD k 0) := by simp [List.getD_eq_getElem?_getD, hk]
          have hwf := H1.out.wf k _ hab
          have HN : Hid (toffM off id = true ↔ ∃ q : Nat, ab.getD k 0 = q ∧ GoneUp ab gone q) := Lib.hid (by
            rw [hI]
            constructor
            · rintro ⟨k', e, h⟩
              obtain rfl : k = k' := by omega
              by_cases hn : ab.getD k 0 = -1
              · rw [hn] at hab
                exact absurd h (goneUp_top (up_none hab) hg2)
              · obtain ⟨p, hp⟩ := Int.eq_ofNat_of_zero_le (show 0 ≤ ab.getD k 0 by omega)
                rw [hp] at hab
                exact ⟨p, hp, (goneUp_step (up_of hab) hg2).1 h⟩
            · rintro ⟨p, hp, h⟩
              rw [hp] at hab
              exact ⟨k, rfl, (goneUp_step (up_of hab) hg2).2 h⟩)
          have hv1 : ab.getD k 0 < k := hwf.2
          have hv2 : -1 ≤ ab.getD k 0 := hwf.1
          clear hI hg hg2 h0 hab hwf
          generalize ab.getD k 0 = y at *
          go_wp2
          go_roundw
          case rel => exact ⟨y, rfl, by omega, by trivial, HN.out⟩
          case measure => simp [intOf]; omega
      · have hd0 : decide ((0 : Int) ≤ x) = false := by simpa using h0
        have HR : Hid (toffM off id = false) := Lib.hid (by
          cases e : toffM off id with
          | false => rfl
          | true =>
            obtain ⟨k, e2, _⟩ := hI.1 e
            omega)
        clear hI h0
        go_wp2
        go_ret
        exact ⟨by rw [HR.out]; rfl, rfl⟩
end
theorem reftree_off (b o : Nat) (ty : TypeId) (cs : List Value) (ab : List Int) (off : List Bool) (F : Nat → Prop) (id : Int) (w : World) (h : RefTreeQ w b ty cs o ab off F) :
    Calls Tryz.prog 53 #[.pointer (some ⟨b, o, none⟩), .int .i64 id] w fun e w' => e = .returned (.bool (toffM off id)) ∧ w' = w := by
  obtain ⟨gone, A, c, G, A', c', G', h, h1, h2, _⟩ := h
  exact reftree_off_at id h h1 h2
end Go.Proofs.YtipbimbnpikbcaaGreat
