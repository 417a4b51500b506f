/- CancelRows' walk. -/
import Derived.Test.YtbdfcoclmmhblaaCancelMany
import Derived.Deep.CutRange
namespace Go.Proofs.Ytbdfcoclmmhblaa
open Go.RowKit

/-- Two rows of integers are the same where their lists are; the second one lies anywhere. -/
theorem ints_same_at (A : Option Addr) (c g' o' c' : Nat) (x : List Int) (m : Nat) (hm : x.length = m) (G : Option Nat) (w : World) (h : Sl w 3 1 A m c (ints x) G) (h' : ∀ j, j < m → w.cell? ⟨g', o' + j, none⟩ = some (.int .i64 (x.getD j 0))) (hc' : m ≤ c') (hc2 : c' ≤ 9223372036854775807) :
    Calls Try.prog 14 #[.slice A m c, .slice (some ⟨g', o', none⟩) m c'] w fun e w' => e = .returned (.bool true) ∧ ∃ k, w' = w.drewN k := by
  have hcap := h.cap_le
  have HM := Lib.hid hm
  clear hm
  go_enter Try.func14, Try.ntmps14
  go_wp2_with fail
  go_loopw [5] (fun i wr => ∃ k n : Nat, i = .int .i64 k ∧ k ≤ m ∧ wr = w.drewN n) (fun i _ => m - (intOf i).toNat)
  case atStart => exact ⟨0, 0, rfl, by omega, rfl⟩
  case round =>
    obtain ⟨k, n, rfl, hk, rfl⟩ := hrel
    by_cases hlt : k < m
    · obtain ⟨g, rfl, rfl, hc⟩ := h.cells (by omega)
      have e1 := ints_get x k (by have := HM.out; omega)
      have c1 : (w.drewN n).cell? ⟨g, k, none⟩ = _ := hc _ _ e1
      have c3 : (w.drewN n).cell? ⟨g', o' + k, none⟩ = _ := h' k hlt
      have d1 : w.cell? ⟨g, k, none⟩ = _ := hc _ _ e1
      have d3 : w.cell? ⟨g', o' + k, none⟩ = _ := h' k hlt
      clear hc h' e1
      generalize x.getD k 0 = p at *
      go_wp2_with fail
      go_quiet (fail)
      go_wp2
      go_roundw
      case rel => exact ⟨k + 1, _, num (by omega), by omega, rfl⟩
      case measure => simp [intOf]; omega
    · go_wp2
      go_ret
      exact ⟨rfl, _, rfl⟩

/-- A row of tokens: its first, how many, where it lies. -/
structure Rw where
  s : Nat
  n : Nat
  A : Option Addr
  c : Nat
  G : Option Nat
def Rw.val (x : Rw) : Value := .slice x.A x.n x.c
def rwcells (rs : List Rw) : List Value := rs.map Rw.val
theorem rwcells_one (rs : List Rw) : ∀ u ∈ rwcells rs, u.oneCell' = true := by
  intro u hu
  simp only [rwcells, List.mem_map] at hu
  obtain ⟨x, _, rfl⟩ := hu
  rfl
theorem infoRow : (Try.prog.info? 22).map (fun i => (i.zero, i.size, i.bytes)) = some (some (.slice none 0 0), 1, 24) := by kernel_rfl

def rowAb (s q : Nat) : List Int := (List.range q).map fun p => if p = 0 then -1 else ((s + p - 1 : Nat) : Int)
theorem rowAb_length (s q : Nat) : (rowAb s q).length = q := by simp [rowAb]
theorem rowAb_snoc (s q : Nat) : rowAb s (q + 1) = rowAb s q ++ [if q = 0 then -1 else ((s + q - 1 : Nat) : Int)] := by simp [rowAb, List.range_succ]
/-- The one ahead in the row. -/
def aboveOf (s q : Nat) : Int := if q = 0 then -1 else ((s + q - 1 : Nat) : Int)
theorem rows_make (ab : List Int) (q : Nat) (hl : ab.length + q < 1024) : tmakeM (ab ++ rowAb ab.length q) (offs (ab.length + q)) (aboveOf ab.length q) = ((ab ++ rowAb ab.length (q + 1), offs (ab.length + (q + 1))), ((ab.length + q : Nat) : Int), 0) := by
  have e : (ab ++ rowAb ab.length q).length = ab.length + q := by rw [List.length_append, rowAb_length]
  have ha : aboveOf ab.length q = -1 ∨ (0 ≤ aboveOf ab.length q ∧ aboveOf ab.length q < ((ab.length + q : Nat) : Int)) := by
    unfold aboveOf
    split
    · exact .inl rfl
    · right
      omega
  unfold tmakeM
  rw [e, if_neg (by omega), if_neg (by omega), toffM_offs, rowAb_snoc, ← Nat.add_assoc, offs_snoc, ← List.append_assoc]
  rfl

structure RowsOk (ab : List Int) (rs : List Rw) : Prop where
  seg : ∀ x ∈ rs, 0 < x.n ∧ x.s + x.n ≤ ab.length ∧ ∀ p, p < x.n → ab[x.s + p]? = some (if p = 0 then -1 else ((x.s + p - 1 : Nat) : Int))
  cov : ∀ t, t < ab.length → ∃ x ∈ rs, x.s ≤ t ∧ t < x.s + x.n
  ord : rs.Pairwise (fun x y => x.s + x.n ≤ y.s)
theorem RowsOk.more {ab : List Int} {rs : List Rw} (h : RowsOk ab rs) (y : Rw) (hs : y.s = ab.length) (hn : 0 < y.n) : RowsOk (ab ++ rowAb ab.length y.n) (rs ++ [y]) := by
  have e : (ab ++ rowAb ab.length y.n).length = ab.length + y.n := by rw [List.length_append, rowAb_length]
  refine ⟨fun x hx => ?_, fun t ht => ?_, List.pairwise_append.2 ⟨h.ord, List.pairwise_singleton _ _, fun x hx z hz => ?_⟩⟩
  · rcases List.mem_append.1 hx with hx | hx
    · obtain ⟨h1, h2, h3⟩ := h.seg x hx
      refine ⟨h1, by omega, fun p hp => ?_⟩
      rw [List.getElem?_append_left (by omega)]
      exact h3 p hp
    · rw [List.mem_singleton.1 hx]
      refine ⟨hn, by omega, fun p hp => ?_⟩
      rw [hs, List.getElem?_append_right (by omega)]
      have : ab.length + p - ab.length = p := by omega
      rw [this]
      simp [rowAb, hp]
  · rw [e] at ht
    by_cases h1 : t < ab.length
    · obtain ⟨x, hx, h2⟩ := h.cov t h1
      exact ⟨x, List.mem_append_left _ hx, h2⟩
    · exact ⟨y, List.mem_append_right _ (List.mem_singleton.2 rfl), by omega, by omega⟩
  · rw [List.mem_singleton.1 hz]
    have := (h.seg x hx).2.1
    omega
theorem RowsOk.wf {ab : List Int} {rs : List Rw} (h : RowsOk ab rs) : TreeWf ab := by
  intro j x hx
  obtain ⟨hl, _⟩ := List.getElem?_eq_some_iff.1 hx
  obtain ⟨y, hy, h1, h2⟩ := h.cov j hl
  have h3 := (h.seg y hy).2.2 (j - y.s) (by omega)
  rw [show y.s + (j - y.s) = j by omega, hx] at h3
  injection h3 with h3
  split at h3 <;> omega
theorem RowsOk.comes {ab : List Int} {rs : List Rw} (h : RowsOk ab rs) {x : Rw} (hx : x ∈ rs) (c p : Nat) (hp : p < x.n) : Comes ab c (x.s + p) ↔ x.s ≤ c ∧ c ≤ x.s + p := by
  induction p with
  | zero =>
    have h3 := (h.seg x hx).2.2 0 hp
    rw [if_pos rfl] at h3
    constructor
    · intro h1
      cases h1 with
      | self => omega
      | step h4 _ =>
        rw [up_none h3] at h4
        cases h4
    · intro h1
      obtain rfl : c = x.s + 0 := by omega
      exact .self
  | succ p ih =>
    have h3 := (h.seg x hx).2.2 (p + 1) hp
    rw [if_neg (by omega), show x.s + (p + 1) - 1 = x.s + p by omega] at h3
    have hu := up_of h3
    constructor
    · intro h1
      cases h1 with
      | self => omega
      | step h4 h5 =>
        rw [hu] at h4
        injection h4 with h4
        subst h4
        have := (ih (by omega)).1 h5
        omega
    · intro h1
      by_cases e : c = x.s + (p + 1)
      · rw [e]
        exact .self
      · exact .step hu ((ih (by omega)).2 (by omega))
theorem RowsOk.apart {ab : List Int} {rs : List Rw} (h : RowsOk ab rs) {j k : Nat} (hj : j < rs.length) (hk : k < rs.length) (hne : j ≠ k) : rs[j].s + rs[j].n ≤ rs[k].s ∨ rs[k].s + rs[k].n ≤ rs[j].s := by
  rcases Nat.lt_or_gt_of_ne hne with h1 | h1
  · exact .inl (List.pairwise_iff_getElem.1 h.ord j k hj hk h1)
  · exact .inr (List.pairwise_iff_getElem.1 h.ord k j hk hj h1)
theorem rows_cancel {ab : List Int} {rs : List Rw} (h : RowsOk ab rs) {k : Nat} (hk : k < rs.length) (i : Nat) (hi : i < rs[k].n) :
    tcancelM ab (offs ab.length) ((rs[k].s + i : Nat) : Int) = (offWith ab (offs ab.length) (rs[k].s + i), iota (rs[k].s + i) (rs[k].n - i), 0) := by
  have hm : rs[k] ∈ rs := List.getElem_mem hk
  have hseg := h.seg _ hm
  unfold tcancelM
  rw [if_pos (by omega), Int.toNat_natCast]
  congr 2
  refine rows_same (List.pairwise_map.2 ((newOff_inc _ _ _).imp (fun {a b} e => by omega))) (List.pairwise_map.2 (List.pairwise_lt_range.imp (fun {a b} e => by omega))) fun t => ?_
  simp only [List.mem_map, iota]
  constructor
  · rintro ⟨q, hq, rfl⟩
    obtain ⟨h1, h2, _⟩ := (newOff_mem h.wf).1 hq
    obtain ⟨y, hy, h3, h4⟩ := h.cov q h1
    have h5 := (h.comes hy (rs[k].s + i) (q - y.s) (by omega)).1 (by rw [show y.s + (q - y.s) = q by omega]; exact h2)
    obtain ⟨j, hj, rfl⟩ := List.mem_iff_getElem.1 hy
    have hjk : j = k := by
      by_cases e : j = k
      · exact e
      · rcases h.apart hj hk e with e | e <;> omega
    subst hjk
    exact ⟨q - (rs[j].s + i), List.mem_range.2 (by omega), by omega⟩
  · rintro ⟨q, hq, rfl⟩
    have := List.mem_range.1 hq
    refine ⟨rs[k].s + i + q, (newOff_mem h.wf).2 ⟨by omega, ?_, offs_get _ _⟩, rfl⟩
    rw [show rs[k].s + i + q = rs[k].s + (i + q) by omega]
    exact (h.comes hm _ (i + q) (by omega)).2 (by omega)
theorem rows_off {ab : List Int} {rs : List Rw} (h : RowsOk ab rs) {k : Nat} (hk : k < rs.length) (i : Nat) (hi : i < rs[k].n) {j : Nat} (hj : j < rs.length) (p : Nat) (hp : p < rs[j].n) :
    toffM (offWith ab (offs ab.length) (rs[k].s + i)) ((rs[j].s + p : Nat) : Int) = (decide (j = k) && decide (i ≤ p)) := by
  have hm : rs[j] ∈ rs := List.getElem_mem hj
  have hseg := h.seg _ hm
  have e := offWith_get (ab := ab) (off := offs ab.length) (c := rs[k].s + i) (j := rs[j].s + p) (by omega)
  rw [offs_get, Bool.false_or] at e
  unfold toffM
  rw [Int.toNat_natCast, e, decide_eq_true (by omega : (0 : Int) ≤ ((rs[j].s + p : Nat) : Int)), Bool.true_and, Bool.eq_iff_iff, comes_iff h.wf, h.comes hm _ p hp, Bool.and_eq_true, decide_eq_true_eq, decide_eq_true_eq]
  constructor
  · intro h1
    have hjk : j = k := by
      by_cases e : j = k
      · exact e
      · rcases h.apart hj hk e with e | e <;> omega
    subst hjk
    exact ⟨rfl, by omega⟩
  · rintro ⟨rfl, h2⟩
    omega

/-- The tree, and the rows. -/
structure RowI (w0 w : World) (b : Nat) (ab : List Int) (off : List Bool) (F : Nat → Prop) (A9 : Option Addr) (c9 : Nat) (G9 : Option Nat) (rs : List Rw) : Prop where
  tr : CanI w0 w b ab off F
  sl : Sl w 22 1 A9 rs.length c9 (rwcells rs) G9
  each : ∀ x ∈ rs, Sl w 3 1 x.A x.n x.c (ints (iota x.s x.n)) x.G
  g9 : ∀ g, G9 = some g → ¬ F g ∧ w0.heap.size ≤ g
  gx : ∀ x ∈ rs, ∀ g, x.G = some g → ¬ F g ∧ w0.heap.size ≤ g ∧ G9 ≠ some g
section
variable {w0 w w' : World} {b : Nat} {ab ab' : List Int} {off off' : List Bool} {F F' : Nat → Prop} {A9 : Option Addr} {c9 : Nat} {G9 : Option Nat} {rs : List Rw}
theorem RowI.made (h : RowI w0 w b ab off F A9 c9 G9 rs) (hT : Tch F w w') (hI : CanI w0 w' b ab' off' F') (hF : ∀ k, F' k → F k ∨ w.heap.size ≤ k) : RowI w0 w' b ab' off' F' A9 c9 G9 rs := by
  refine ⟨hI, h.sl.keep hT (fun g e => (h.g9 g e).1), fun x hx => (h.each x hx).keep hT (fun g e => (h.gx x hx g e).1), fun g e => ⟨fun hf => ?_, (h.g9 g e).2⟩, fun x hx g e => ⟨fun hf => ?_, (h.gx x hx g e).2⟩⟩
  · rcases hF g hf with h1 | h1
    · exact (h.g9 g e).1 h1
    · have := h.sl.lt g e
      omega
  · rcases hF g hf with h1 | h1
    · exact (h.gx x hx g e).1 h1
    · have := (h.each x hx).lt g e
      omega
theorem RowI.keep {S : Nat → Prop} (h : RowI w0 w b ab off F A9 c9 G9 rs) (hT : Tch S w w') (hS : ∀ k, S k → w0.heap.size ≤ k ∧ ¬ F k ∧ G9 ≠ some k ∧ ∀ x ∈ rs, x.G ≠ some k) : RowI w0 w' b ab off F A9 c9 G9 rs :=
  ⟨h.tr.keep hT (fun k hk e => (hS k e).2.1 hk) (fun k e => (hS k e).1), h.sl.keep hT (fun g e hs => (hS g hs).2.2.1 e), fun x hx => (h.each x hx).keep hT (fun g e hs => (hS g hs).2.2.2 x hx e), h.g9, h.gx⟩
theorem RowI.head (h : RowI w0 w b ab off F A9 c9 G9 rs) (hl : 0 < rs.length) : ∃ g, A9 = some ⟨g, 0, none⟩ := by
  obtain ⟨g, e, _, _⟩ := h.sl.cells hl
  exact ⟨g, e⟩
theorem RowI.rowCell (h : RowI w0 w b ab off F A9 c9 G9 rs) {g j : Nat} {x : Rw} (hg : A9 = some ⟨g, 0, none⟩) (hx : rs[j]? = some x) : w.cell? ⟨g, j, none⟩ = some (.slice x.A x.n x.c) := by
  have hj : j < rs.length := (List.getElem?_eq_some_iff.1 hx).1
  obtain ⟨g', e, _, hcl⟩ := h.sl.cells (by omega)
  rw [hg] at e
  injection e with e
  injection e with e
  subst e
  exact hcl _ _ (by simp [rwcells, Rw.val, hx])
theorem RowI.itemHead (h : RowI w0 w b ab off F A9 c9 G9 rs) {x : Rw} (hx : x ∈ rs) (hn : 0 < x.n) : ∃ g, x.A = some ⟨g, 0, none⟩ := by
  obtain ⟨g, e, _, _⟩ := (h.each _ hx).cells hn
  exact ⟨g, e⟩
theorem RowI.itemCell (h : RowI w0 w b ab off F A9 c9 G9 rs) {g p : Nat} {x : Rw} (hx : x ∈ rs) (hg : x.A = some ⟨g, 0, none⟩) (hp : p < x.n) : w.cell? ⟨g, p, none⟩ = some (.int .i64 ((x.s + p : Nat) : Int)) := by
  obtain ⟨g', e, _, hcl⟩ := (h.each _ hx).cells (by omega)
  rw [hg] at e
  injection e with e
  injection e with e
  subst e
  have := hcl _ _ (ints_get (iota x.s x.n) p (by rw [iota_length]; exact hp))
  rwa [iota_getD _ _ _ hp] at this
theorem at_mem {x : Rw} {j : Nat} (hx : rs[j]? = some x) : x ∈ rs := List.mem_of_getElem? hx
theorem rows_cancel' (h : RowsOk ab rs) {k : Nat} {x : Rw} (hx : rs[k]? = some x) (i : Nat) (hi : i < x.n) : tcancelM ab (offs ab.length) ((x.s + i : Nat) : Int) = (offWith ab (offs ab.length) (x.s + i), iota (x.s + i) (x.n - i), 0) := by
  obtain ⟨hk, rfl⟩ := List.getElem?_eq_some_iff.1 hx
  exact rows_cancel h hk i hi
theorem rows_off' (h : RowsOk ab rs) {k : Nat} {x : Rw} (hx : rs[k]? = some x) (i : Nat) (hi : i < x.n) {j : Nat} {y : Rw} (hy : rs[j]? = some y) (p : Nat) (hp : p < y.n) : toffM (offWith ab (offs ab.length) (x.s + i)) ((y.s + p : Nat) : Int) = (decide (j = k) && decide (i ≤ p)) := by
  obtain ⟨hk, rfl⟩ := List.getElem?_eq_some_iff.1 hx
  obtain ⟨hj, rfl⟩ := List.getElem?_eq_some_iff.1 hy
  exact rows_off h hk i hi hj p hp
/-- A row is put behind the others. -/
theorem RowI.more (h : RowI w0 w b ab off F A9 c9 G9 rs) (y : Rw) (hT : Tch (fun k => G9 = some k) w w') {A : Option Addr} {c : Nat} {G : Option Nat} (hs : Sl w' 22 1 A (rs.length + 1) c (rwcells rs ++ [y.val]) G) (hG : G = G9 ∨ ∃ g, G = some g ∧ w.heap.size ≤ g)
    (hy : Sl w 3 1 y.A y.n y.c (ints (iota y.s y.n)) y.G) (hgy : ∀ g, y.G = some g → ¬ F g ∧ w0.heap.size ≤ g ∧ G9 ≠ some g) : RowI w0 w' b ab off F A c G (rs ++ [y]) := by
  have e : (rs ++ [y]).length = rs.length + 1 := by simp
  have hb := h.tr.below.size
  have hnew : ∀ g, G = some g → G9 = some g ∨ w.heap.size ≤ g := fun g hg => by
    rcases hG with e | ⟨q, e, hq⟩
    · exact .inl (e ▸ hg)
    · rw [e] at hg
      injection hg with hg
      exact .inr (by omega)
  refine ⟨h.tr.keep hT (fun k hk e => (h.g9 k e).1 hk) (fun k e => (h.g9 k e).2), by rw [e, rwcells, List.map_append]; exact hs, fun x hx => ?_, fun g hg => ?_, fun x hx g hg => ?_⟩
  · rcases List.mem_append.1 hx with hx | hx
    · exact (h.each x hx).keep hT (fun g e he => (h.gx x hx g e).2.2 he)
    · rw [List.mem_singleton.1 hx]
      exact hy.keep hT (fun g e he => (hgy g e).2.2 he)
  · rcases hnew g hg with e | e
    · exact h.g9 g e
    · exact ⟨fun hf => by have := h.tr.q.lt g hf; omega, by omega⟩
  · rcases List.mem_append.1 hx with hx | hx
    · obtain ⟨h1, h2, h3⟩ := h.gx x hx g hg
      refine ⟨h1, h2, fun e => ?_⟩
      rcases hnew g e with e2 | e2
      · exact h3 e2
      · have := (h.each x hx).lt g hg
        omega
    · have hx2 := List.mem_singleton.1 hx
      rw [hx2] at hg
      obtain ⟨h1, h2, h3⟩ := hgy g hg
      refine ⟨h1, h2, fun e => ?_⟩
      rcases hnew g e with e2 | e2
      · exact h3 e2
      · have := hy.lt g hg
        omega
end

def RowIn (w wr : World) (b : Nat) (ab : List Int) (s q0 : Nat) (A9 : Option Addr) (c9 : Nat) (G9 : Option Nat) (rs : List Rw) (x t i : Value) : Prop :=
  ∃ (q : Nat) (F : Nat → Prop) (A3 : Option Addr) (c3 : Nat) (G3 : Option Nat), i = .int .i64 q ∧ x = .int .i64 (aboveOf s q) ∧ t = .slice A3 q c3 ∧ q ≤ q0 + 1 ∧ RowI w wr b (ab ++ rowAb s q) (offs (s + q)) F A9 c9 G9 rs ∧ Sl wr 3 1 A3 q c3 (ints (iota s q)) G3 ∧ ∀ g, G3 = some g → ¬ F g ∧ w.heap.size ≤ g ∧ G9 ≠ some g ∧ ∀ x ∈ rs, x.G ≠ some g
def RowOut (w wr : World) (b n : Nat) (t i : Value) : Prop :=
  ∃ (k : Nat) (ab : List Int) (F : Nat → Prop) (A9 : Option Addr) (c9 : Nat) (G9 : Option Nat) (rs : List Rw), i = .int .i64 k ∧ t = .slice A9 rs.length c9 ∧ k ≤ n ∧ rs.length = k ∧ ab.length ≤ 20 * k ∧ RowI w wr b ab (offs ab.length) F A9 c9 G9 rs ∧ RowsOk ab rs

set_option maxHeartbeats 4000000 in
set_option maxRecDepth 100000 in
theorem cancelRows_walk (a : Option Addr) (cap : Nat) (l : List Int) (x1 x2 : Int) (w : World) (h : IntsIn .u8 w a cap l) (h1 : IntKind.u8.min ≤ x1 ∧ x1 ≤ IntKind.u8.max) (h2 : IntKind.u8.min ≤ x2 ∧ x2 ≤ IntKind.u8.max) :
    Calls Try.prog 7 #[.slice a l.length cap, .int .u8 x1, .int .u8 x2] w fun e w' => e = .returned (.bool true) ∧ Below w.heap.size w w' := by
  simp only [IntKind.min, IntKind.max, IntKind.signed, IntKind.bits] at h1 h2
  obtain ⟨m1, rfl⟩ := Int.eq_ofNat_of_zero_le (show 0 ≤ x1 by simpa using h1.1)
  obtain ⟨m2, rfl⟩ := Int.eq_ofNat_of_zero_le (show 0 ≤ x2 by simpa using h2.1)
  have hm1 : m1 ≤ 255 := by have := h1.2; simp at this; omega
  have hm2 : m2 ≤ 255 := by have := h2.2; simp at this; omega
  have HE := Lib.hid h.cells
  have HW : Hid (∀ k, k < l.length → ∃ m : Nat, l.getD k 0 = m ∧ m ≤ 255) := Lib.hid (fun k hk => by
    have e : l.getD k 0 ∈ l := by
      rw [List.getD_eq_getElem?_getD, List.getElem?_eq_getElem hk]
      exact List.getElem_mem _
    have := h.wf _ e
    simp [IntKind.min, IntKind.max, IntKind.signed, IntKind.bits] at this
    exact ⟨(l.getD k 0).toNat, by simp; omega, by simp; omega⟩)
  have hle := h.le
  have hc := h.cap
  clear h h1 h2
  obtain ⟨n, hn⟩ : ∃ n, n = min l.length 9 := ⟨_, rfl⟩
  have hnl : n ≤ l.length := by omega
  have hn9 : n ≤ 9 := by omega
  go_enter Try.func7, Try.ntmps7
  go_wp2_with fail
  refine (can_shown w).mono ?_
  rintro e w1 ⟨rfl, hT1⟩
  have B1 := below_no (Below.refl _ w) hT1
  clear hT1
  go_wp2_with fail
  refine (cni_new B1).mono ?_
  rintro e w2 ⟨b, F, rfl, h2, _, _⟩
  clear B1
  go_upto_region 6 with fail
  go_cut [32, 33, 34] from 28 to 28 (fun x y z wx => x = .slice a n cap ∧ y = .int .i64 n ∧ z = .int .i64 0 ∧ w2 = wx)
  case first =>
    clear h2
    go_wp2_with fail
    all_goals
      go_meet
      exact ⟨by congr 1; omega, by apply num; omega, rfl, rfl⟩
  case rest =>
  obtain ⟨rfl, rfl, rfl, rfl⟩ := hcut
  clear hn
  have hI : RowI w w2 b [] (offs 0) F none 0 none [] := ⟨h2, Sl.nil _ _ _, (fun x hx => by simp at hx), (fun g e => by cases e), (fun x hx => by simp at hx)⟩
  have hO : RowsOk [] [] := ⟨(fun x hx => by simp at hx), (fun t ht => by simp at ht), List.Pairwise.nil⟩
  clear h2
  go_wp2_with fail
  go_loopw [9, 34] (fun t i wr => RowOut w wr b n t i) (fun _ i _ => n - (intOf i).toNat)
  case atStart => exact ⟨0, [], F, none, 0, none, [], rfl, rfl, Nat.zero_le _, rfl, by simp, hI, hO⟩
  case round =>
    clear hI hO
    obtain ⟨k, ab, F, A9, c9, G9, rs, rfl, rfl, hk, hrk, hab, hI, hO⟩ := hrel
    by_cases hlt : k < n
    · obtain ⟨ba, bo, rfl, hcell⟩ := HE.out (by omega)
      have hkn : k < l.length := by omega
      have hc0 := hcell k hkn
      obtain ⟨m, hm, hm255⟩ := HW.out k hkn
      rw [hm] at hc0
      have hx0 : wr.cell? ⟨ba, bo + k, none⟩ = _ := (hI.tr.below.cell (p := ⟨ba, bo + k, none⟩) (World.block_lt_of_cell? w _ hc0)).trans hc0
      obtain ⟨q0, hq0⟩ : ∃ q, q = m % 20 := ⟨_, rfl⟩
      have hq20 : q0 < 20 := by omega
      have hqm : (m : Int) % 20 = (q0 : Int) := by omega
      obtain ⟨N, hN⟩ : ∃ N, N = q0 + 1 := ⟨_, rfl⟩
      have HK : Hid (k + 1 ≤ n) := Lib.hid (by omega)
      have HRK := Lib.hid hrk
      have HO := Lib.hid hO
      have hrl : rs.length ≤ 9 := by omega
      obtain ⟨s, hs⟩ : ∃ s, s = ab.length := ⟨_, rfl⟩
      have hs0 : RowI w wr b (ab ++ rowAb s 0) (offs (s + 0)) F A9 c9 G9 rs := by rw [hs]; simpa [rowAb] using hI
      have HS := Lib.hid hs
      have hsb : s ≤ 200 := by omega
      clear hcell hc0 hm hq0 hI hO hrk hs
      go_wp2_with fail
      go_loopw [12, 13, 42] (fun x t i wr => RowIn w wr b ab s q0 A9 c9 G9 rs x t i) (fun _ _ i _ => q0 + 1 - (intOf i).toNat)
      case atStart => exact ⟨0, F, none, 0, none, rfl, rfl, rfl, Nat.zero_le _, hs0, Sl.nil _ _ _, (fun g e => by cases e)⟩
      case round =>
        clear hs0 hx0
        obtain ⟨q, F, A3, c3, G3, rfl, rfl, rfl, hq, hI, hS, hG⟩ := hrel
        by_cases hqn : q < q0 + 1
        · have hM := rows_make ab q (by have := HS.out; omega)
          rw [← HS.out] at hM
          have HM := Lib.hid hM
          clear hM
          go_wp2_with fail
          refine (cni_make hI.tr (aboveOf s q) _ _ _ _ HM.out).mono ?_
          rintro e w5 ⟨rfl, hT5, F5, h5, hF5⟩
          have hI5 := hI.made hT5 h5 hF5
          have hs5 := hS.keep hT5 (fun g e => (hG g e).1)
          have hG5 : ∀ g, G3 = some g → ¬ F5 g ∧ w.heap.size ≤ g ∧ G9 ≠ some g ∧ ∀ x ∈ rs, x.G ≠ some g := fun g e => ⟨fun hf => (hF5 g hf).elim (hG g e).1 (fun h => by have := hS.lt g e; omega), (hG g e).2⟩
          have HI := Lib.hid hI5
          have HG := Lib.hid hG5
          have hww := hI5.tr.below.size
          clear hI hS hG hT5 h5 hF5 hI5 hG5
          go_wp2_with (at_builtin; refine wpList_app _ rfl (.tmp 52) (.tmp 54) 22 rfl 3 (.int .i64 0) 1 8 Try.underlying22 infoInt rfl (by decide) (by decide) _ _ _ _ _ _ _ _ _ rfl rfl (hs5.alloc _) (Src.made w5 3 #[.int .i64 ((s + q : Nat) : Int)] 1 rfl) (ints_one [((s + q : Nat) : Int)]) (by omega) ?_; intro A6 c6 w6 G6 hs6 ht6 hg6; have HS6 := Lib.hid hs6; have HT6 : Hid (Tch (fun i => G3 = some i) w5 w6) := Lib.hid (Tch.then ((Tch.refl _ w5).alloc _) ht6 (fun _ _ h => h)); have HG6 := Lib.hid hg6; clear hs6 ht6 hg6)
          have HJ : Hid (RowI w w6 b (ab ++ rowAb s (q + 1)) (offs (s + (q + 1))) F5 A9 c9 G9 rs) := Lib.hid (HI.out.keep HT6.out (fun k hk => ⟨(HG.out k hk).2.1, (HG.out k hk).1, (HG.out k hk).2.2.1, (HG.out k hk).2.2.2⟩))
          have HS9 : Hid (Sl w6 3 1 A6 (q + 1) c6 (ints (iota s (q + 1))) G6) := Lib.hid (by rw [iota_snoc, ints, List.map_append]; exact HS6.out)
          have HG9 : Hid (∀ g, G6 = some g → ¬ F5 g ∧ w.heap.size ≤ g ∧ G9 ≠ some g ∧ ∀ x ∈ rs, x.G ≠ some g) := Lib.hid (fun g hg => by
            rcases HG6.out with e | ⟨u, e, hu⟩
            · exact HG.out g (e ▸ hg)
            · rw [e] at hg
              injection hg with hg
              subst hg
              simp at hu
              refine ⟨fun hf => by have := HI.out.tr.q.lt u hf; omega, by omega, fun e => by have := HI.out.sl.lt u e; omega, fun x hx e => by have := (HI.out.each x hx).lt u e; omega⟩)
          have hab1 : aboveOf s (q + 1) = ((s + q : Nat) : Int) := by unfold aboveOf; rw [if_neg (by omega)]; congr 1
          clear HS6 HT6 HG6 HI HG hs5
          go_roundw
          case rel =>
            refine ⟨_, _, _, _, _, _, ?_, rfl, rfl, rfl, rfl, rfl, rfl⟩
            exact ⟨q + 1, F5, A6, c6, G6, num (by omega), num (by rw [hab1]; omega), rfl, by omega, HJ.out, HS9.out, HG9.out⟩
          case measure => simp [intOf]; omega
        · obtain rfl : q = q0 + 1 := by omega
          have hsl := hI.sl
          have HI := Lib.hid hI
          have HSS := Lib.hid hS
          have HG := Lib.hid hG
          have hww := hI.tr.below.size
          clear hI hS hG hqn hq
          go_wp2_with (at_builtin; refine wpList_app _ rfl (.tmp 58) (.tmp 60) 44 rfl 22 (.slice none 0 0) 1 24 Try.underlying44 infoRow rfl (by decide) (by decide) _ _ _ _ _ _ _ _ _ rfl rfl (hsl.alloc _) (Src.made wr 22 #[.slice A3 (q0 + 1) c3] 1 rfl) (rwcells_one [⟨s, q0 + 1, A3, c3, G3⟩]) (by omega) ?_; intro A6 c6 w6 G6 hs6 ht6 hg6; have HS6 := Lib.hid hs6; have HT6 : Hid (Tch (fun i => G9 = some i) wr w6) := Lib.hid (Tch.then ((Tch.refl _ wr).alloc _) ht6 (fun _ _ h => h)); have HG6 := Lib.hid hg6; clear hs6 ht6 hg6)
          have HJ := Lib.hid (HI.out.more ⟨s, q0 + 1, A3, c3, G3⟩ HT6.out HS6.out (HG6.out.elim .inl (fun ⟨g, e1, e2⟩ => .inr ⟨g, e1, by simp at e2; omega⟩)) HSS.out (fun g hg => ⟨(HG.out g hg).1, (HG.out g hg).2.1, (HG.out g hg).2.2.1⟩))
          have HO2 : Hid (RowsOk (ab ++ rowAb s (q0 + 1)) (rs ++ [⟨s, q0 + 1, A3, c3, G3⟩])) := Lib.hid (by have := HO.out.more ⟨s, q0 + 1, A3, c3, G3⟩ HS.out (by dsimp only; omega); rw [← HS.out] at this; exact this)
          have habl : (ab ++ rowAb s (q0 + 1)).length = s + (q0 + 1) := by rw [List.length_append, rowAb_length, ← HS.out]
          have hrsl : (rs ++ [(⟨s, q0 + 1, A3, c3, G3⟩ : Rw)]).length = rs.length + 1 := by simp
          have HR : Hid (RowI w w6 b (ab ++ rowAb s (q0 + 1)) (offs (ab ++ rowAb s (q0 + 1)).length) F A6 c6 G6 (rs ++ [⟨s, q0 + 1, A3, c3, G3⟩])) := Lib.hid (by rw [habl]; exact HJ.out)
          have hk1 : (ab ++ rowAb s (q0 + 1)).length ≤ 20 * (k + 1) := by rw [habl]; have := HS.out; omega
          have hr1 : (rs ++ [(⟨s, q0 + 1, A3, c3, G3⟩ : Rw)]).length = k + 1 := by rw [hrsl]; have := HRK.out; omega
          clear HS6 HT6 HG6 HI HG HSS hsl HJ
          go_roundw
          case rel => exact ⟨k + 1, _, F, A6, c6, G6, rs ++ [⟨s, q0 + 1, A3, c3, G3⟩], num (by omega), by rw [hrsl], by have := HK.out; omega, hr1, hk1, HR.out, HO2.out⟩
          case measure => simp [intOf]; omega
    · obtain rfl : k = n := by omega
      by_cases hk0 : k = 0
      · have hr0 : rs.length = 0 := by omega
        have HB := Lib.hid hI.tr.below
        rw [hr0]
        clear hI hO
        go_wp2
        go_ret
        exact ⟨rfl, HB.out⟩
      · have hrp : 0 < rs.length := by omega
        have hrl : rs.length ≤ 9 := by omega
        have hz : ((rs.length : Int) == 0) = false := beq_eq_false_iff_ne.2 (by omega)
        have hzn : (rs.length == 0) = false := beq_eq_false_iff_ne.2 (by omega)
        have hzi : ¬ (rs.length : Int) = 0 := by omega
        obtain ⟨kk, hkk⟩ : ∃ kk, kk = m1 % rs.length := ⟨_, rfl⟩
        have hkl : kk < rs.length := by rw [hkk]; exact Nat.mod_lt _ hrp
        have hkm : (m1 : Int) % (rs.length : Int) = (kk : Int) := by rw [hkk]; omega
        have hkt : (m1 : Int).tmod (rs.length : Int) = (kk : Int) := by rw [hkk, Int.ofNat_tmod]
        obtain ⟨X, hX⟩ : ∃ X, rs[kk]? = some X := ⟨rs[kk], by simp [hkl]⟩
        have hmem := at_mem hX
        obtain ⟨sA, sn, sA2, sc, sG⟩ := X
        obtain ⟨hn0, hns, _⟩ := hO.seg _ hmem
        obtain ⟨g9, e9⟩ := hI.head hrp
        obtain ⟨gk, ek⟩ := hI.itemHead hmem hn0
        have hck := hI.rowCell e9 hX
        have hcapk := (hI.each _ hmem).cap_le
        dsimp only at hn0 hns ek hck hcapk
        have hxn : sn ≤ 200 := by omega
        obtain ⟨i, hi⟩ : ∃ i, i = m2 % sn := ⟨_, rfl⟩
        have hil : i < sn := by rw [hi]; exact Nat.mod_lt _ hn0
        have him : (m2 : Int) % (sn : Int) = (i : Int) := by rw [hi]; omega
        have hit : (m2 : Int).tmod (sn : Int) = (i : Int) := by rw [hi, Int.ofNat_tmod]
        have hzn2 : ¬ (sn : Int) = 0 := by omega
        subst ek
        have hci := hI.itemCell hmem rfl hil
        have HRC := Lib.hid (rows_cancel' hO hX i hil)
        have HE9 := Lib.hid e9
        have HO := Lib.hid hO
        have HI := Lib.hid hI
        have HX := Lib.hid hX
        rw [e9]
        have hcne : ¬ sc = i := by omega
        have hxl := iota_length (sA + i) (sn - i)
        have HOFF := Lib.hid (fun (j : Nat) (y : Rw) (hy : rs[j]? = some y) (p : Nat) (hp : p < y.n) => rows_off' hO hX i hil hy p hp)
        dsimp only at hci HRC HOFF
        clear hmem hns hI hO e9 hi hkk hX hrk
        have hi0 : (0 : Int) ≤ (i : Int) := by omega
        have hi1 : (i : Int) ≤ (sn : Int) := by omega
        go_wp2_with fail
        refine (cni_cancel HI.out.tr ((sA + i : Nat) : Int) _ _ _ HRC.out).mono ?_
        rintro e w5 ⟨A5, c5, G5, rfl, hs5, hg5, h5, hT5⟩
        have hI5 := HI.out.made hT5 h5 (fun k hk => .inl hk)
        have hck5 := hI5.rowCell HE9.out HX.out
        dsimp only at hck5
        have hIT5 : ∀ j, j < sn - i → w5.cell? ⟨gk, i + j, none⟩ = some (.int .i64 ((iota (sA + i) (sn - i)).getD j 0)) := fun j hj => by
          have := hI5.itemCell (p := i + j) (at_mem HX.out) rfl (by dsimp only; omega)
          dsimp only at this
          rw [this, iota_getD _ _ _ hj]
          congr 3
          omega
        have HIT := Lib.hid hIT5
        have HI5 := Lib.hid hI5
        rw [hxl] at hs5 ⊢
        have HS5 := Lib.hid hs5
        clear hs5 hg5 h5 hT5 hI5 hIT5 hck hci HI
        go_wp2_with fail
        refine (ints_same_at _ _ _ _ _ _ _ hxl _ _ HS5.out HIT.out (by omega) (by omega)).mono ?_
        rintro e w9 ⟨rfl, q9, rfl⟩
        have HT := Lib.hid (HI5.out.tr.nothing ((Tch.refl NoBlk w5).drewN q9))
        have HR9 := Lib.hid (HI5.out.keep ((Tch.refl NoBlk w5).drewN q9) (fun k hk => hk.elim))
        clear HS5 HIT HI5 hck5
        generalize w5.drewN q9 = w9 at *
        go_wp2_with fail
        go_loopw [107] (fun y wr => ∃ j : Nat, y = .int .i64 j ∧ j ≤ rs.length ∧ wr = w9) (fun y _ => rs.length - (intOf y).toNat)
        case atStart => exact ⟨0, rfl, Nat.zero_le _, rfl⟩
        case round =>
          obtain ⟨j, rfl, hj, rfl⟩ := hrel
          by_cases hjl : j < rs.length
          · have hj9 : j < 9 := by omega
            obtain ⟨Y, hY⟩ : ∃ Y, rs[j]? = some Y := ⟨rs[j], by simp [hjl]⟩
            obtain ⟨ys, yn, yA, yc, yG⟩ := Y
            obtain ⟨hjn, hjs, _⟩ := HO.out.seg _ (at_mem hY)
            obtain ⟨gj, ej⟩ := HR9.out.itemHead (at_mem hY) hjn
            have hcj := HR9.out.rowCell HE9.out hY
            have hcapj := (HR9.out.each _ (at_mem hY)).cap_le
            dsimp only at hjn hjs ej hcj hcapj
            subst ej
            have HCJ := Lib.hid (fun p (hp : p < yn) => HR9.out.itemCell (p := p) (at_mem hY) rfl hp)
            have HOJ := Lib.hid (HOFF.out j _ hY)
            have hjn2 : yn ≤ 200 := by omega
            dsimp only at HCJ HOJ
            clear hjs hY
            go_wp2_with fail
            go_loopw [114] (fun y wy => ∃ p : Nat, y = .int .i64 p ∧ p ≤ yn ∧ wy = wr) (fun y _ => yn - (intOf y).toNat)
            case atStart => exact ⟨0, rfl, Nat.zero_le _, rfl⟩
            case round =>
              obtain ⟨p, rfl, hp, rfl⟩ := hrel
              by_cases hpl : p < yn
              · have hcp := HCJ.out p hpl
                have hof := HOJ.out p hpl
                by_cases hjk : j = kk
                · have e1 : ((j : Int) == (kk : Int)) = true := by simp; omega
                  have e1n : (j == kk) = true := by simp; omega
                  by_cases hip : i ≤ p
                  · have e2 : decide ((i : Int) ≤ (p : Int)) = true := by simp; omega
                    have e2n : decide (i ≤ p) = true := by simp; omega
                    rw [decide_eq_true hjk, decide_eq_true hip] at hof
                    have HOF := Lib.hid hof
                    clear hof hjk
                    -- each token of each row
                    go_wp2_with fail
                    refine (cni_off HT.out _ _ HOF.out).mono ?_
                    rintro e w0 ⟨rfl, h0⟩; subst w0
                    go_wp2
                    go_roundw
                    case rel => exact ⟨p + 1, num (by omega), by omega, by trivial⟩
                    case measure => simp [intOf]; omega
                  · have e2 : decide ((i : Int) ≤ (p : Int)) = false := by simp; omega
                    have e2n : decide (i ≤ p) = false := by simp; omega
                    rw [decide_eq_true hjk, decide_eq_false hip] at hof
                    have HOF := Lib.hid hof
                    clear hof hjk
                    -- each token of each row
                    go_wp2_with fail
                    refine (cni_off HT.out _ _ HOF.out).mono ?_
                    rintro e w0 ⟨rfl, h0⟩; subst w0
                    go_wp2
                    go_roundw
                    case rel => exact ⟨p + 1, num (by omega), by omega, by trivial⟩
                    case measure => simp [intOf]; omega
                · have e1 : ((j : Int) == (kk : Int)) = false := by simp; omega
                  have e1n : (j == kk) = false := by simp; omega
                  rw [decide_eq_false hjk, Bool.false_and] at hof
                  have HOF := Lib.hid hof
                  clear hof hjk
                  -- each token of each row
                  go_wp2_with fail
                  refine (cni_off HT.out _ _ HOF.out).mono ?_
                  rintro e w0 ⟨rfl, h0⟩; subst w0
                  go_wp2
                  go_roundw
                  case rel => exact ⟨p + 1, num (by omega), by omega, by trivial⟩
                  case measure => simp [intOf]; omega
              · have hpn : yn ≤ p := by omega
                clear hpl
                go_wp2
                go_roundw
                case rel => exact ⟨j + 1, num (by omega), by omega, by trivial⟩
                case measure => simp [intOf]; omega
          · have hjn : rs.length ≤ j := by omega
            clear hjl
            go_wp2
            go_ret
            exact ⟨rfl, HT.out.below⟩
end Go.Proofs.Ytbdfcoclmmhblaa
