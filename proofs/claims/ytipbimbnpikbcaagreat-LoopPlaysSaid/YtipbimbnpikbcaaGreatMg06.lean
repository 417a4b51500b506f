import Derived.Test.YtipbimbnpikbcaaGreatMg05
import Derived.Test.YtipbimbnpikbcaaGreatMg03
import Derived.BigRegion
/- Timers: the heap in memory; which is ahead; two are swapped. -/
namespace Go.Proofs.YtipbimbnpikbcaaGreat
open Go.RowKit

def tcells (h : List Tm) : List Value := h.flatMap fun x => [.int .i64 x.1, .int .i64 x.2.1, .int .i64 x.2.2]
theorem tcells_cons (x : Tm) (h : List Tm) : tcells (x :: h) = .int .i64 x.1 :: .int .i64 x.2.1 :: .int .i64 x.2.2 :: tcells h := rfl
theorem tcells_app (h l : List Tm) : tcells (h ++ l) = tcells h ++ tcells l := by simp [tcells]
theorem tcells_one (h : List Tm) : ∀ u ∈ tcells h, u.oneCell' = true := by
  intro u hu
  simp only [tcells, List.mem_flatMap, List.mem_cons, List.not_mem_nil, or_false] at hu
  obtain ⟨x, _, rfl | rfl | rfl⟩ := hu <;> rfl
theorem tcells_get (h : List Tm) (i : Nat) (hi : i < h.length) :
    (tcells h)[i * 3]? = some (.int .i64 (tat h i).1) ∧ (tcells h)[i * 3 + 1]? = some (.int .i64 (tat h i).2.1) ∧ (tcells h)[i * 3 + 2]? = some (.int .i64 (tat h i).2.2) := by
  induction h generalizing i with
  | nil => simp at hi
  | cons y h ih =>
    rw [tcells_cons]
    cases i with
    | zero => exact ⟨rfl, rfl, rfl⟩
    | succ i =>
      have := ih i (by simpa using hi)
      rw [show (i + 1) * 3 = i * 3 + 1 + 1 + 1 from by omega]
      exact this
theorem tcells_set (h : List Tm) (i : Nat) (x : Tm) (hi : i < h.length) : (((tcells h).set (i * 3) (.int .i64 x.1)).set (i * 3 + 1) (.int .i64 x.2.1)).set (i * 3 + 2) (.int .i64 x.2.2) = tcells (h.set i x) := by
  induction h generalizing i with
  | nil => simp at hi
  | cons y h ih =>
    rw [tcells_cons]
    cases i with
    | zero => rfl
    | succ i =>
      have := ih i (by simpa using hi)
      rw [show (i + 1) * 3 = i * 3 + 1 + 1 + 1 from by omega]
      simp only [List.set_cons_succ]
      rw [this, tcells_cons]
theorem tcells_take (h : List Tm) (m : Nat) (hm : m ≤ h.length) : (tcells h).take (m * 3) = tcells (h.take m) := by
  induction h generalizing m with
  | nil => simp [tcells]
  | cons y h ih =>
    cases m with
    | zero => rfl
    | succ m =>
      rw [tcells_cons, show (m + 1) * 3 = m * 3 + 1 + 1 + 1 from by omega]
      simp only [List.take_succ_cons]
      rw [ih m (by simpa using hm), tcells_cons]
theorem infoTm : (Tryz.prog.info? 126).map (fun i => (i.zero, i.size, i.bytes)) = some (some (.agg #[.int .i64 0, .int .i64 0, .int .i64 0]), 3, 24) := by kernel_rfl

structure TimersAt (w : World) (b : Nat) (h : List Tm) (n : Int) (A : Option Addr) (c : Nat) (G : Option Nat) : Prop where
  blk : Blk w b 91 [.slice A h.length c, .int .i64 n]
  sl : Sl w 126 3 A h.length c (tcells h) G
  nb : G ≠ some b
  le : h.length ≤ 64
def TimersQ (w : World) (b : Nat) (h : List Tm) (n : Int) (F : Nat → Prop) : Prop := ∃ A c G, TimersAt w b h n A c G ∧ ∀ k, F k ↔ k = b ∨ G = some k
section
variable {w w' : World} {b : Nat} {h : List Tm} {n : Int} {A : Option Addr} {c : Nat} {G : Option Nat} {F S : Nat → Prop}
theorem TimersAt.keep (H : TimersAt w b h n A c G) (ht : Tch S w w') (h1 : ¬ S b) (h2 : ∀ g, G = some g → ¬ S g) : TimersAt w' b h n A c G :=
  ⟨H.blk.keep ht h1, H.sl.keep ht h2, H.nb, H.le⟩
theorem TimersQ.keep (H : TimersQ w b h n F) (ht : Tch S w w') (hS : ∀ k, F k → ¬ S k) : TimersQ w' b h n F := by
  obtain ⟨A, c, G, H, hF⟩ := H
  exact ⟨A, c, G, H.keep ht (hS _ ((hF _).2 (.inl rfl))) (fun g e => hS _ ((hF _).2 (.inr e))), hF⟩
theorem TimersQ.lt (H : TimersQ w b h n F) : ∀ k, F k → k < w.heap.size := by
  obtain ⟨A, c, G, H, hF⟩ := H
  intro k hk
  rcases (hF k).1 hk with rfl | hk
  · exact H.blk.lt
  · exact H.sl.lt k hk
end

theorem cmp_nan (x : Int) (w : World) : Calls Tryz.prog 122 #[.int .i64 x] w fun e w' => e = .returned (.bool false) ∧ w' = w := by
  have hx : (x != x) = false := by simp
  go_enter Tryz.func122, Tryz.ntmps122
  go_wp2
  go_ret
  exact ⟨rfl, rfl⟩
def cmpM (x y : Int) : Int := if x < y then -1 else if y < x then 1 else 0
theorem cmp_compare (x y : Int) (w : World) : Calls Tryz.prog 116 #[.int .i64 x, .int .i64 y] w fun e w' => e = .returned (.int .i64 (cmpM x y)) ∧ w' = w := by
  unfold cmpM
  by_cases h1 : x < y
  · rw [if_pos h1]
    have d1 : decide (x < y) = true := by simpa using h1
    clear h1
    go_enter Tryz.func116, Tryz.ntmps116
    go_wp2_with fail
    refine (cmp_nan x _).mono ?_
    rintro e w0 ⟨rfl, h0⟩; subst w0
    go_wp2_with fail
    refine (cmp_nan y _).mono ?_
    rintro e w0 ⟨rfl, h0⟩; subst w0
    go_wp2
    go_ret
    exact ⟨rfl, rfl⟩
  · rw [if_neg h1]
    have d1 : decide (x < y) = false := by simpa using h1
    clear h1
    by_cases h2 : y < x
    · rw [if_pos h2]
      have d2 : decide (y < x) = true := by simpa using h2
      clear h2
      go_enter Tryz.func116, Tryz.ntmps116
      go_wp2_with fail
      refine (cmp_nan x _).mono ?_
      rintro e w0 ⟨rfl, h0⟩; subst w0
      go_wp2_with fail
      refine (cmp_nan y _).mono ?_
      rintro e w0 ⟨rfl, h0⟩; subst w0
      go_wp2
      go_ret
      exact ⟨rfl, rfl⟩
    · rw [if_neg h2]
      have d2 : decide (y < x) = false := by simpa using h2
      clear h2
      go_enter Tryz.func116, Tryz.ntmps116
      go_wp2_with fail
      refine (cmp_nan x _).mono ?_
      rintro e w0 ⟨rfl, h0⟩; subst w0
      go_wp2_with fail
      refine (cmp_nan y _).mono ?_
      rintro e w0 ⟨rfl, h0⟩; subst w0
      go_wp2
      go_ret
      exact ⟨rfl, rfl⟩
/-- The first of two that is not 0. -/
def orM (x y : Int) : Int := if x = 0 then y else x
theorem cmp_or (g : Nat) (x y : Int) (w : World) (h : Blk w g 3 [.int .i64 x, .int .i64 y]) : Calls Tryz.prog 115 #[.slice (some ⟨g, 0, none⟩) 2 2] w fun e w' => e = .returned (.int .i64 (orM x y)) ∧ w' = w := by
  unfold orM
  have c0 := h.cellOf 0 _ rfl
  have c1 := h.cellOf 1 _ rfl
  clear h
  by_cases hx : x = 0
  · subst hx
    rw [if_pos rfl]
    go_enter Tryz.func115, Tryz.ntmps115
    go_wp2_with fail
    go_loopw [8] (fun i wr => (i = .int .i64 0 ∨ i = .int .i64 1 ∨ (i = .int .i64 2 ∧ y = 0)) ∧ wr = w) (fun i _ => 2 - (intOf i).toNat)
    case atStart => exact ⟨.inl rfl, rfl⟩
    case round =>
      obtain ⟨rfl | rfl | ⟨rfl, rfl⟩, rfl⟩ := hrel
      · go_wp2_with fail
        go_roundw
        case rel => exact ⟨.inr (.inl rfl), by trivial⟩
        case measure => simp [intOf]
      · by_cases hy : y = 0
        · subst hy
          go_wp2_with fail
          go_roundw
          case rel => exact ⟨.inr (.inr ⟨rfl, by trivial⟩), by trivial⟩
          case measure => simp [intOf]
        · have hyb : (y != 0) = true := by simpa using hy
          go_wp2_with fail
          go_ret
          exact ⟨rfl, rfl⟩
      · go_wp2
        go_ret
        exact ⟨rfl, rfl⟩
  · rw [if_neg hx]
    have hxb : (x != 0) = true := by simpa using hx
    go_enter Tryz.func115, Tryz.ntmps115
    go_wp2_with fail
    go_loopw [8] (fun i wr => i = .int .i64 0 ∧ wr = w) (fun i _ => 2 - (intOf i).toNat)
    case atStart => exact ⟨rfl, rfl⟩
    case round =>
      obtain ⟨rfl, rfl⟩ := hrel
      go_wp2
      go_ret
      exact ⟨rfl, rfl⟩

theorem cmp_lt (x0 x1 x2 y0 y1 y2 : Int) : decide (orM (cmpM x0 y0) (cmpM x1 y1) < 0) = decide (Tlt (x0, x1, x2) (y0, y1, y2)) := by
  apply decide_eq_decide.2
  unfold orM cmpM Tlt
  dsimp only
  repeat (split <;> try omega)


set_option maxHeartbeats 2000000 in
set_option maxRecDepth 100000 in
theorem timer_ahead (b : Nat) (h : List Tm) (n : Int) (A : Option Addr) (c : Nat) (G : Option Nat) (i k : Nat) (w : World) (H : TimersAt w b h n A c G) (hi : i < h.length) (hk : k < h.length) :
    Calls Tryz.prog 99 #[.pointer (some ⟨b, 0, none⟩), .int .i64 i, .int .i64 k] w fun e w' => e = .returned (.bool (decide (Tlt (tat h i) (tat h k)))) ∧ Tch NoBlk w w' := by
  have hc := H.blk.cellOf 0 _ rfl
  obtain ⟨g, rfl, rfl, hcl⟩ := H.sl.cells (by omega)
  obtain ⟨i0, i1, i2⟩ := tcells_get h i hi
  obtain ⟨k0, k1, k2⟩ := tcells_get h k hk
  have ci0 := hcl _ _ i0
  have ci1 := hcl _ _ i1
  have ci2 := hcl _ _ i2
  have ck0 := hcl _ _ k0
  have ck1 := hcl _ _ k1
  have ck2 := hcl _ _ k2
  have hlen := H.le
  have hcap := H.sl.cap_le
  clear hcl i0 i1 i2 k0 k1 k2 H
  generalize tat h i = x at *
  generalize tat h k = y at *
  obtain ⟨x0, x1, x2⟩ := x
  obtain ⟨y0, y1, y2⟩ := y
  dsimp only at ci0 ci1 ci2 ck0 ck1 ck2
  generalize h.length = m at *
  go_enter Tryz.func99, Tryz.ntmps99
  have hS : ∀ w', Tch NoBlk w w' → (w'.cell? ⟨b, 0, none⟩ = some (.slice (some ⟨g, 0, none⟩) m c) ∧ w'.cell? ⟨g, i * 3, none⟩ = some (.int .i64 x0) ∧ w'.cell? ⟨g, i * 3 + 1, none⟩ = some (.int .i64 x1) ∧ w'.cell? ⟨g, i * 3 + 2, none⟩ = some (.int .i64 x2) ∧ w'.cell? ⟨g, k * 3, none⟩ = some (.int .i64 y0) ∧ w'.cell? ⟨g, k * 3 + 1, none⟩ = some (.int .i64 y1) ∧ w'.cell? ⟨g, k * 3 + 2, none⟩ = some (.int .i64 y2)) :=
    fun w' T => ⟨T.cell' hc (fun h => h), T.cell' ci0 (fun h => h), T.cell' ci1 (fun h => h), T.cell' ci2 (fun h => h), T.cell' ck0 (fun h => h), T.cell' ck1 (fun h => h), T.cell' ck2 (fun h => h)⟩
  go_wp2_with fail
  go_region_held3 (fun w' => w'.cell? ⟨b, 0, none⟩ = some (.slice (some ⟨g, 0, none⟩) m c) ∧ w'.cell? ⟨g, i * 3, none⟩ = some (.int .i64 x0) ∧ w'.cell? ⟨g, i * 3 + 1, none⟩ = some (.int .i64 x1) ∧ w'.cell? ⟨g, i * 3 + 2, none⟩ = some (.int .i64 x2) ∧ w'.cell? ⟨g, k * 3, none⟩ = some (.int .i64 y0) ∧ w'.cell? ⟨g, k * 3 + 1, none⟩ = some (.int .i64 y1) ∧ w'.cell? ⟨g, k * 3 + 2, none⟩ = some (.int .i64 y2)) (first | exact hS _ (by repeat (first | exact Tch.refl _ _ | apply Tch.alloc | apply Tch.drew | refine Tch.setCell ?_ (fun hh => absurd hh (by simp <;> omega)) _)) | go_keep) (fail)
  · have hb7 : Blk ((w.alloc (.cells #[.int .i64 x0, .int .i64 x1, .int .i64 x2] 126)).alloc (.cells #[.int .i64 y0, .int .i64 y1, .int .i64 y2] 126)).drew w.heap.size 126 [.int .i64 x0, .int .i64 x1, .int .i64 x2] := (Blk.new w _ _).alloc _
    have hb8 : Blk ((w.alloc (.cells #[.int .i64 x0, .int .i64 x1, .int .i64 x2] 126)).alloc (.cells #[.int .i64 y0, .int .i64 y1, .int .i64 y2] 126)).drew (w.heap.size + 1) 126 [.int .i64 y0, .int .i64 y1, .int .i64 y2] := by rw [← World.size_alloc w (.cells #[.int .i64 x0, .int .i64 x1, .int .i64 x2] 126)]; exact Blk.new _ _ _
    have hT : Tch NoBlk w ((w.alloc (.cells #[.int .i64 x0, .int .i64 x1, .int .i64 x2] 126)).alloc (.cells #[.int .i64 y0, .int .i64 y1, .int .i64 y2] 126)).drew := (((Tch.refl NoBlk w).alloc _).alloc _).drew
    generalize ((w.alloc (.cells #[.int .i64 x0, .int .i64 x1, .int .i64 x2] 126)).alloc (.cells #[.int .i64 y0, .int .i64 y1, .int .i64 y2] 126)).drew = W1 at *
    generalize hp7 : w.heap.size = p7 at *
    generalize hp8 : p7 + 1 = p8 at *
    -- the two are read once more, compared
    have hc70 := hb7.cellOf 0 _ rfl
    have hc71 := hb7.cellOf 1 _ rfl
    have hc80 := hb8.cellOf 0 _ rfl
    have hc81 := hb8.cellOf 1 _ rfl
    clear hb7 hb8 hS hc ci0 ci1 ci2 ck0 ck1 ck2 hp7 hp8
    have hS2 : ∀ w', Tch NoBlk W1 w' → (w'.cell? ⟨p7, 0, none⟩ = some (.int .i64 x0) ∧ w'.cell? ⟨p7, 1, none⟩ = some (.int .i64 x1) ∧ w'.cell? ⟨p8, 0, none⟩ = some (.int .i64 y0) ∧ w'.cell? ⟨p8, 1, none⟩ = some (.int .i64 y1)) :=
      fun w' T => ⟨T.cell' hc70 (fun h => h), T.cell' hc71 (fun h => h), T.cell' hc80 (fun h => h), T.cell' hc81 (fun h => h)⟩
    have hE := cmp_lt x0 x1 x2 y0 y1 y2
    have HT := Lib.hid hT
    have HE := Lib.hid hE
    have HB2 : Hid (Blk (W1.alloc (.cells #[.int .i64 (cmpM x0 y0), .int .i64 (cmpM x1 y1)] 3)).drew W1.heap.size 3 [.int .i64 (cmpM x0 y0), .int .i64 (cmpM x1 y1)]) := Lib.hid (Blk.new W1 3 [.int .i64 (cmpM x0 y0), .int .i64 (cmpM x1 y1)])
    clear hT hE
    go_wp2_with fail
    go_region_held3 (fun w' => w'.cell? ⟨p7, 0, none⟩ = some (.int .i64 x0) ∧ w'.cell? ⟨p7, 1, none⟩ = some (.int .i64 x1) ∧ w'.cell? ⟨p8, 0, none⟩ = some (.int .i64 y0) ∧ w'.cell? ⟨p8, 1, none⟩ = some (.int .i64 y1)) (first | exact hS2 _ (by repeat (first | exact Tch.refl _ _ | apply Tch.alloc | apply Tch.drew)) | go_keep) (first | (go_at_call 116; refine (cmp_compare _ _ _).mono ?_; rintro e w' ⟨rfl, rfl⟩) | (go_at_call 115; refine (cmp_or _ _ _ _ HB2.out).mono ?_; rintro e w' ⟨rfl, rfl⟩))
    all_goals
      clear hS2 hc70 hc71 hc80 hc81
      go_wp2
      go_ret
      exact ⟨by rw [HE.out]; rfl, (HT.out.alloc _).drew⟩
  · have hb8 : Blk ((w.alloc (.cells #[.int .i64 y0, .int .i64 y1, .int .i64 y2] 126)).alloc (.cells #[.int .i64 x0, .int .i64 x1, .int .i64 x2] 126)).drew w.heap.size 126 [.int .i64 y0, .int .i64 y1, .int .i64 y2] := (Blk.new w _ _).alloc _
    have hb7 : Blk ((w.alloc (.cells #[.int .i64 y0, .int .i64 y1, .int .i64 y2] 126)).alloc (.cells #[.int .i64 x0, .int .i64 x1, .int .i64 x2] 126)).drew (w.heap.size + 1) 126 [.int .i64 x0, .int .i64 x1, .int .i64 x2] := by rw [← World.size_alloc w (.cells #[.int .i64 y0, .int .i64 y1, .int .i64 y2] 126)]; exact Blk.new _ _ _
    have hT : Tch NoBlk w ((w.alloc (.cells #[.int .i64 y0, .int .i64 y1, .int .i64 y2] 126)).alloc (.cells #[.int .i64 x0, .int .i64 x1, .int .i64 x2] 126)).drew := (((Tch.refl NoBlk w).alloc _).alloc _).drew
    generalize ((w.alloc (.cells #[.int .i64 y0, .int .i64 y1, .int .i64 y2] 126)).alloc (.cells #[.int .i64 x0, .int .i64 x1, .int .i64 x2] 126)).drew = W1 at *
    generalize hp8 : w.heap.size = p8 at *
    generalize hp7 : p8 + 1 = p7 at *
    -- the two are read once more, compared
    have hc70 := hb7.cellOf 0 _ rfl
    have hc71 := hb7.cellOf 1 _ rfl
    have hc80 := hb8.cellOf 0 _ rfl
    have hc81 := hb8.cellOf 1 _ rfl
    clear hb7 hb8 hS hc ci0 ci1 ci2 ck0 ck1 ck2 hp7 hp8
    have hS2 : ∀ w', Tch NoBlk W1 w' → (w'.cell? ⟨p7, 0, none⟩ = some (.int .i64 x0) ∧ w'.cell? ⟨p7, 1, none⟩ = some (.int .i64 x1) ∧ w'.cell? ⟨p8, 0, none⟩ = some (.int .i64 y0) ∧ w'.cell? ⟨p8, 1, none⟩ = some (.int .i64 y1)) :=
      fun w' T => ⟨T.cell' hc70 (fun h => h), T.cell' hc71 (fun h => h), T.cell' hc80 (fun h => h), T.cell' hc81 (fun h => h)⟩
    have hE := cmp_lt x0 x1 x2 y0 y1 y2
    have HT := Lib.hid hT
    have HE := Lib.hid hE
    have HB2 : Hid (Blk (W1.alloc (.cells #[.int .i64 (cmpM x0 y0), .int .i64 (cmpM x1 y1)] 3)).drew W1.heap.size 3 [.int .i64 (cmpM x0 y0), .int .i64 (cmpM x1 y1)]) := Lib.hid (Blk.new W1 3 [.int .i64 (cmpM x0 y0), .int .i64 (cmpM x1 y1)])
    clear hT hE
    go_wp2_with fail
    go_region_held3 (fun w' => w'.cell? ⟨p7, 0, none⟩ = some (.int .i64 x0) ∧ w'.cell? ⟨p7, 1, none⟩ = some (.int .i64 x1) ∧ w'.cell? ⟨p8, 0, none⟩ = some (.int .i64 y0) ∧ w'.cell? ⟨p8, 1, none⟩ = some (.int .i64 y1)) (first | exact hS2 _ (by repeat (first | exact Tch.refl _ _ | apply Tch.alloc | apply Tch.drew)) | go_keep) (first | (go_at_call 116; refine (cmp_compare _ _ _).mono ?_; rintro e w' ⟨rfl, rfl⟩) | (go_at_call 115; refine (cmp_or _ _ _ _ HB2.out).mono ?_; rintro e w' ⟨rfl, rfl⟩))
    all_goals
      clear hS2 hc70 hc71 hc80 hc81
      go_wp2
      go_ret
      exact ⟨by rw [HE.out]; rfl, (HT.out.alloc _).drew⟩

theorem TimersAt.swapped {w w' : World} {b : Nat} {h : List Tm} {n : Int} {c g : Nat} (H : TimersAt w b h n (some ⟨g, 0, none⟩) c (some g)) (i k : Nat) (hi : i < h.length) (hk : k < h.length)
    (e : w' = ((((((w.setCell ⟨g, i * 3, none⟩ (.int .i64 (tat h k).1)).setCell ⟨g, i * 3 + 1, none⟩ (.int .i64 (tat h k).2.1)).setCell ⟨g, i * 3 + 2, none⟩ (.int .i64 (tat h k).2.2)).setCell ⟨g, k * 3, none⟩ (.int .i64 (tat h i).1)).setCell ⟨g, k * 3 + 1, none⟩ (.int .i64 (tat h i).2.1)).setCell ⟨g, k * 3 + 2, none⟩ (.int .i64 (tat h i).2.2)).drew) :
    TimersAt w' b (swapL h i k) n (some ⟨g, 0, none⟩) c (some g) ∧ Tch (· = g) w w' := by
  subst e
  have s1 := H.sl.set (i * 3) (.int .i64 (tat h k).1)
  have s2 := s1.set (i * 3 + 1) (.int .i64 (tat h k).2.1)
  have s3 := s2.set (i * 3 + 2) (.int .i64 (tat h k).2.2)
  have s4 := s3.set (k * 3) (.int .i64 (tat h i).1)
  have s5 := s4.set (k * 3 + 1) (.int .i64 (tat h i).2.1)
  have s6 := s5.set (k * 3 + 2) (.int .i64 (tat h i).2.2)
  have T := ((((((H.sl.setT (i * 3) (.int .i64 (tat h k).1)).trans (s1.setT (i * 3 + 1) (.int .i64 (tat h k).2.1))).trans (s2.setT (i * 3 + 2) (.int .i64 (tat h k).2.2))).trans (s3.setT (k * 3) (.int .i64 (tat h i).1))).trans (s4.setT (k * 3 + 1) (.int .i64 (tat h i).2.1))).trans (s5.setT (k * 3 + 2) (.int .i64 (tat h i).2.2))).drew
  rw [tcells_set h i (tat h k) hi, tcells_set (h.set i (tat h k)) k (tat h i) (by rw [List.length_set]; exact hk)] at s6
  have s7 := s6.keep (Tch.refl NoBlk _).drew (fun _ _ h => h)
  have hbg : ¬ b = g := fun e => H.nb (by rw [e])
  have hl := swapL_length h i k
  refine ⟨⟨?_, ?_, H.nb, by rw [hl]; exact H.le⟩, T⟩
  · rw [hl]
    exact H.blk.keep T hbg
  · rw [hl]
    exact s7

set_option maxHeartbeats 2000000 in
set_option maxRecDepth 100000 in
theorem timer_swap (b : Nat) (h : List Tm) (n : Int) (g c : Nat) (i k : Nat) (w : World) (H : TimersAt w b h n (some ⟨g, 0, none⟩) c (some g)) (hi : i < h.length) (hk : k < h.length) :
    Calls Tryz.prog 100 #[.pointer (some ⟨b, 0, none⟩), .int .i64 i, .int .i64 k] w fun e w' => e = .returned (.tuple #[]) ∧ TimersAt w' b (swapL h i k) n (some ⟨g, 0, none⟩) c (some g) ∧ Tch (· = g) w w' := by
  have hc := H.blk.cellOf 0 _ rfl
  have hS := H.sl.src
  obtain ⟨a, ha, hcl⟩ := hS.2 (by omega)
  injection ha with ha
  subst ha
  obtain ⟨i0, i1, i2⟩ := tcells_get h i hi
  obtain ⟨k0, k1, k2⟩ := tcells_get h k hk
  obtain ⟨g2, e1, e2, hcl⟩ := H.sl.cells (by omega)
  injection e2 with e2
  subst e2
  have ci0 := hcl _ _ i0
  have ci1 := hcl _ _ i1
  have ci2 := hcl _ _ i2
  have ck0 := hcl _ _ k0
  have ck1 := hcl _ _ k1
  have ck2 := hcl _ _ k2
  have f := fun j => H.sl.free j
  have hlen := H.le
  have hcap := H.sl.cap_le
  have HD := Lib.hid (fun w' e => H.swapped (w' := w') i k hi hk e)
  clear hcl i0 i1 i2 k0 k1 k2 H hS e1
  generalize tat h i = x at *
  generalize tat h k = y at *
  obtain ⟨x0, x1, x2⟩ := x
  obtain ⟨y0, y1, y2⟩ := y
  dsimp only at ci0 ci1 ci2 ck0 ck1 ck2 HD
  generalize h.length = m at *
  go_enter Tryz.func100, Tryz.ntmps100
  obtain ⟨v0, hv0⟩ := cell?_setCell_some (w := w) (p := ⟨g, i * 3, none⟩) (x := .int .i64 y0) (q := ⟨g, k * 3, none⟩) (v := .int .i64 y0) ck0
  obtain ⟨u1, hu1⟩ := cell?_setCell_some (w := w) (p := ⟨g, i * 3, none⟩) (x := .int .i64 y0) (q := ⟨g, k * 3 + 1, none⟩) (v := .int .i64 y1) ck1
  obtain ⟨v1, hv1⟩ := cell?_setCell_some (w := w.setCell ⟨g, i * 3, none⟩ (.int .i64 y0)) (p := ⟨g, i * 3 + 1, none⟩) (x := .int .i64 y1) (q := ⟨g, k * 3 + 1, none⟩) (v := u1) hu1
  obtain ⟨u2, hu2⟩ := cell?_setCell_some (w := w) (p := ⟨g, i * 3, none⟩) (x := .int .i64 y0) (q := ⟨g, k * 3 + 2, none⟩) (v := .int .i64 y2) ck2
  obtain ⟨u3, hu3⟩ := cell?_setCell_some (w := w.setCell ⟨g, i * 3, none⟩ (.int .i64 y0)) (p := ⟨g, i * 3 + 1, none⟩) (x := .int .i64 y1) (q := ⟨g, k * 3 + 2, none⟩) (v := u2) hu2
  obtain ⟨v2, hv2⟩ := cell?_setCell_some (w := (w.setCell ⟨g, i * 3, none⟩ (.int .i64 y0)).setCell ⟨g, i * 3 + 1, none⟩ (.int .i64 y1)) (p := ⟨g, i * 3 + 2, none⟩) (x := .int .i64 y2) (q := ⟨g, k * 3 + 2, none⟩) (v := u3) hu3
  clear hcl
  go_region
  go_end0
  exact ⟨rfl, HD.out _ rfl⟩
end Go.Proofs.YtipbimbnpikbcaaGreat

/- Timers: one is brought up, one is brought down. -/
namespace Go.Proofs.YtipbimbnpikbcaaGreat
open Go.RowKit

/-- The heap in memory within a loop: some list with such a law, what was there otherwise put in another order. -/
structure HeapAt (w0 w : World) (b : Nat) (h0 h : List Tm) (n : Int) (g c : Nat) : Prop where
  at_ : TimersAt w b h n (some ⟨g, 0, none⟩) c (some g)
  perm : h.Perm h0
  tch : Tch (· = g) w0 w
theorem HeapAt.nothing {w0 w w' : World} {b : Nat} {h0 h : List Tm} {n : Int} {g c : Nat} (H : HeapAt w0 w b h0 h n g c) (T : Tch NoBlk w w') : HeapAt w0 w' b h0 h n g c :=
  ⟨H.at_.keep T (fun h => h) (fun _ _ h => h), H.perm, H.tch.trans (T.mono (fun _ _ h => h.elim))⟩
theorem HeapAt.swap {w0 w w' : World} {b : Nat} {h0 h : List Tm} {n : Int} {g c : Nat} (H : HeapAt w0 w b h0 h n g c) (i k : Nat) (hi : i < h.length) (hk : k < h.length)
    (h1 : TimersAt w' b (swapL h i k) n (some ⟨g, 0, none⟩) c (some g)) (h2 : Tch (· = g) w w') : HeapAt w0 w' b h0 (swapL h i k) n g c :=
  ⟨h1, (swapL_perm h i k hi hk).trans H.perm, H.tch.trans h2⟩

set_option maxHeartbeats 2000000 in
set_option maxRecDepth 100000 in
theorem timer_up (b : Nat) (h : List Tm) (n : Int) (g c : Nat) (i : Nat) (w : World) (H : TimersAt w b h n (some ⟨g, 0, none⟩) c (some g)) (hU : UpInv h i) :
    Calls Tryz.prog 82 #[.pointer (some ⟨b, 0, none⟩), .int .i64 i] w fun e w' => e = .returned (.tuple #[]) ∧ ∃ h', HeapAt w w' b h h' n g c ∧ IsHeap h' := by
  have HH : HeapAt w w b h h n g c := ⟨H, List.Perm.refl _, Tch.refl _ w⟩
  clear H
  go_enter Tryz.func82, Tryz.ntmps82
  go_wp2_with fail
  go_loopw [1] (fun x wr => ∃ (j : Nat) (h' : List Tm), x = .int .i64 j ∧ HeapAt w wr b h h' n g c ∧ UpInv h' j) (fun x _ => (intOf x).toNat)
  case atStart => exact ⟨i, h, rfl, HH, hU⟩
  case round =>
    clear HH hU
    obtain ⟨j, h', rfl, HH, hU⟩ := hrel
    have hle := HH.at_.le
    have hjl := hU.lt
    have hj64 : j < 64 := by omega
    by_cases hj : j = 0
    · subst hj
      have HD := Lib.hid (hU.done (.inl rfl))
      have HE := Lib.hid HH
      clear HH hU
      go_wp2
      go_end0
      exact ⟨rfl, h', HE.out, HD.out⟩
    · have hj0 : 0 < j := by omega
      obtain ⟨p, hp⟩ : ∃ p, p = (j - 1) / 2 := ⟨_, rfl⟩
      have hpj : p < j := by omega
      have hpq : ((j : Int) - 1).tdiv 2 = (p : Int) := by
        rw [hp, Int.tdiv_eq_ediv_of_nonneg (by omega)]
        omega
      have hpq2 : ((j : Int) - 1) / 2 = (p : Int) := by omega
      have hd : decide ((0 : Int) < (j : Int)) = true := by simp; omega
      have hdn : decide (0 < j) = true := by simp; omega
      have HP := Lib.hid hp
      have HU := Lib.hid hU
      clear hp hU
      by_cases hl : Tlt (tat h' j) (tat h' p)
      · go_wp2_with fail
        refine (timer_ahead b h' n _ c _ j p _ HH.at_ hjl (by omega)).mono ?_
        rw [decide_eq_true hl]
        rintro e w5 ⟨rfl, hT⟩
        have HH5 := HH.nothing hT
        clear HH hT
        go_wp2_with fail
        refine (timer_swap b h' n g c j p _ HH5.at_ hjl (by omega)).mono ?_
        rintro e w6 ⟨rfl, h6, hT6⟩
        have HN := Lib.hid (HH5.swap j p hjl (by omega) h6 hT6)
        have HU2 := HU.out.step hj0 (by rw [← HP.out]; exact hl)
        rw [← HP.out] at HU2
        have HV := Lib.hid HU2
        clear HH5 h6 hT6 hl HU2
        go_wp2
        go_roundw
        case rel => exact ⟨p, _, rfl, HN.out, HV.out⟩
        case measure => simp [intOf]; omega
      · go_wp2_with fail
        refine (timer_ahead b h' n _ c _ j p _ HH.at_ hjl (by omega)).mono ?_
        rw [decide_eq_false hl]
        rintro e w5 ⟨rfl, hT⟩
        have HE := Lib.hid (HH.nothing hT)
        have HD := Lib.hid (HU.out.done (.inr (by rw [← HP.out]; exact hl)))
        clear HH hT hl
        go_wp2
        go_end0
        exact ⟨rfl, h', HE.out, HD.out⟩

/-- Where it is not ahead of the one above it, nothing is done. -/
theorem timer_up_stay (b : Nat) (h : List Tm) (n : Int) (g c : Nat) (i : Nat) (w : World) (H : TimersAt w b h n (some ⟨g, 0, none⟩) c (some g)) (hi : i < h.length) (hU : ¬ (0 < i ∧ Tlt (tat h i) (tat h ((i - 1) / 2)))) :
    Calls Tryz.prog 82 #[.pointer (some ⟨b, 0, none⟩), .int .i64 i] w fun e w' => e = .returned (.tuple #[]) ∧ Tch NoBlk w w' := by
  have hle := H.le
  have hi64 : i < 64 := by omega
  go_enter Tryz.func82, Tryz.ntmps82
  go_wp2_with fail
  go_loopw [1] (fun x wr => x = .int .i64 i ∧ wr = w) (fun x _ => (intOf x).toNat)
  case atStart => exact ⟨rfl, rfl⟩
  case round =>
    obtain ⟨rfl, rfl⟩ := hrel
    by_cases hj : i = 0
    · subst hj
      clear H hU
      go_wp2
      go_end0
      exact ⟨rfl, Tch.refl _ _⟩
    · have hj0 : 0 < i := by omega
      obtain ⟨p, hp⟩ : ∃ p, p = (i - 1) / 2 := ⟨_, rfl⟩
      have hl : ¬ Tlt (tat h i) (tat h p) := fun e => hU ⟨hj0, by rw [← hp]; exact e⟩
      have hpj : p < i := by omega
      have hpq : ((i : Int) - 1).tdiv 2 = (p : Int) := by
        rw [hp, Int.tdiv_eq_ediv_of_nonneg (by omega)]
        omega
      have hpq2 : ((i : Int) - 1) / 2 = (p : Int) := by omega
      have hd : decide ((0 : Int) < (i : Int)) = true := by simp; omega
      have hdn : decide (0 < i) = true := by simp; omega
      clear hp hU
      go_wp2_with fail
      refine (timer_ahead b h n _ c _ i p _ H hi (by omega)).mono ?_
      rw [decide_eq_false hl]
      rintro e w5 ⟨rfl, hT⟩
      have HT := Lib.hid hT
      clear H hT hl
      go_wp2
      go_end0
      exact ⟨rfl, HT.out⟩
end Go.Proofs.YtipbimbnpikbcaaGreat
