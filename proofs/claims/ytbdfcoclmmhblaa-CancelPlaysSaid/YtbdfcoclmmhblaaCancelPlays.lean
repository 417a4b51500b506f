/- CancelPlays' walk. -/
import Derived.Test.YtbdfcoclmmhblaaRefTreeDo
import Derived.Test.YtbdfcoclmmhblaaCanLaw
import Derived.Test.YtbdfcoclmmhblaaArgs
import Derived.Deep.CutRange
import Derived.Deep.QuietTactic
namespace Go.Proofs.Ytbdfcoclmmhblaa
open Go.RowKit

/-- The document's tree by itself. -/
def RefTr (w : World) (b : Nat) (ab : List Int) (off : List Bool) (F : Nat → Prop) : Prop := ∃ v u, RefTreeQ w b 29 [v, u] 0 ab off F
theorem RefTr.keep {w w' : World} {b : Nat} {ab : List Int} {off : List Bool} {F S : Nat → Prop} (h : RefTr w b ab off F) (ht : Tch S w w') (hS : ∀ k, F k → ¬ S k) : RefTr w' b ab off F := by
  obtain ⟨v, u, h⟩ := h
  exact ⟨v, u, h.keep ht hS⟩
theorem RefTr.lt {w : World} {b : Nat} {ab : List Int} {off : List Bool} {F : Nat → Prop} (h : RefTr w b ab off F) : ∀ k, F k → k < w.heap.size := by
  obtain ⟨v, u, h⟩ := h
  exact h.lt
theorem RefTr.cellOf {w : World} {b : Nat} {ab : List Int} {off : List Bool} {F : Nat → Prop} (h : RefTr w b ab off F) : ∃ A c, w.cell? ⟨b, 0, none⟩ = some (.slice A ab.length c) ∧ ab.length ≤ c ∧ c ≤ 9223372036854775807 := by
  obtain ⟨v, u, h⟩ := h
  obtain ⟨A, c, h1, h2⟩ := h.lenOf
  obtain ⟨gone, A, c, G, A', c', G', h, _⟩ := h
  exact ⟨_, _, h.blk.cellOf 0 _ h1, h2⟩

structure PlayK (w0 w : World) (b : Nat) (ab : List Int) (off : List Bool) (F : Nat → Prop) (b' : Nat) (ab2 : List Int) (off2 : List Bool) (F' : Nat → Prop) : Prop where
  one : CanI w0 w b ab off F
  two : RefTr w b' ab2 off2 F'
  ne : ∀ i, F i → F' i → False
  base : ∀ i, F' i → w0.heap.size ≤ i
section
variable {w0 w w' : World} {b : Nat} {ab : List Int} {off : List Bool} {F : Nat → Prop} {b' : Nat} {ab2 : List Int} {off2 : List Bool} {F' : Nat → Prop}
theorem PlayK.none (h : PlayK w0 w b ab off F b' ab2 off2 F') (ht : Tch NoBlk w w') : PlayK w0 w' b ab off F b' ab2 off2 F' := ⟨h.one.nothing ht, h.two.keep ht (fun _ _ h => h), h.ne, h.base⟩
theorem plk_make (h : PlayK w0 w b ab off F b' ab2 off2 F') (above : Int) (ab' : List Int) (off' : List Bool) (x : Int) (y : Nat) (hm : tmakeM ab off above = ((ab', off'), x, y)) :
    Calls Try.prog 10 #[.pointer (some ⟨b, 0, none⟩), .int .i64 above] w fun e w' => e = .returned (.tuple #[.int .i64 x, .int .i64 y]) ∧ ∃ F2, PlayK w0 w' b ab' off' F2 b' ab2 off2 F' := by
  refine (cni_make h.one above ab' off' x y hm).mono ?_
  rintro e w' ⟨rfl, hT, F2, h1, h2⟩
  refine ⟨rfl, F2, ⟨h1, h.two.keep hT (fun i x y => h.ne i y x), fun i x y => ?_, h.base⟩⟩
  rcases h2 i x with z | z
  · exact h.ne i z y
  · have := h.two.lt i y
    omega
theorem plk_cancel (h : PlayK w0 w b ab off F b' ab2 off2 F') (id : Int) (off' : List Bool) (x : List Int) (y : Nat) (hm : tcancelM ab off id = (off', x, y)) :
    Calls Try.prog 12 #[.pointer (some ⟨b, 0, none⟩), .int .i64 id] w fun e w' => ∃ A cap G, e = .returned (.tuple #[.slice A x.length cap, .int .i64 y]) ∧ Sl w' 3 1 A x.length cap (ints x) G ∧ (∀ g, G = some g → ¬ F' g) ∧ PlayK w0 w' b ab off' F b' ab2 off2 F' := by
  refine (cni_cancel h.one id off' x y hm).mono ?_
  rintro e w' ⟨A, c, G, rfl, h1, h2, h3, hT⟩
  exact ⟨A, c, G, rfl, h1, fun g hg hf => by have := h2 g hg; have := h.two.lt g hf; omega, h3, h.two.keep hT (fun i x y => h.ne i y x), h.ne, h.base⟩
theorem plk_rmake (h : PlayK w0 w b ab off F b' ab2 off2 F') (above : Int) (ab' : List Int) (off' : List Bool) (x : Int) (y : Nat) (hm : tmakeM ab2 off2 above = ((ab', off'), x, y)) :
    Calls Try.prog 11 #[.pointer (some ⟨b', 0, none⟩), .int .i64 above] w fun e w' => e = .returned (.tuple #[.int .i64 x, .int .i64 y]) ∧ ∃ F2, PlayK w0 w' b ab off F b' ab' off' F2 := by
  obtain ⟨v, u, h2⟩ := h.two
  refine (reftree_make b' 0 _ [v, u] ab2 off2 F' above w h2).mono ?_
  rw [hm]
  rintro e w' ⟨rfl, hT, v2, u2, F2, h3, h4⟩
  refine ⟨rfl, F2, h.one.keep hT (fun i x y => h.ne i x y) h.base, ⟨v2, u2, h3⟩, fun i x y => ?_, fun i y => ?_⟩
  · rcases h4 i y with z | z
    · exact h.ne i x z
    · have := h.one.q.lt i x
      omega
  · rcases h4 i y with z | z
    · exact h.base i z
    · exact Nat.le_trans h.one.below.size z
theorem plk_rcancel (h : PlayK w0 w b ab off F b' ab2 off2 F') (id : Int) (off' : List Bool) (x : List Int) (y : Nat) (hm : tcancelM ab2 off2 id = (off', x, y)) :
    Calls Try.prog 13 #[.pointer (some ⟨b', 0, none⟩), .int .i64 id] w fun e w' => ∃ A cap G, e = .returned (.tuple #[.slice A x.length cap, .int .i64 y]) ∧ Sl w' 3 1 A x.length cap (ints x) G ∧ Tch F' w w' ∧ PlayK w0 w' b ab off F b' ab2 off' F' := by
  obtain ⟨v, u, h2⟩ := h.two
  refine (reftree_cancel b' 0 _ [v, u] ab2 off2 F' id w h2).mono ?_
  rw [hm]
  rintro e w' ⟨⟨A, c, G, rfl, hs, _⟩, hT, hQ⟩
  exact ⟨A, c, G, rfl, hs, hT, h.one.keep hT (fun i x y => h.ne i x y) h.base, ⟨v, u, hQ⟩, h.ne, h.base⟩
theorem plk_roff (h : PlayK w0 w b ab off F b' ab2 off2 F') (id : Int) (x : Bool) (hm : toffM off2 id = x) :
    Calls Try.prog 16 #[.pointer (some ⟨b', 0, none⟩), .int .i64 id] w fun e w' => e = .returned (.bool x) ∧ w' = w := by
  obtain ⟨v, u, h2⟩ := h.two
  rw [← hm]
  exact reftree_off b' 0 _ [v, u] ab2 off2 F' id w h2
end
theorem reftr_new (w : World) : RefTr (w.alloc (.cells #[.slice none 0 0, .slice none 0 0] 29)) w.heap.size [] [] (fun k => k = w.heap.size ∨ (none : Option Nat) = some k ∨ (none : Option Nat) = some k) :=
  ⟨.slice none 0 0, .slice none 0 0, [], none, 0, none, none, 0, none, ⟨Blk.new w _ _, rfl, rfl, Sl.nil _ _ _, Sl.nil _ _ _, by simp, by simp, by simp, rfl⟩, ⟨fun j x h => by simp at h, rfl, fun i j h => by simp [up] at h, by simp⟩, fun j h => by simp at h, fun _ => Iff.rfl⟩


set_option maxHeartbeats 4000000 in
set_option maxRecDepth 100000 in
theorem cancelPlays_walk (a : Option Addr) (cap : Nat) (l : List Int) (w : World) (h : IntsIn .i64 w a cap l) :
    Calls Try.prog 3 #[.slice a l.length cap] w fun e w' => e = .returned (.bool true) ∧ Below w.heap.size w w' := by
  have HE := Lib.hid h.cells
  have HW : Hid (∀ k, k < l.length → -9223372036854775808 ≤ l.getD k 0) := Lib.hid (fun k hk => by
    have e : l.getD k 0 ∈ l := by
      rw [List.getD_eq_getElem?_getD, List.getElem?_eq_getElem hk]
      exact List.getElem_mem _
    have := (h.wf _ e).1
    simpa [IntKind.min, IntKind.signed, IntKind.bits] using this)
  have hle := h.le
  have hc := h.cap
  clear h
  obtain ⟨n, hn⟩ : ∃ n, n = min l.length 200 := ⟨_, rfl⟩
  have hnl : n ≤ l.length := by omega
  go_enter Try.func3, Try.ntmps3
  go_wp2_with fail
  refine (can_shown w).mono ?_
  rintro e w1 ⟨rfl, hT1⟩
  have B1 := below_no (Below.refl _ w) hT1
  clear hT1
  go_wp2_with fail
  refine (cni_new B1).mono ?_
  rintro e w2 ⟨b, F, rfl, h2, _, _⟩
  clear B1
  have hP3 : PlayK w (w2.alloc (.cells #[.slice none 0 0, .slice none 0 0] 29)) b [] [] F w2.heap.size [] [] (fun k => k = w2.heap.size ∨ (none : Option Nat) = some k ∨ (none : Option Nat) = some k) := by
    refine ⟨h2.nothing ((Tch.refl NoBlk w2).alloc _), reftr_new w2, fun i x y => ?_, fun i y => ?_⟩
    · have := h2.q.lt i x
      rcases y with rfl | y | y
      · omega
      · cases y
      · cases y
    · have := h2.below.size
      rcases y with rfl | y | y
      · omega
      · cases y
      · cases y
  clear h2
  go_upto_region 6 with fail
  generalize w2.alloc (.cells #[.slice none 0 0, .slice none 0 0] 29) = w3 at *
  generalize w2.heap.size = b' at *
  go_cut [27, 28, 29] from 23 to 23 (fun x y z wx => x = .slice a n cap ∧ y = .int .i64 n ∧ z = .int .i64 0 ∧ w3 = wx)
  case first =>
    clear hP3
    go_wp2_with fail
    go_meet
    exact ⟨by congr 1; omega, by apply num; omega, rfl, rfl⟩
  case rest =>
  obtain ⟨rfl, rfl, rfl, rfl⟩ := hcut
  clear hn
  go_wp2_with fail
  go_loopw [29] (fun i wr => ∃ (k : Nat) (ab : List Int) (off : List Bool) (F F' : Nat → Prop), i = .int .i64 k ∧ k ≤ n ∧ PlayK w wr b ab off F b' ab off F') (fun i _ => n - (intOf i).toNat)
  case atStart => exact ⟨0, [], [], _, _, rfl, Nat.zero_le _, hP3⟩
  case round =>
    clear hP3
    obtain ⟨k, ab, off, F, F', rfl, hk, hP⟩ := hrel
    by_cases hlt : k < n
    · obtain ⟨ba, bo, rfl, hcell⟩ := HE.out (by omega)
      have hkn : k < l.length := by omega
      have hc0 := hcell k hkn
      have hx0 : wr.cell? ⟨ba, bo + k, none⟩ = _ := (hP.one.below.cell (p := ⟨ba, bo + k, none⟩) (World.block_lt_of_cell? w _ hc0)).trans hc0
      have HK : Hid (k + 1 ≤ n) := Lib.hid (by omega)
      have hv0 := HW.out k hkn
      clear hcell hc0
      generalize l.getD k 0 = v at *
      by_cases hv : -1 ≤ v
      · have hd : decide (-1 ≤ v) = true := by simpa using hv
        obtain ⟨r, hr⟩ : ∃ r, tmakeM ab off v = r := ⟨_, rfl⟩
        obtain ⟨⟨ab', off'⟩, x, en⟩ := r
        have HR := Lib.hid hr
        have g1 : (x != x) = false := by simp
        have g2 : ((en : Int) != (en : Int)) = false := by simp
        clear hr
        go_wp2_with fail
        refine (plk_make hP v _ _ _ _ HR.out).mono ?_
        rintro e w5 ⟨rfl, F5, hP5⟩
        clear hP hx0
        go_wp2_with fail
        refine (plk_rmake hP5 v _ _ _ _ HR.out).mono ?_
        rintro e w6 ⟨rfl, F6, hP6⟩
        clear hP5 HR
        -- each of the tokens, and one more at either end; state ab', off'
        obtain ⟨tA, tc, htab, htc⟩ := hP6.two.cellOf
        have habl := hP6.one.q.ok.le
        have HP := Lib.hid hP6
        clear hP6
        go_wp2_with fail
        go_loopw [16] (fun y wy => ∃ i : Int, y = .int .i64 i ∧ (-1 ≤ i ∧ i ≤ (ab' : List Int).length + 1) ∧ wy = w6) (fun y _ => ((ab' : List Int).length + 1 - intOf y).toNat)
        case atStart => exact ⟨-1, rfl, ⟨by omega, by omega⟩, rfl⟩
        case round =>
          obtain ⟨i, rfl, ⟨hi0, hi1⟩, hw0⟩ := hrel
          subst hw0
          by_cases hil : i ≤ (ab' : List Int).length
          · have hd : decide (i ≤ ((ab' : List Int).length : Int)) = true := by simpa using hil
            obtain ⟨x, hx⟩ : ∃ x, toffM off' i = x := ⟨_, rfl⟩
            have EX := Lib.hid hx
            have g1 : (x != x) = false := by simp
            clear hx
            go_wp2_with fail
            refine (cni_off HP.out.one i _ EX.out).mono ?_
            rintro e w0 ⟨rfl, h0⟩; subst w0
            go_wp2_with fail
            refine (plk_roff HP.out i _ EX.out).mono ?_
            rintro e w0 ⟨rfl, h0⟩; subst w0
            go_wp2
            go_roundw
            case rel => exact ⟨i + 1, rfl, ⟨by omega, by omega⟩, by trivial⟩
            case measure => simp [intOf]; omega
          · have hd : decide (i ≤ ((ab' : List Int).length : Int)) = false := by simpa using hil
            have f4 : (((ab' : List Int).length : Int) != ((ab' : List Int).length : Int)) = false := by simp
            go_wp2_with fail
            go_quiet ((go_at_call 17; exact Calls.quiet_of_same (cni_len (HP.out.none ((Tch.refl NoBlk _).drewN _)).one)))
            go_wp2
            go_roundw
            case rel => exact ⟨k + 1, ab', off', _, _, num (by omega), HK.out, HP.out.none ((Tch.refl NoBlk _).drewN _)⟩
            case measure => simp [intOf]; omega
      · have hd : decide (-1 ≤ v) = false := by simpa using hv
        have hv1 : v ≤ -2 := by omega
        obtain ⟨r, hr⟩ : ∃ r, tcancelM ab off (-2 - v) = r := ⟨_, rfl⟩
        obtain ⟨off', x, en⟩ := r
        have HR := Lib.hid hr
        have g2 : ((en : Int) != (en : Int)) = false := by simp
        clear hr
        go_wp2_with fail
        refine (plk_cancel hP (-2 - v) _ _ _ HR.out).mono ?_
        rintro e w5 ⟨A5, c5, G5, rfl, hs5, hg5, hP5⟩
        clear hP hx0
        go_wp2_with fail
        refine (plk_rcancel hP5 (-2 - v) _ _ _ HR.out).mono ?_
        rintro e w6 ⟨A6, c6, G6, rfl, hs6, hT6, hP6⟩
        have hs5 := hs5.keep hT6 hg5
        clear hP5 hT6 HR hg5
        go_wp2_with fail
        refine (ints_same _ _ _ _ x x _ _ _ hs5 hs6 rfl).mono ?_
        rintro e w0 ⟨rfl, n9, rfl⟩
        have hP9 := hP6.none ((Tch.refl NoBlk _).drewN n9)
        clear hP6 hs5 hs6
        generalize w6.drewN n9 = w9 at *
        -- each of the tokens, and one more at either end; state ab, off'
        obtain ⟨tA, tc, htab, htc⟩ := hP9.two.cellOf
        have habl := hP9.one.q.ok.le
        have HP := Lib.hid hP9
        clear hP9
        go_wp2_with fail
        go_loopw [16] (fun y wy => ∃ i : Int, y = .int .i64 i ∧ (-1 ≤ i ∧ i ≤ (ab : List Int).length + 1) ∧ wy = w9) (fun y _ => ((ab : List Int).length + 1 - intOf y).toNat)
        case atStart => exact ⟨-1, rfl, ⟨by omega, by omega⟩, rfl⟩
        case round =>
          obtain ⟨i, rfl, ⟨hi0, hi1⟩, hw0⟩ := hrel
          subst hw0
          by_cases hil : i ≤ (ab : List Int).length
          · have hd : decide (i ≤ ((ab : List Int).length : Int)) = true := by simpa using hil
            obtain ⟨x, hx⟩ : ∃ x, toffM off' i = x := ⟨_, rfl⟩
            have EX := Lib.hid hx
            have g1 : (x != x) = false := by simp
            clear hx
            go_wp2_with fail
            refine (cni_off HP.out.one i _ EX.out).mono ?_
            rintro e w0 ⟨rfl, h0⟩; subst w0
            go_wp2_with fail
            refine (plk_roff HP.out i _ EX.out).mono ?_
            rintro e w0 ⟨rfl, h0⟩; subst w0
            go_wp2
            go_roundw
            case rel => exact ⟨i + 1, rfl, ⟨by omega, by omega⟩, by trivial⟩
            case measure => simp [intOf]; omega
          · have hd : decide (i ≤ ((ab : List Int).length : Int)) = false := by simpa using hil
            have f4 : (((ab : List Int).length : Int) != ((ab : List Int).length : Int)) = false := by simp
            go_wp2_with fail
            go_quiet ((go_at_call 17; exact Calls.quiet_of_same (cni_len (HP.out.none ((Tch.refl NoBlk _).drewN _)).one)))
            go_wp2
            go_roundw
            case rel => exact ⟨k + 1, ab, off', _, _, num (by omega), HK.out, HP.out.none ((Tch.refl NoBlk _).drewN _)⟩
            case measure => simp [intOf]; omega
    · have hge : n ≤ k := by omega
      have HB := Lib.hid hP.one.below
      clear hlt hP
      go_wp2
      go_ret
      exact ⟨rfl, HB.out⟩
end Go.Proofs.Ytbdfcoclmmhblaa
