/- TimerSteps' walk. -/
import Derived.Test.YtbdmmijfcgafcaaTimerOrder
import Derived.Test.YtbdmmijfcgafcaaInts
namespace Go.Proofs.Ytbdmmijfcgafcaa
open Go.RowKit

/-- Two timers, and the row of what was told. -/
structure StepI (w0 w : World) (b : Nat) (L : List Tm) (n : Int) (F : Nat → Prop) (b' : Nat) (L' : List Tm) (n' : Int) (F' : Nat → Prop) (A : Option Addr) (c : Nat) (G : Option Nat) (ms : List Tm) : Prop where
  one : TimJ w0 w b L n F
  two : TimJ w0 w b' L' n' F'
  ne : ∀ i, F i → F' i → False
  sl : Sl w 3 1 A ms.length c (ints (ms.map (·.2.2))) G
  gs : ∀ g, G = some g → ¬ F g ∧ ¬ F' g ∧ w0.heap.size ≤ g
section
variable {w0 w w' : World} {b : Nat} {L L2 : List Tm} {n : Int} {F : Nat → Prop} {b' : Nat} {L' : List Tm} {n' : Int} {F' : Nat → Prop} {A : Option Addr} {c : Nat} {G : Option Nat} {ms : List Tm}
theorem StepI.due1 (H : StepI w0 w b L n F b' L' n' F' A c G ms) (h : TimJ w0 w' b L2 n F) (ht : Tch F w w') : StepI w0 w' b L2 n F b' L' n' F' A c G ms :=
  ⟨h, H.two.keep ht (fun i x y => H.ne i y x) H.one.i.base, H.ne, H.sl.keep ht (fun g e => (H.gs g e).1), H.gs⟩
theorem StepI.due2 (H : StepI w0 w b L n F b' L' n' F' A c G ms) (h : TimJ w0 w' b' L2 n' F') (ht : Tch F' w w') : StepI w0 w' b L n F b' L2 n' F' A c G ms :=
  ⟨H.one.keep ht (fun i x y => H.ne i x y) H.two.i.base, h, H.ne, H.sl.keep ht (fun g e => (H.gs g e).2.1), H.gs⟩
theorem StepI.put1 (H : StepI w0 w b L n F b' L' n' F' none c none ms) {m : Int} {F2 : Nat → Prop} (h : TimJ w0 w' b L2 m F2) (ht : Tch F w w') (hF : ∀ k, F2 k → F k ∨ w.heap.size ≤ k) : StepI w0 w' b L2 m F2 b' L' n' F' none c none ms := by
  refine ⟨h, H.two.keep ht (fun i x y => H.ne i y x) H.one.i.base, fun i x y => ?_, H.sl.keep ht (fun g e => by cases e), fun g e => by cases e⟩
  rcases hF i x with z | z
  · exact H.ne i z y
  · have := H.two.i.lt i y
    omega
theorem StepI.put2 (H : StepI w0 w b L n F b' L' n' F' none c none ms) {m : Int} {F2 : Nat → Prop} (h : TimJ w0 w' b' L2 m F2) (ht : Tch F' w w') (hF : ∀ k, F2 k → F' k ∨ w.heap.size ≤ k) : StepI w0 w' b L n F b' L2 m F2 none c none ms := by
  refine ⟨H.one.keep ht (fun i x y => H.ne i x y) H.two.i.base, h, fun i x y => ?_, H.sl.keep ht (fun g e => by cases e), fun g e => by cases e⟩
  rcases hF i y with z | z
  · exact H.ne i x z
  · have := H.one.i.lt i x
    omega
theorem StepI.app (H : StepI w0 w b L n F b' L' n' F' A c G ms) {m : Tm} {A' : Option Addr} {c' : Nat} {G' : Option Nat} (T : Tch (fun k => G = some k) w w') (hs : Sl w' 3 1 A' (ms.length + 1) c' (ints (ms.map (·.2.2)) ++ [.int .i64 m.2.2]) G') (hG : G' = G ∨ ∃ g, G' = some g ∧ w.heap.size ≤ g) :
    StepI w0 w' b L n F b' L' n' F' A' c' G' (ms ++ [m]) := by
  have e : (ms ++ [m]).length = ms.length + 1 := by simp
  refine ⟨H.one.keep T (fun i x y => (H.gs i y).1 x) (fun i y => (H.gs i y).2.2), H.two.keep T (fun i x y => (H.gs i y).2.1 x) (fun i y => (H.gs i y).2.2), H.ne, ?_, fun g hg => ?_⟩
  · rw [e]
    simpa [ints] using hs
  · rcases hG with rfl | ⟨g', e1, h1⟩
    · exact H.gs g hg
    · rw [e1] at hg
      injection hg with hg
      subst hg
      have := H.one.i.below.size
      exact ⟨fun h => by have := H.one.i.lt _ h; omega, fun h => by have := H.two.i.lt _ h; omega, by omega⟩
end
theorem Pops.len {now : Int} {L ms S : List Tm} (h : Pops now L ms S) : S.length + ms.length = L.length := by
  induction ms generalizing L with
  | nil =>
    obtain rfl : S = L := h
    rfl
  | cons x ms ih =>
    have h1 := ih h.2.2
    have h2 := erase_len (firstM_of h.1).1
    simp
    omega
def Quiet (S : List Tm) (now : Int) : Prop := dueM S now = (S, 0, false)


set_option maxHeartbeats 4000000 in
set_option maxRecDepth 100000 in
theorem timerSteps_walk (a : Option Addr) (cap : Nat) (l : List Int) (a2 : Option Addr) (cap2 : Nat) (l2 : List Int) (w : World) (h : IntsIn .u8 w a cap l) (h2 : IntsIn .u8 w a2 cap2 l2) :
    Calls Try.prog 4 #[.slice a l.length cap, .slice a2 l2.length cap2] w fun e w' => e = .returned (.bool true) ∧ Below w.heap.size w w' := by
  obtain ⟨n, hn⟩ : ∃ n, n = min l.length 64 := ⟨_, rfl⟩
  obtain ⟨n2, hn2⟩ : ∃ n, n = min l2.length 30 := ⟨_, rfl⟩
  have HE := Lib.hid (h.few (n := n) (by omega))
  have HE2 := Lib.hid (h2.few (n := n2) (by omega))
  have hle := h.le
  have hc := h.cap
  have hle2 := h2.le
  have hc2 := h2.cap
  obtain ⟨d, hd⟩ : ∃ d, d = l.take n := ⟨_, rfl⟩
  obtain ⟨d2, hd2⟩ : ∃ d, d = l2.take n2 := ⟨_, rfl⟩
  have hdl : d.length = n := by rw [hd, List.length_take]; omega
  have hdl2 : d2.length = n2 := by rw [hd2, List.length_take]; omega
  have HW : Hid (∀ i, i < n → 0 ≤ d.getD i 0 ∧ d.getD i 0 ≤ 255) := Lib.hid (fun i hi => by
    have e : d.getD i 0 ∈ d := by
      rw [List.getD_eq_getElem?_getD, List.getElem?_eq_getElem (show i < d.length by omega)]
      exact List.getElem_mem _
    have e2 : d.getD i 0 ∈ l := by
      rw [hd] at e ⊢
      exact List.mem_of_mem_take e
    have := h.wf _ e2
    simpa [IntKind.max, IntKind.min, IntKind.signed, IntKind.bits] using this)
  have HW2 : Hid (∀ i, i < n2 → 0 ≤ d2.getD i 0 ∧ d2.getD i 0 ≤ 255) := Lib.hid (fun i hi => by
    have e : d2.getD i 0 ∈ d2 := by
      rw [List.getD_eq_getElem?_getD, List.getElem?_eq_getElem (show i < d2.length by omega)]
      exact List.getElem_mem _
    have e2 : d2.getD i 0 ∈ l2 := by
      rw [hd2] at e ⊢
      exact List.mem_of_mem_take e
    have := h2.wf _ e2
    simpa [IntKind.max, IntKind.min, IntKind.signed, IntKind.bits] using this)
  rw [← hd] at HE
  rw [← hd2] at HE2
  have hnl : n ≤ l.length := by omega
  have hn64 : n ≤ 64 := by omega
  have hnl2 : n2 ≤ l2.length := by omega
  have hn30 : n2 ≤ 30 := by omega
  have HZ : Hid (n2 = 0 ↔ l2.length = 0) := Lib.hid (by omega)
  clear h h2 hd hd2
  go_enter Try.func4, Try.ntmps4
  go_wp2_with fail
  refine (timer_shown w).mono ?_
  rintro e w1 ⟨rfl, hT1⟩
  have B1 := below_no (Below.refl _ w) hT1
  clear hT1
  go_wp2_with fail
  refine (tmj_new B1).mono ?_
  rintro e w2 ⟨b, F, rfl, h2, _, _⟩
  clear B1
  have HF := Lib.hid (fun i (hi : F i) => h2.i.lt i hi)
  go_wp2_with fail
  refine (tmj_new h2.i.below).mono ?_
  rintro e w3 ⟨b', F', rfl, h3, hF3, hT3⟩
  have hI3 : StepI w w3 b [] 0 F b' [] 0 F' none 0 none [] := ⟨h2.nothing hT3, h3, fun i x y => by have := HF.out i x; have := hF3 i y; omega, Sl.nil _ _ _, fun g e => by cases e⟩
  clear h2 h3 HF hF3 hT3
  go_upto_region 5 with fail
  go_cut [35, 36, 37] from 31 to 31 (fun x y z wx => x = .slice a n cap ∧ y = .int .i64 n ∧ z = .int .i64 0 ∧ w3 = wx)
  case first =>
    clear hI3
    go_wp2_with fail
    · have hk : n = 64 := by omega
      go_meet
      exact ⟨by rw [hk], by rw [hk]; rfl, rfl, rfl⟩
    · have hk : n = l.length := by omega
      go_meet
      exact ⟨by rw [hk], by rw [hk], rfl, rfl⟩
  case rest =>
  obtain ⟨rfl, rfl, rfl, rfl⟩ := hcut
  clear hn
  go_wp2_with fail
  go_loopw [37] (fun i wr => ∃ (k : Nat) (F F' : Nat → Prop), i = .int .i64 k ∧ k ≤ n ∧ StepI w wr b (trips d k) k F b' (trips d k) k F' none 0 none []) (fun i _ => n - (intOf i).toNat)
  case atStart => exact ⟨0, F, F', rfl, by omega, hI3⟩
  case round =>
    clear hI3
    obtain ⟨k, F, F', rfl, hk, H⟩ := hrel
    by_cases hlt : k < n
    · obtain ⟨ba, off, rfl, hcell⟩ := HE.out (by omega)
      have hc0 := hcell k hlt
      have hx0 : wr.cell? ⟨ba, off + k, none⟩ = _ := (H.one.i.below.cell (p := ⟨ba, off + k, none⟩) (World.block_lt_of_cell? w _ hc0)).trans hc0
      clear hcell hc0
      have HK : Hid (trips d (k + 1) = trips d k ++ [(d.getD k 0, (k : Int), (k : Int))]) := Lib.hid (trips_snoc d k)
      obtain ⟨hv0, hv1⟩ := HW.out k hlt
      generalize d.getD k 0 = dk at *
      go_wp2_with fail
      refine (tmj_put H.one dk k (by rw [trips_length]; omega) (by omega) (by omega)).mono ?_
      rintro e w4 ⟨rfl, hT4, F4, h4, hF4⟩
      have hI4 := H.put1 h4 hT4 hF4
      clear H h4 hT4 hF4
      go_wp2_with fail
      refine (tmj_put hI4.two dk k (by rw [trips_length]; omega) (by omega) (by omega)).mono ?_
      rintro e w5 ⟨rfl, hT5, F5, h5, hF5⟩
      have hI5 := hI4.put2 h5 hT5 hF5
      rw [← HK.out] at hI5
      have HI := Lib.hid hI5
      clear hI4 h5 hT5 hF5 hI5 hx0
      go_wp2
      go_roundw
      case rel => exact ⟨k + 1, F4, F5, num (by omega), by omega, HI.out⟩
      case measure => simp [intOf]; omega
    · obtain rfl : k = n := by omega
      clear hlt hk
      go_upto_region 13 with fail
      go_cut [57, 58, 59] from 53 to 53 (fun x y z wx => x = .slice a2 n2 cap2 ∧ y = .int .i64 n2 ∧ z = .int .i64 0 ∧ wr = wx)
      case first =>
        clear H
        go_wp2_with fail
        · have hk : n2 = 30 := by omega
          go_meet
          exact ⟨by rw [hk], by rw [hk]; rfl, rfl, rfl⟩
        · have hk : n2 = l2.length := by omega
          go_meet
          exact ⟨by rw [hk], by rw [hk], rfl, rfl⟩
      case rest =>
      obtain ⟨rfl, rfl, rfl, rfl⟩ := hcut
      clear hn2
      go_wp2_with fail
      have hP0 : Pops 0 (trips d k) [] (trips d k) := rfl
      go_loopw [10, 11, 59] (fun x t i wr => ∃ (q : Nat) (now : Int) (ms S : List Tm) (A : Option Addr) (c : Nat) (G : Option Nat), i = .int .i64 q ∧ x = .int .i64 now ∧ t = .slice A ms.length c ∧ q ≤ n2 ∧ (0 ≤ now ∧ now ≤ 255 * q) ∧ StepI w wr b S k F b' (trips d k) k F' A c G ms ∧ Pops now (trips d k) ms S ∧ (0 < q → Quiet S now)) (fun _ _ i _ => n2 - (intOf i).toNat)
      case atStart => exact ⟨0, 0, [], _, none, 0, none, rfl, rfl, rfl, by omega, ⟨by omega, by omega⟩, H, hP0, fun h => by omega⟩
      case round =>
        clear H hP0
        obtain ⟨q, now, ms, S, A, c, G, rfl, rfl, rfl, hq, ⟨hb0, hb1⟩, H, hP, hQ⟩ := hrel
        by_cases hlt : q < n2
        · obtain ⟨ba, off, rfl, hcell⟩ := HE2.out (by omega)
          have hc0 := hcell q hlt
          have hx0 : wr.cell? ⟨ba, off + q, none⟩ = _ := (H.one.i.below.cell (p := ⟨ba, off + q, none⟩) (World.block_lt_of_cell? w _ hc0)).trans hc0
          obtain ⟨hv0, hv1⟩ := HW2.out q hlt
          clear hcell hc0 hQ
          generalize d2.getD q 0 = dk at *
          have hP2 := hP.later (now' := now + dk) (by omega)
          have HZ0 : Hid (S.length + 0 ≤ 64) := Lib.hid (by have := hP.len; rw [trips_length] at this; omega)
          clear hP
          go_wp2_with fail
          go_loopw [11, 67] (fun t i wr => ∃ (r : Nat) (ms S : List Tm) (A : Option Addr) (c : Nat) (G : Option Nat), i = .int .i64 r ∧ t = .slice A ms.length c ∧ StepI w wr b S k F b' (trips d k) k F' A c G ms ∧ Pops (now + dk) (trips d k) ms S ∧ S.length + r ≤ 64) (fun _ i _ => 65 - (intOf i).toNat)
          case atStart => exact ⟨0, ms, S, A, c, G, rfl, rfl, H, hP2, HZ0.out⟩
          case round =>
            clear H hP2 HZ0 hx0
            obtain ⟨r, ms, S, A, c, G, rfl, rfl, H, hP, hrl⟩ := hrel
            have hr : r < 65 := by omega
            rcases dueM_split S (now + dk) with hD | ⟨m, hm1, hm2, hD⟩
            · have HD := Lib.hid hD
              have HP := Lib.hid hP
              clear hD hP
              go_wp2_with fail
              refine (tmj_due H.one (now + dk) _ _ _ HD.out).mono ?_
              rintro e w5 ⟨rfl, h5, hT5⟩
              have HI := Lib.hid (H.due1 h5 hT5)
              clear H h5 hT5 hrl
              go_wp2
              go_roundw
              case rel => exact ⟨q + 1, now + dk, ms, S, A, c, G, num (by omega), rfl, rfl, by omega, ⟨by omega, by omega⟩, HI.out, HP.out, fun _ => HD.out⟩
              case measure => simp [intOf]; omega
            · have HD := Lib.hid hD
              have HP := Lib.hid (hP.snoc hm1 hm2)
              have HL : Hid ((S.erase m).length + (r + 1) ≤ 64) := Lib.hid (by have := erase_len (firstM_of hm1).1; omega)
              have hml : ms.length ≤ 64 := by have := hP.len; rw [trips_length] at this; omega
              clear hD hP hm1 hm2
              go_wp2_with fail
              refine (tmj_due H.one (now + dk) _ _ _ HD.out).mono ?_
              rintro e w5 ⟨rfl, h5, hT5⟩
              have hI5 := H.due1 h5 hT5
              have hs5 := hI5.sl
              have HI := Lib.hid hI5
              clear H h5 hT5 hrl hI5
              go_wp2_with (at_builtin; refine wpList_app _ rfl (.tmp 77) (.tmp 79) 22 rfl 3 (.int .i64 0) 1 8 Try.underlying22 infoInt rfl (by decide) (by decide) _ _ _ _ _ _ _ _ _ rfl rfl (hs5.alloc _) (Src.made w5 3 #[.int .i64 m.2.2] 1 rfl) (ints_one [m.2.2]) (by omega) ?_; intro A6 c6 w6 G6 hs6 ht6 hg6; have HS6 := Lib.hid hs6; have HT6 : Hid (Tch (fun i => G = some i) w5 w6) := Lib.hid (Tch.then ((Tch.refl _ w5).alloc _) ht6 (fun _ _ h => h)); have HG6 := Lib.hid hg6; clear hs6 ht6 hg6)
              have HJ := Lib.hid (HI.out.app (m := m) HT6.out HS6.out (HG6.out.elim .inl (fun ⟨g, h1, h2⟩ => .inr ⟨g, h1, by simp at h2; omega⟩)))
              have hsl : (ms ++ [m]).length = ms.length + 1 := by simp
              clear HS6 HT6 HG6 hs5 HI
              go_roundw
              case rel => exact ⟨r + 1, ms ++ [m], S.erase m, A6, c6, G6, num (by omega), by rw [hsl], HJ.out, HP.out, HL.out⟩
              case measure => simp [intOf]; omega
        · obtain rfl : q = n2 := by omega
          have hml : ms.length ≤ 64 := by have := hP.len; rw [trips_length] at this; omega
          have HQ := Lib.hid hQ
          clear hlt hQ hq
          have hcap := H.sl.cap_le
          go_wp2_with fail
          go_loopw [85] (fun i wr => ∃ (j : Nat) (L : List Tm), i = .int .i64 j ∧ j ≤ ms.length ∧ StepI w wr b S k F b' L k F' A c G ms ∧ Pops now L (ms.drop j) S) (fun i _ => ms.length - (intOf i).toNat)
          case atStart => exact ⟨0, _, rfl, by omega, H, hP⟩
          case round =>
            clear H hP
            obtain ⟨j, L, rfl, hj, H, hP⟩ := hrel
            by_cases hlt : j < ms.length
            · obtain ⟨g, rfl, rfl, hcl⟩ := H.sl.cells (by omega)
              have hx := hcl _ _ (ints_get (ms.map (·.2.2)) j (by rw [List.length_map]; exact hlt))
              rw [List.drop_eq_getElem_cons hlt] at hP
              have ev : (ms.map (·.2.2)).getD j 0 = (ms[j]).2.2 := by simp [List.getD_eq_getElem?_getD, hlt]
              rw [ev] at hx
              obtain ⟨hD, hP2⟩ := hP.due
              have HD := Lib.hid hD
              have HP := Lib.hid hP2
              have g1 : ((ms[j]).2.2 != (ms[j]).2.2) = false := by simp
              clear hcl ev hP hD hP2
              generalize ms[j] = m at *
              go_wp2_with fail
              refine (tmj_due H.two now _ _ _ HD.out).mono ?_
              rintro e w5 ⟨rfl, h5, hT5⟩
              have HI := Lib.hid (H.due2 h5 hT5)
              clear H h5 hT5 hx
              go_wp2
              go_roundw
              case rel => exact ⟨j + 1, _, num (by omega), by omega, HI.out, HP.out⟩
              case measure => simp [intOf]; omega
            · obtain rfl : j = ms.length := by omega
              rw [List.drop_length] at hP
              obtain rfl : S = L := hP
              have HB0 := Lib.hid H.one.i.below
              clear hlt hj
              by_cases hz : 0 < q
              · have HD : Hid (dueM S now = (S, 0, false)) := Lib.hid (HQ.out hz)
                have hl0 : ((l2.length : Int) == 0) = false := beq_eq_false_iff_ne.2 (by have := HZ.out; omega)
                have hl0n : (l2.length == 0) = false := beq_eq_false_iff_ne.2 (by have := HZ.out; omega)
                have gl : ((S.length : Int) == (S.length : Int)) = true := by simp
                go_wp2_with fail
                refine (tmj_due H.two now _ _ _ HD.out).mono ?_
                rintro e w5 ⟨rfl, h5, hT5⟩
                have HX := Lib.hid (H.due2 h5 hT5)
                have HB := Lib.hid h5.i.below
                clear H h5 hT5
                go_wp2_with (first | (go_at_call 12; refine (tmj_len HX.out.one).mono ?_; rintro e w8 ⟨rfl, hw8⟩; subst w8) | (go_at_call 12; refine (tmj_len HX.out.two).mono ?_; rintro e w8 ⟨rfl, hw8⟩; subst w8))
                go_ret
                exact ⟨rfl, HB.out⟩
              · have hl0 : l2.length = 0 := HZ.out.1 (by omega)
                obtain ⟨r, hr⟩ : ∃ r, dueM S now = r := ⟨_, rfl⟩
                obtain ⟨S', x, ok⟩ := r
                have HD := Lib.hid hr
                clear hr
                rw [hl0]
                cases ok with
                | true =>
                  go_wp2_with fail
                  refine (tmj_due H.two now _ _ _ HD.out).mono ?_
                  rintro e w5 ⟨rfl, h5, hT5⟩
                  have HB := Lib.hid h5.i.below
                  clear H h5 hT5
                  go_wp2
                  go_ret
                  exact ⟨rfl, HB.out⟩
                | false =>
                  go_wp2_with fail
                  refine (tmj_due H.two now _ _ _ HD.out).mono ?_
                  rintro e w5 ⟨rfl, h5, hT5⟩
                  have HB := Lib.hid h5.i.below
                  clear H h5 hT5
                  go_wp2
                  go_ret
                  exact ⟨rfl, HB.out⟩
end Go.Proofs.Ytbdmmijfcgafcaa
