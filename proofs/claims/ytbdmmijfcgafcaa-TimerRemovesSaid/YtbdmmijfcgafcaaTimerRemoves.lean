/- TimerRemoves' walk. -/
import Derived.Test.YtbdmmijfcgafcaaTimerOrder
import Derived.Test.YtbdmmijfcgafcaaBools
namespace Go.Proofs.Ytbdmmijfcgafcaa
open Go.RowKit

/-- What is left: none of it is marked; from k on all is there. -/
structure RemSt (d : List Int) (L : List Tm) (gs : List Bool) (k : Nat) : Prop where
  len : gs.length = d.length
  mem : ∀ y ∈ L, ∃ i : Nat, i < d.length ∧ y = trip d i ∧ gs.getD i false = false
  all : ∀ j, k ≤ j → j < d.length → trip d j ∈ L
theorem trip_inj {d : List Int} {i j : Nat} (h : trip d i = trip d j) : i = j := by
  unfold trip at h
  injection h with h1 h2
  injection h2 with h2 h3
  omega
theorem RemSt.skip {d : List Int} {L : List Tm} {gs : List Bool} {k : Nat} (H : RemSt d L gs k) : RemSt d L gs (k + 1) := ⟨H.len, H.mem, fun j hj hl => H.all j (by omega) hl⟩
theorem RemSt.less {d : List Int} {L : List Tm} {gs : List Bool} {k : Nat} {n : Int} (H : RemSt d L gs k) (O : RowOk L n) (i : Nat) (hk : k ≤ i + 1) : RemSt d (L.erase (trip d i)) (gs.set i true) (i + 1) := by
  refine ⟨by rw [List.length_set]; exact H.len, fun y hy => ?_, fun j hj hl => ?_⟩
  · obtain ⟨h1, h2⟩ := O.mem_erase _ hy
    obtain ⟨j, hj, rfl, hg⟩ := H.mem y h2
    refine ⟨j, hj, rfl, ?_⟩
    rw [bools_set_get _ _ _ _ (by rw [H.len]; exact hj), if_neg (fun e => h1 (by rw [e]))]
    exact hg
  · exact (O.nodup.mem_erase_iff).2 ⟨fun e => by have := trip_inj e; omega, H.all j (by omega) hl⟩
theorem RemSt.lessAll {d : List Int} {L : List Tm} {gs : List Bool} {n : Int} (H : RemSt d L gs d.length) (O : RowOk L n) (i : Nat) : RemSt d (L.erase (trip d i)) (gs.set i true) d.length := by
  refine ⟨by rw [List.length_set]; exact H.len, fun y hy => ?_, fun j hj hl => by omega⟩
  obtain ⟨h1, h2⟩ := O.mem_erase _ hy
  obtain ⟨j, hj, rfl, hg⟩ := H.mem y h2
  refine ⟨j, hj, rfl, ?_⟩
  rw [bools_set_get _ _ _ _ (by rw [H.len]; exact hj), if_neg (fun e => h1 (by rw [e]))]
  exact hg
theorem RemSt.start (d : List Int) {n : Nat} (hn : n = d.length) : RemSt d (trips d n) (List.replicate n false) 0 := by
  refine ⟨by simp [hn], fun y hy => ?_, fun j _ hl => trip_mem d (by omega)⟩
  obtain ⟨i, hi, e⟩ := trips_mem hy
  exact ⟨i, by omega, e, by simp [List.getD_eq_getElem?_getD, hi]⟩
/-- The timers, and the row of marks. -/
structure RemI (w0 w : World) (b : Nat) (L : List Tm) (n : Int) (F : Nat → Prop) (g m : Nat) (gs : List Bool) : Prop where
  tm : TimJ w0 w b L n F
  sl : Sl w 4 1 (some ⟨g, 0, none⟩) m m (bools gs) (some g)
  ne : ¬ F g
  base : w0.heap.size ≤ g
section
variable {w0 w w' : World} {b : Nat} {L L' : List Tm} {n : Int} {F : Nat → Prop} {g m : Nat} {gs : List Bool}
theorem RemI.mark (H : RemI w0 w b L n F g m gs) (i : Nat) : RemI w0 (w.setCell ⟨g, i, none⟩ (.bool true)) b L n F g m (gs.set i true) := by
  refine ⟨H.tm.keep (H.sl.setT i (.bool true)) (fun k hk e => H.ne (e ▸ hk)) (fun k e => by rw [e]; exact H.base), ?_, H.ne, H.base⟩
  rw [← bools_set]
  exact H.sl.set i (.bool true)
theorem RemI.drewN (H : RemI w0 w b L n F g m gs) (q : Nat) : RemI w0 (w.drewN q) b L n F g m gs := ⟨H.tm.nothing ((Tch.refl NoBlk w).drewN q), H.sl.drewN q, H.ne, H.base⟩
theorem RemI.left (H : RemI w0 w b L n F g m gs) (h : TimJ w0 w' b L' n F) (ht : Tch F w w') : RemI w0 w' b L' n F g m gs :=
  ⟨h, H.sl.keep ht (fun k hk e => H.ne (by injection hk with hk; rw [hk]; exact e)), H.ne, H.base⟩
end


set_option maxHeartbeats 4000000 in
set_option maxRecDepth 100000 in
theorem timerRemoves_walk (a : Option Addr) (cap : Nat) (l : List Int) (a2 : Option Addr) (cap2 : Nat) (l2 : List Bool) (w : World) (h : IntsIn .i64 w a cap l) (h2 : BoolsIn w a2 cap2 l2) :
    Calls Try.prog 7 #[.slice a l.length cap, .slice a2 l2.length cap2] w fun e w' => e = .returned (.bool true) ∧ Below w.heap.size w w' := by
  obtain ⟨n, hn⟩ : ∃ n, n = min l.length 64 := ⟨_, rfl⟩
  have HE := Lib.hid (h.few (n := n) (by omega))
  have hle := h.le
  have hc := h.cap
  have HB2 := Lib.hid h2.cells
  have hle2 := h2.le
  have hcap2 := h2.cap
  obtain ⟨d, hd⟩ : ∃ d, d = l.take n := ⟨_, rfl⟩
  have hdl : d.length = n := by rw [hd, List.length_take]; omega
  have HW : Hid (∀ i, i < n → d.getD i 0 ≤ 9223372036854775807) := Lib.hid (fun i hi => by
    have e : d.getD i 0 ∈ d := by
      rw [List.getD_eq_getElem?_getD, List.getElem?_eq_getElem (show i < d.length by omega)]
      exact List.getElem_mem _
    have e2 : d.getD i 0 ∈ l := by
      rw [hd] at e ⊢
      exact List.mem_of_mem_take e
    have := (h.wf _ e2).2
    simpa [IntKind.max, IntKind.signed, IntKind.bits] using this)
  rw [← hd] at HE
  have hnl : n ≤ l.length := by omega
  have hn64 : n ≤ 64 := by omega
  clear h h2 hd
  go_enter Try.func7, Try.ntmps7
  go_wp2_with fail
  refine (timer_shown w).mono ?_
  rintro e w1 ⟨rfl, hT1⟩
  have B1 := below_no (Below.refl _ w) hT1
  clear hT1
  go_wp2_with fail
  refine (tmj_new B1).mono ?_
  rintro e w2 ⟨b, F, rfl, h2, _, _⟩
  clear B1
  go_upto_region 5 with fail
  go_cut [7] from 26 to 26 (fun x wx => x = .slice a n cap ∧ w2 = wx)
  case first =>
    clear h2
    go_wp2_with fail
    · have hk : n = 64 := by omega
      go_meet
      exact ⟨by rw [hk], rfl⟩
    · have hk : n = l.length := by omega
      go_meet
      exact ⟨by rw [hk], rfl⟩
  case rest =>
  obtain ⟨rfl, rfl⟩ := hcut
  clear hn
  go_wp2_with fail
  go_loopw [33] (fun i wr => ∃ (k : Nat) (F : Nat → Prop), i = .int .i64 k ∧ k ≤ n ∧ TimJ w wr b (trips d k) k F) (fun i _ => n - (intOf i).toNat)
  case atStart => exact ⟨0, F, rfl, by omega, h2⟩
  case round =>
    clear h2
    obtain ⟨k, F, rfl, hk, H⟩ := hrel
    by_cases hlt : k < n
    · obtain ⟨ba, off, rfl, hcell⟩ := HE.out (by omega)
      have hc0 := hcell k hlt
      have hx0 : wr.cell? ⟨ba, off + k, none⟩ = _ := (H.i.below.cell (p := ⟨ba, off + k, none⟩) (World.block_lt_of_cell? w _ hc0)).trans hc0
      clear hcell hc0
      have HK : Hid (trips d (k + 1) = trips d k ++ [(d.getD k 0, (k : Int), (k : Int))]) := Lib.hid (trips_snoc d k)
      generalize d.getD k 0 = dk at *
      go_wp2_with fail
      refine (tmj_put H dk k (by rw [trips_length]; omega) (by omega) (by omega)).mono ?_
      rintro e w3 ⟨rfl, _, F3, h3, _⟩
      have h4 : TimJ w w3 b (trips d (k + 1)) ((k + 1 : Nat) : Int) F3 := by
        rw [HK.out]
        exact h3
      have H4 := Lib.hid h4
      clear H h3 h4 hx0
      go_wp2
      go_roundw
      case rel => exact ⟨k + 1, F3, num (by omega), by omega, H4.out⟩
      case measure => simp [intOf]; omega
    · obtain rfl : k = n := by omega
      clear hlt hk
      have HF := Lib.hid (fun i (hi : F i) => H.i.lt i hi)
      have hS0 := RemSt.start d hdl.symm
      have hlen0 := trips_length d k
      go_wp2_with (at_make; refine wpList_mk rfl _ _ _ rfl 4 (.bool false) 1 Try.underlying45 infoBool rfl k rfl rfl (by omega) (by omega) ?_; intro w3 hs3 ht3; have HS3 := Lib.hid hs3; have HT3 := Lib.hid ht3; clear hs3 ht3)
      have hI3 : RemI w w3 b (trips d k) k F wr.heap.size k (List.replicate k false) := ⟨H.nothing HT3.out, by rw [bools, List.map_replicate]; exact HS3.out, fun e => by have := HF.out _ e; omega, H.i.below.size⟩
      clear H HS3 HT3 HF
      generalize wr.heap.size = g at *
      go_loopw [8, 53] (fun m i wr => ∃ (q c : Nat) (L : List Tm) (F : Nat → Prop) (gs : List Bool), i = .int .i64 q ∧ m = .int .i64 c ∧ q ≤ k ∧ RemI w wr b L k F g k gs ∧ RemSt d L gs q ∧ L.length + q = k + c) (fun _ i _ => k - (intOf i).toNat)
      case atStart => exact ⟨0, 0, _, F, _, rfl, rfl, by omega, hI3, hS0, hlen0⟩
      case round =>
        clear hI3 hS0 hlen0
        obtain ⟨q, c, L, F, gs, rfl, rfl, hq, hI, hS, hlen⟩ := hrel
        have hcb : c ≤ 64 := by have := hI.tm.le; omega
        by_cases hlt : q < k
        · have HJ := Lib.hid hI
          have HS := Lib.hid hS
          have hq64 : q < 64 := by omega
          by_cases hql : q < l2.length
          · obtain ⟨b2, off2, rfl, hcell⟩ := HB2.out (by omega)
            have hc0 := hcell q hql
            have hx0 : wr.cell? ⟨b2, off2 + q, none⟩ = _ := (hI.tm.i.below.cell (p := ⟨b2, off2 + q, none⟩) (World.block_lt_of_cell? w _ hc0)).trans hc0
            have hd : decide ((q : Int) < (l2.length : Int)) = true := by simp; omega
            have hdn : decide (q < l2.length) = true := by simp; omega
            clear hcell hc0 hS hI
            by_cases ho : l2.getD q false = true
            · rw [ho] at hx0
              have hmem := HS.out.all q (by omega) (by omega)
              have HM : Hid (remM L (q : Int) = (L.erase (trip d q), (q : Int), true)) := Lib.hid (remM_at HJ.out.tm.ok hmem)
              have HN : Hid ((L.erase (trip d q)).length + (q + 1) = k + c) := Lib.hid (by have := erase_len hmem; omega)
              have HS2 := Lib.hid (HS.out.less HJ.out.tm.ok q (by omega))
              have g1 : ((q : Int) != (q : Int)) = false := by simp
              clear hmem ho
              go_wp2_with fail
              refine (tmj_remove HJ.out.tm q _ _ _ HM.out).mono ?_
              rintro e w5 ⟨rfl, h5, hT5⟩
              have hI5 := HJ.out.left h5 hT5
              have f5 := hI5.sl.free q
              obtain ⟨v5, hv5⟩ : ∃ v, w5.cell? ⟨g, q, none⟩ = some v := by
                obtain ⟨g', e1, _, hcl⟩ := hI5.sl.cells (by omega)
                injection e1 with e1
                injection e1 with e1
                subst e1
                exact ⟨_, hcl _ _ (bools_get gs q (by rw [HS.out.len]; omega))⟩
              have HJ5 := Lib.hid hI5
              clear HJ hI5 h5 hT5 hx0
              go_wp2
              go_roundw
              case rel => exact ⟨q + 1, c, _, F, _, num (by omega), rfl, by omega, HJ5.out.mark q, HS2.out, HN.out⟩
              case measure => simp [intOf]; omega
            · have ho2 : l2.getD q false = false := by simpa using ho
              rw [ho2] at hx0
              clear ho ho2
              go_wp2
              go_roundw
              case rel => exact ⟨q + 1, c + 1, L, F, gs, num (by omega), num (by omega), by omega, HJ.out, HS.out.skip, by omega⟩
              case measure => simp [intOf]; omega
          · have hd : decide ((q : Int) < (l2.length : Int)) = false := by simp; omega
            have hdn : decide (q < l2.length) = false := by simp; omega
            clear hS hI
            go_wp2
            go_roundw
            case rel => exact ⟨q + 1, c + 1, L, F, gs, num (by omega), num (by omega), by omega, HJ.out, HS.out.skip, by omega⟩
            case measure => simp [intOf]; omega
        · obtain rfl : q = k := by omega
          have hS0 : DueSt d L (-1) := ⟨fun y hy => by
            obtain ⟨i, hi, e, _⟩ := hS.mem y hy
            exact ⟨i, hi, e⟩, .inl rfl⟩
          have hR0 : RemSt d L gs d.length := by rw [hdl]; exact hS
          have hlen0 : L.length = c := by omega
          clear hS hlt hq hlen
          go_wp2_with fail
          go_loopw [17, 86] (fun t i wr => ∃ (r : Nat) (last : Int) (L : List Tm) (F : Nat → Prop) (gs : List Bool), i = .int .i64 r ∧ t = .int .i64 last ∧ r ≤ c ∧ RemI w wr b L q F g q gs ∧ DueSt d L last ∧ RemSt d L gs d.length ∧ L.length + r = c) (fun _ i _ => c - (intOf i).toNat)
          case atStart => exact ⟨0, -1, _, F, _, rfl, rfl, by omega, hI, hS0, hR0, hlen0⟩
          case round =>
            clear hI hS0 hlen0 hR0
            obtain ⟨r, last, L, F, gs, rfl, rfl, hr, hI, hS, hR, hlen⟩ := hrel
            by_cases hlt : r < c
            · obtain ⟨i, hi, hnow, hmem, hdue, hst, hst0⟩ := hS.step hI.tm.ok 9223372036854775807 (by
                have h0 : 0 < L.length := by omega
                obtain ⟨y, hy⟩ := List.exists_mem_of_length_pos h0
                obtain ⟨j, hj, rfl⟩ := hS.mem y hy
                exact ⟨_, hy, HW.out j (by omega)⟩)
              have HST := Lib.hid hst0
              have HS := Lib.hid hst
              clear hst0 hst
              have HD := Lib.hid hdue
              have HR := Lib.hid (hR.lessAll hI.tm.ok i)
              obtain ⟨i', hi', ei, hgf⟩ := hR.mem _ hmem
              obtain rfl := trip_inj ei
              rw [hdl] at hi
              have HN : Hid ((L.erase (trip d i)).length + (r + 1) = c) := Lib.hid (by have := erase_len hmem; omega)
              have hgl := hR.len
              obtain ⟨ba, off, rfl, hcell⟩ := HE.out (by omega)
              have hc0 := hcell i hi
              clear hS hmem hdue hlen hR ei hi'
              go_wp2_with fail
              refine (tmj_due hI.tm 9223372036854775807 _ _ _ HD.out).mono ?_
              rintro e w5 ⟨rfl, h5, hT5⟩
              have hI5 := hI.left h5 hT5
              have hx0 : w5.cell? ⟨ba, off + i, none⟩ = _ := (h5.i.below.cell (p := ⟨ba, off + i, none⟩) (World.block_lt_of_cell? w _ hc0)).trans hc0
              have f5 := hI5.sl.free i
              have hy0 : w5.cell? ⟨g, i, none⟩ = some (.bool false) := by
                obtain ⟨g', e1, _, hcl⟩ := hI5.sl.cells (by omega)
                injection e1 with e1
                injection e1 with e1
                subst e1
                rw [hcl _ _ (bools_get gs i (by omega)), hgf]
              have HJ := Lib.hid hI5
              have d1 : decide ((i : Int) < 0) = false := by simp
              have d2 : decide ((q : Int) ≤ (i : Int)) = false := by simp; omega
              have d2n : decide (q ≤ i) = false := by simp; omega
              have hi64 : i < 64 := by omega
              rcases HST.out with rfl | ⟨p, rfl, hp, hlt2⟩
              · have d4 : decide ((0 : Int) ≤ -1) = false := by decide
                clear HST h5 hcell hc0 hnow hgf hgl hI hI5
                generalize d.getD i 0 = di at *
                clear hT5
                go_wp2_with fail
                go_quiet (fail)
                go_wp2
                go_roundw
                case rel => exact ⟨r + 1, (i : Int), _, F, _, num (by omega), rfl, by omega, ((HJ.out.drewN _).mark i), HS.out, HR.out, HN.out⟩
                case measure => simp [intOf]; omega
              · rw [hdl] at hp
                have hc1 := hcell p hp
                have hx1 : w5.cell? ⟨ba, off + p, none⟩ = _ := (h5.i.below.cell (p := ⟨ba, off + p, none⟩) (World.block_lt_of_cell? w _ hc1)).trans hc1
                have d4 : decide ((0 : Int) ≤ (p : Int)) = true := by simp
                have hp64 : p < 64 := by omega
                unfold Tlt trip at hlt2
                dsimp only at hlt2
                have d5 : decide (d.getD i 0 < d.getD p 0) = false := decide_eq_false (by omega)
                by_cases he : d.getD i 0 = d.getD p 0
                · have d6 : (d.getD i 0 == d.getD p 0) = true := by simpa using he
                  have hip : p < i := by omega
                  have d7 : decide ((i : Int) < (p : Int)) = false := by simp; omega
                  have d7n : decide (i < p) = false := by simp; omega
                  clear HST h5 hcell hc0 hc1 hnow hlt2 he hgf hgl hI hI5
                  generalize d.getD i 0 = di at *
                  generalize d.getD p 0 = dp at *
                  clear hT5
                  go_wp2_with fail
                  go_quiet (fail)
                  go_wp2
                  go_roundw
                  case rel => exact ⟨r + 1, (i : Int), _, F, _, num (by omega), rfl, by omega, ((HJ.out.drewN _).mark i), HS.out, HR.out, HN.out⟩
                  case measure => simp [intOf]; omega
                · have d6 : (d.getD i 0 == d.getD p 0) = false := by simpa using he
                  clear HST h5 hcell hc0 hc1 hnow hlt2 he hgf hgl hI hI5
                  generalize d.getD i 0 = di at *
                  generalize d.getD p 0 = dp at *
                  clear hT5
                  go_wp2_with fail
                  go_quiet (fail)
                  go_wp2
                  go_roundw
                  case rel => exact ⟨r + 1, (i : Int), _, F, _, num (by omega), rfl, by omega, ((HJ.out.drewN _).mark i), HS.out, HR.out, HN.out⟩
                  case measure => simp [intOf]; omega
            · obtain rfl : r = c := by omega
              have hL : L = [] := List.eq_nil_of_length_eq_zero (by omega)
              subst hL
              have HB := Lib.hid hI.tm.i.below
              have HJ := Lib.hid hI.tm
              clear hI hS hR
              go_wp2_with fail
              refine (tmj_next HJ.out 0 false rfl).mono ?_
              rintro e w0 ⟨rfl, h0⟩; subst w0
              go_wp2_with ((go_at_call 12; refine (tmj_len HJ.out).mono ?_; rintro e w8 ⟨rfl, hw8⟩; subst w8))
              go_ret
              exact ⟨rfl, HB.out⟩
end Go.Proofs.Ytbdmmijfcgafcaa
