/- PromiseApart's walk. -/
import Derived.Test.YtfmkjnlelijnoaaRows8
import Derived.Test.YtfmkjnlelijnoaaArgs
import Derived.Deep.CutRange
import Derived.Deep.QuietTactic
namespace Go.Proofs.Ytfmkjnlelijnoaa
open Go.RowKit

theorem byte_at (l : List Int) (k : Nat) (hk : k < l.length) (h : ∀ n ∈ l, IntKind.u8.min ≤ n ∧ n ≤ IntKind.u8.max) : ∃ m q : Nat, l.getD k 0 = (m : Int) ∧ m ≤ 255 ∧ (m : Int) % 8 = (q : Int) ∧ q < 8 := by
  have e : l.getD k 0 = l[k] := by simp [List.getD_eq_getElem?_getD, hk]
  obtain ⟨a0, a1⟩ := h l[k] (List.getElem_mem hk)
  simp only [IntKind.min, IntKind.max, IntKind.signed, IntKind.bits] at a0 a1
  rw [e]
  generalize l[k] = x at *
  obtain ⟨m, rfl⟩ := Int.eq_ofNat_of_zero_le (show 0 ≤ x by simpa using a0)
  exact ⟨m, m % 8, rfl, by simp at a1; omega, by omega, by omega⟩

/-- The table, the rows, and which were told. -/
structure ApartT (w0 w : World) (b : Nat) (T : Nat → Option Int) (F : Nat → Prop) (p : Nat) (W : Nat → List Int) (P : Nat → Prop) (tb : Nat) : Prop where
  ap : AptI w0 w b (tabOf W T) F p W P
  blk : Blk w tb 51 ((List.range 8).map fun i => .bool (T i).isSome)
  n1 : ¬ F tb
  n2 : ¬ P tb
  base : w0.heap.size ≤ tb
theorem ApartT.drewN {w0 w : World} {b : Nat} {T : Nat → Option Int} {F : Nat → Prop} {p : Nat} {W : Nat → List Int} {P : Nat → Prop} {tb : Nat} (h : ApartT w0 w b T F p W P tb) (n : Nat) : ApartT w0 (w.drewN n) b T F p W P tb :=
  ⟨h.ap.none ((Tch.refl NoBlk w).drewN n), h.blk.keep ((Tch.refl NoBlk w).drewN n) (fun h => h), h.n1, h.n2, h.base⟩

set_option maxHeartbeats 4000000 in
set_option maxRecDepth 100000 in
theorem promiseApart_walk (a : Option Addr) (cap : Nat) (l : List Int) (a' : Option Addr) (cap' : Nat) (l' : List Int) (w : World) (h : IntsIn .u8 w a cap l) (h' : IntsIn .u8 w a' cap' l') :
    Calls Try.prog 7 #[.slice a l.length cap, .slice a' l'.length cap'] w fun e w' => e = .returned (.bool true) ∧ Below w.heap.size w w' := by
  obtain ⟨hl, hc, he, hwf⟩ := h
  obtain ⟨hl', hc', he', hwf'⟩ := h'
  have HE := Lib.hid he
  have HE' := Lib.hid he'
  have HW := Lib.hid hwf
  have HW' := Lib.hid hwf'
  clear he he' hwf hwf'
  obtain ⟨n, hn⟩ : ∃ n, n = min l.length 100 := ⟨_, rfl⟩
  obtain ⟨n', hn'⟩ : ∃ n, n = min l'.length 30 := ⟨_, rfl⟩
  have hnl : n ≤ l.length := by omega
  have hnl' : n' ≤ l'.length := by omega
  have hnb : n ≤ 100 := by omega
  go_enter Try.func7, Try.ntmps7
  go_wp2_with fail
  refine (promise_shown w).mono ?_
  rintro e w1 ⟨rfl, hT1⟩
  have B1 := below_no (Below.refl _ w) hT1
  clear hT1
  go_wp2_with fail
  refine (prs_new B1).mono ?_
  rintro e w2 ⟨b, F, rfl, h2, _, _⟩
  clear B1
  go_wp2_with fail
  go_loopw [32] (fun i wr => ∃ (j : Nat) (F : Nat → Prop), i = .int .i64 j ∧ j ≤ 8 ∧ PrsI w wr b (news j) F) (fun i _ => 8 - (intOf i).toNat)
  case atStart => exact ⟨0, F, rfl, Nat.zero_le _, h2⟩
  case round =>
    clear h2
    obtain ⟨j, F, rfl, hj, hI⟩ := hrel
    by_cases hlt : j < 8
    · have hne : ((j : Int) != (j : Int)) = false := by simp
      go_wp2_with fail
      refine (prs_make hI _ _ _ (news_make j (by omega))).mono ?_
      rintro e w3 ⟨rfl, _, F3, hI3, _⟩
      clear hI
      go_wp2
      go_roundw
      case rel => exact ⟨j + 1, F3, rfl, by omega, hI3⟩
      case measure => simp [intOf]; omega
    · obtain rfl : j = 8 := by omega
      clear hlt hj
      rw [tab_new] at hI
      obtain ⟨P, hP, hP1⟩ := r8_new wr
      have hA : AptI w (wr.alloc (.cells #[.slice none 0 0, .slice none 0 0, .slice none 0 0, .slice none 0 0, .slice none 0 0, .slice none 0 0, .slice none 0 0, .slice none 0 0] 50)) b (tabOf (fun _ => []) (fun _ => none)) F wr.heap.size (fun _ => []) P :=
        ⟨hI.alloc _, hP, fun k hk hf => by have := hP1 k hk; have := hI.q.lt k hf; omega, fun k hk => Nat.le_trans hI.below.size (hP1 k hk)⟩
      clear hP hP1 hI
      go_upto_region 13 with fail
      generalize wr.alloc (.cells #[.slice none 0 0, .slice none 0 0, .slice none 0 0, .slice none 0 0, .slice none 0 0, .slice none 0 0, .slice none 0 0, .slice none 0 0] 50) = wA at *
      generalize wr.heap.size = p at *
      go_cut [52, 53, 54] from 48 to 48 (fun x y z wx => x = .slice a n cap ∧ y = .int .i64 n ∧ z = .int .i64 0 ∧ wA = wx)
      case first =>
        clear hA
        go_wp2_with fail
        · have hk : n = 100 := by omega
          go_meet
          exact ⟨by rw [hk], by rw [hk]; rfl, rfl, rfl⟩
        · have hk : n = l.length := by omega
          go_meet
          exact ⟨by rw [hk], by rw [hk], rfl, rfl⟩
      case rest =>
      obtain ⟨rfl, rfl, rfl, rfl⟩ := hcut
      clear hn
      go_wp2_with fail
      go_loopw [54] (fun i wr => ∃ (k : Nat) (W : Nat → List Int) (P : Nat → Prop), i = .int .i64 k ∧ k ≤ n ∧ (∀ i, (W i).length ≤ k) ∧ AptI w wr b (tabOf W (fun _ => none)) F p W P) (fun i _ => n - (intOf i).toNat)
      case atStart => exact ⟨0, _, P, rfl, Nat.zero_le _, fun _ => Nat.le_refl _, hA⟩
      case round =>
        clear hA
        obtain ⟨k, W, P, rfl, hk, hWk, hI⟩ := hrel
        by_cases hlt : k < n
        · obtain ⟨ba, off, rfl, hcell⟩ := HE.out (by omega)
          have hc1 := hcell k (by omega)
          obtain ⟨m, q, hm, hm2, hmq, hq⟩ := byte_at l k (by omega) HW.out
          have hcw : wr.cell? ⟨ba, off + k, none⟩ = some (.int .u8 (l.getD k 0)) := (hI.pr.below.cell (p := ⟨ba, off + k, none⟩) (World.block_lt_of_cell? w _ hc1)).trans hc1
          rw [hm] at hcw
          clear hcell hc1 hm
          have hWq := hWk q
          have ET := Lib.hid (tab_then W (fun _ => none) q k hq rfl (by omega))
          have HWk := Lib.hid hWk
          clear hWk
          go_wp2_with fail
          simp only [hmq]
          refine (apt_then hI q k _ _ _ _ ET.out).mono ?_
          rintro e w5 ⟨rfl, hI5, _⟩
          clear hI
          obtain ⟨A, c, G, hR, hP⟩ := hI5.r8
          have hcq := hR.cell q hq
          have hsq := hR.sl q hq
          have hlp := hR.blk.lt
          have hcqA : ∀ o, (w5.alloc o).cell? ⟨p, q, none⟩ = some (.slice (A q) (W q).length (c q)) := fun o => ((Tch.refl NoBlk w5).alloc o).cell' hcq (fun h => h)
          have hb5 := hR.blk
          have HI5 := Lib.hid hI5
          have HR := Lib.hid hR
          have HP := Lib.hid hP
          clear hI5 hR hP
          go_wp2_with (at_builtin; refine wpList_app _ rfl (.tmp 79) (.tmp 81) 28 rfl 3 (.int .i64 0) 1 8 Try.underlying28 infoInt rfl (by decide) (by decide) _ _ _ _ _ _ _ _ _ rfl rfl (hsq.alloc _) (Src.made w5 3 #[.int .i64 k] 1 rfl) (ints_one [(k : Int)]) (by omega) ?_; intro A6 c6 w6 G6 hs6 ht6 hg6; have HS6 := Lib.hid hs6; have HT6 : Hid (Tch (fun i => G q = some i) w5 w6) := Lib.hid (Tch.then ((Tch.refl _ w5).alloc _) ht6 (fun _ _ h => h)); have HG6 := Lib.hid hg6; have hb6 := hb5.keep HT6.out (HR.out.np q hq); have hc6 := hb6.cellOf q _ (by simp [hq]; rfl); have hf6 := hb6.free q; clear hs6 ht6 hg6 hb6)
          have e1 : (W q ++ [(k : Int)]).length = (W q).length + 1 := by simp
          have hs6 : Sl w6 3 1 A6 (W q ++ [(k : Int)]).length c6 (ints (W q ++ [(k : Int)])) G6 := by rw [e1, ints, List.map_append]; exact HS6.out
          have hg6 : G6 = G q ∨ ∃ g, G6 = some g ∧ w5.heap.size ≤ g := HG6.out.elim .inl (fun ⟨g, h1, h2⟩ => .inr ⟨g, h1, by simp at h2; omega⟩)
          have hgr := HR.out.app HP.out q hq HT6.out hs6 hg6
          rw [e1] at hgr
          obtain ⟨P6, hI6⟩ := HI5.out.grown hgr
          clear hgr hs6 hg6
          go_roundw
          case rel =>
            refine ⟨k + 1, upd W q (W q ++ [(k : Int)]), P6, num (by omega), by omega, fun i => ?_, hI6⟩
            have := HWk.out i
            by_cases hi : i = q
            · subst hi
              rw [upd_same, e1]
              omega
            · rw [upd_ne _ _ _ _ hi]
              omega
          case measure => simp [intOf]; omega
        · obtain rfl : k = n := by omega
          have hge : k ≤ k := by omega
          clear hlt hk hWk
          obtain ⟨T0, hT0⟩ : ∃ T : Nat → Option Int, T = fun _ => none := ⟨_, rfl⟩
          have hB : ApartT w (wr.alloc (.cells #[.bool false, .bool false, .bool false, .bool false, .bool false, .bool false, .bool false, .bool false] 51)) b T0 F p W P wr.heap.size := by
            rw [← hT0] at hI
            refine ⟨hI.none ((Tch.refl NoBlk wr).alloc _), ?_, fun hf => absurd (hI.pr.q.lt _ hf) (by omega), fun hf => absurd (hI.r8.lt _ hf) (by omega), hI.pr.below.size⟩
            rw [hT0]
            exact Blk.new wr _ [.bool false, .bool false, .bool false, .bool false, .bool false, .bool false, .bool false, .bool false]
          clear hI hT0
          go_upto_region 22 with fail
          generalize wr.alloc (.cells #[.bool false, .bool false, .bool false, .bool false, .bool false, .bool false, .bool false, .bool false] 51) = wB at *
          generalize wr.heap.size = tb at *
          go_cut [89, 90, 91] from 85 to 85 (fun x y z wx => x = .slice a' n' cap' ∧ y = .int .i64 n' ∧ z = .int .i64 0 ∧ wB = wx)
          case first =>
            clear hB
            go_wp2_with fail
            · have hk : n' = 30 := by omega
              go_meet
              exact ⟨by rw [hk], by rw [hk]; rfl, rfl, rfl⟩
            · have hk : n' = l'.length := by omega
              go_meet
              exact ⟨by rw [hk], by rw [hk], rfl, rfl⟩
          case rest =>
          obtain ⟨rfl, rfl, rfl, rfl⟩ := hcut
          clear hn'
          go_wp2_with fail
          go_loopw [91] (fun i wr => ∃ (j : Nat) (T : Nat → Option Int), i = .int .i64 j ∧ j ≤ n' ∧ ApartT w wr b T F p W P tb) (fun i _ => n' - (intOf i).toNat)
          case atStart => exact ⟨0, T0, rfl, Nat.zero_le _, hB⟩
          case round =>
            clear hB
            obtain ⟨j, T, rfl, hj, hB⟩ := hrel
            by_cases hlt : j < n'
            · obtain ⟨ba, off, rfl, hcell⟩ := HE'.out (by omega)
              have hc1 := hcell j (by omega)
              obtain ⟨m, q, hm, hm2, hmq, hq⟩ := byte_at l' j (by omega) HW'.out
              have hcw : wr.cell? ⟨ba, off + j, none⟩ = some (.int .u8 (l'.getD j 0)) := (hB.ap.pr.below.cell (p := ⟨ba, off + j, none⟩) (World.block_lt_of_cell? w _ hc1)).trans hc1
              rw [hm] at hcw
              clear hcell hc1 hm
              cases hTq : T q with
              | some u =>
                have ES := Lib.hid (tab_again W T q j u hq hTq)
                go_wp2_with fail
                simp only [hmq]
                refine (apt_settle hB.ap q j _ _ _ ES.out).mono ?_
                rintro e w5 ⟨A5, c5, G5, rfl, _, _, hI5, hT5⟩
                have hB5 : ApartT w w5 b T F p W P tb := ⟨hI5, hB.blk.keep hT5 hB.n1, hB.n1, hB.n2, hB.base⟩
                have hct : w5.cell? ⟨tb, q, none⟩ = some (.bool true) := hB5.blk.cellOf q _ (by simp [hq, hTq])
                have HB5 := Lib.hid hB5
                clear hB hI5 hT5 hB5
                go_wp2
                go_roundw
                case rel => exact ⟨j + 1, T, num (by omega), by omega, HB5.out⟩
                case measure => simp [intOf]; omega
              | none =>
                have ES := Lib.hid (tab_settle W T q j hq hTq)
                have EV := Lib.hid (tab_value W (upd T q (some (j : Int))) q hq)
                go_wp2_with fail
                simp only [hmq]
                refine (apt_settle hB.ap q j _ _ _ ES.out).mono ?_
                rintro e w5 ⟨A5, c5, G5, rfl, hs5, _, hI5, hT5⟩
                have hb5 := hB.blk.keep hT5 hB.n1
                have hct : w5.cell? ⟨tb, q, none⟩ = some (.bool false) := hb5.cellOf q _ (by simp [hq, hTq])
                obtain ⟨A, c, G, hR, _⟩ := hI5.r8
                have hcq := hR.cell q hq
                have hsq := hR.sl q hq
                have HI5 := Lib.hid hI5
                have HB := Lib.hid hB
                have HB5 := Lib.hid hb5
                clear hB hI5 hT5 hR
                go_wp2_with fail
                refine (ints_same _ _ _ _ (W q) (W q) _ _ _ hs5 hsq rfl).mono ?_
                rintro e w6 ⟨rfl, n6, rfl⟩
                clear hs5 hsq hcq hct hb5
                have hb6 : Blk (w5.drewN n6) tb _ _ := HB5.out.keep ((Tch.refl NoBlk w5).drewN n6) (fun h => h)
                have hI6 := HI5.out.none ((Tch.refl NoBlk w5).drewN n6)
                clear HB5 HI5
                generalize w5.drewN n6 = w6 at *
                have hc6 := hb6.cellOf q _ (by simp [hq]; rfl)
                have hf6 := hb6.free q
                have hS : Tch (· = tb) w6 (w6.setCell ⟨tb, q, none⟩ (.bool true)) := (Tch.refl (· = tb) w6).setCell (p := ⟨tb, q, none⟩) (fun _ => rfl) _
                have hI7 := hI6.keep hS (fun k e => ⟨fun hf => HB.out.n1 (e ▸ hf), fun hf => HB.out.n2 (e ▸ hf)⟩) (fun k e => e ▸ HB.out.base)
                have hb7 := hb6.set q (.bool true)
                rw [range_set] at hb7
                have hfun : (upd (fun i => Value.bool (T i).isSome) q (.bool true)) = fun i => .bool (upd T q (some (j : Int)) i).isSome := by
                  funext i
                  by_cases hi : i = q
                  · simp [upd, hi]
                  · simp [upd, hi]
                rw [hfun] at hb7
                have HB7 := Lib.hid (show ApartT w (w6.setCell ⟨tb, q, none⟩ (.bool true)) b (upd T q (some (j : Int))) F p W P tb from ⟨hI7, hb7, HB.out.n1, HB.out.n2, HB.out.base⟩)
                have hv : ((upd T q (some (j : Int)) q).getD 0, (upd T q (some (j : Int)) q).isSome, 0) = ((j : Int), true, (0 : Nat)) := by rw [upd_same]; rfl
                have EV2 := Lib.hid (EV.out.trans hv)
                have hjj : ((j : Int) != (j : Int)) = false := by simp
                clear hI6 hI7 hb6 hb7 hS hfun hv EV
                go_wp2_with fail
                refine (prs_value HB7.out.ap.pr q _ _ _ EV2.out).mono ?_
                rintro e w8 ⟨rfl, n8, rfl⟩
                go_wp2
                go_roundw
                case rel => exact ⟨j + 1, upd T q (some (j : Int)), num (by omega), by omega, HB7.out.drewN n8⟩
                case measure => simp [intOf]; omega
            · have hge' : n' ≤ j := by omega
              have hdj : decide (j < n') = false := by simp; omega
              have hdji : decide ((j : Int) < (n' : Int)) = false := by simp; omega
              clear hlt hj
              go_wp2_with fail
              go_loopw [151] (fun i wr => ∃ j : Nat, i = .int .i64 j ∧ j ≤ 8 ∧ ApartT w wr b T F p W P tb) (fun i _ => 8 - (intOf i).toNat)
              case atStart => exact ⟨0, rfl, Nat.zero_le _, hB⟩
              case round =>
                clear hB
                obtain ⟨q, rfl, hq, hB⟩ := hrel
                by_cases hlt : q < 8
                · have EV := Lib.hid (tab_value W T q hlt)
                  have EW := Lib.hid (tab_waits W T q hlt)
                  have hct := hB.blk.cellOf q (.bool (T q).isSome) (by simp [hlt])
                  obtain ⟨A, c, G, hR, _⟩ := hB.ap.r8
                  have hcq := hR.cell q hlt
                  have hcap := (hR.sl q hlt).cap_le
                  clear hR
                  have HB := Lib.hid hB
                  clear hB
                  cases hTq : T q with
                  | none =>
                    rw [hTq] at hct
                    have EV2 := Lib.hid (EV.out.trans (by rw [hTq]; rfl : _ = ((0 : Int), false, (0 : Nat))))
                    have EW2 := Lib.hid (EW.out.trans (by rw [hTq]; rfl : _ = (W q).length))
                    have hlen : (((W q).length : Int) != ((W q).length : Int)) = false := by simp
                    clear EV EW
                    have hct2 : wr.cell? ⟨tb, q, none⟩ = some (.bool false) := hct
                    clear hct
                    go_wp2_with fail
                    refine (prs_value HB.out.ap.pr q _ _ _ EV2.out).mono ?_
                    rintro e w8 ⟨rfl, n8, rfl⟩
                    have HB8 := Lib.hid (HB.out.drewN n8)
                    have hct3 : (wr.drewN n8).cell? ⟨tb, q, none⟩ = some (.bool false) := hct2
                    have hcq3 : (wr.drewN n8).cell? ⟨p, q, none⟩ = _ := hcq
                    clear hct2 hcq HB
                    generalize wr.drewN n8 = w8 at *
                    go_wp2_with fail
                    go_quiet ((go_at_call 21; exact Calls.quiet_of_same (prs_waits (HB8.out.drewN _).ap.pr q _ EW2.out)))
                    go_wp2
                    go_roundw
                    case rel => exact ⟨q + 1, num (by omega), by omega, HB8.out.drewN _⟩
                    case measure => simp [intOf]; omega
                  | some u =>
                    rw [hTq] at hct
                    have EV2 := Lib.hid (EV.out.trans (by rw [hTq]; rfl : _ = (u, true, (0 : Nat))))
                    have EW2 := Lib.hid (EW.out.trans (by rw [hTq]; rfl : _ = 0))
                    clear EV EW
                    have hct2 : wr.cell? ⟨tb, q, none⟩ = some (.bool true) := hct
                    clear hct
                    go_wp2_with fail
                    refine (prs_value HB.out.ap.pr q _ _ _ EV2.out).mono ?_
                    rintro e w8 ⟨rfl, n8, rfl⟩
                    have HB8 := Lib.hid (HB.out.drewN n8)
                    have hct3 : (wr.drewN n8).cell? ⟨tb, q, none⟩ = some (.bool true) := hct2
                    have hcq3 : (wr.drewN n8).cell? ⟨p, q, none⟩ = _ := hcq
                    clear hct2 hcq HB
                    generalize wr.drewN n8 = w8 at *
                    go_wp2_with fail
                    go_quiet ((go_at_call 21; exact Calls.quiet_of_same (prs_waits (HB8.out.drewN _).ap.pr q _ EW2.out)))
                    go_wp2
                    go_roundw
                    case rel => exact ⟨q + 1, num (by omega), by omega, HB8.out.drewN _⟩
                    case measure => simp [intOf]; omega
                · have hge8 : 8 ≤ q := by omega
                  have HB := Lib.hid hB.ap.pr.below
                  clear hlt hB hq
                  go_wp2
                  go_ret
                  exact ⟨rfl, HB.out⟩
end Go.Proofs.Ytfmkjnlelijnoaa
