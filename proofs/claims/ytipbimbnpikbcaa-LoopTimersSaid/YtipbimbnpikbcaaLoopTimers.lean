/- LoopTimers: of timers none is told ahead of its time. -/
import Derived.Test.YtipbimbnpikbcaaLoopTimL
import Derived.Test.YtipbimbnpikbcaaLoopLaw3
import Derived.Test.YtipbimbnpikbcaaArgs
import Derived.Deep.CutRange
import Derived.Deep.QuietTactic
import Derived.BigQuiet
namespace Go.Proofs.Ytipbimbnpikbcaa
open Go.RowKit

theorem IntsIn.few {k : IntKind} {w : World} {a : Option Addr} {cap : Nat} {l : List Int} (h : IntsIn k w a cap l) {n : Nat} (hn : n ≤ l.length) :
    0 < n → ∃ b off, a = some ⟨b, off, none⟩ ∧ ∀ i, i < n → w.cell? ⟨b, off + i, none⟩ = some (.int k (l.getD i 0)) := by
  intro h0
  obtain ⟨b, off, e, hc⟩ := h.cells (by omega)
  exact ⟨b, off, e, fun i hi => hc i (by omega)⟩
/-- A byte's rest. -/
theorem byte_rest (l : List Int) (h : ∀ x ∈ l, IntKind.u8.min ≤ x ∧ x ≤ IntKind.u8.max) (q : Nat) (_hq : 0 < q) (i : Nat) (hi : i < l.length) :
    ∃ x : Nat, l.getD i 0 = (x : Int) ∧ x ≤ 255 ∧ (x : Int) % (q : Int) = ((l.getD i 0).toNat % q : Nat) ∧ (x : Int).tmod (q : Int) = ((l.getD i 0).toNat % q : Nat) := by
  have e : l.getD i 0 = l[i] := by simp [List.getD_eq_getElem?_getD, hi]
  obtain ⟨a0, a1⟩ := h l[i] (List.getElem_mem hi)
  simp only [IntKind.min, IntKind.max, IntKind.signed, IntKind.bits] at a0 a1
  rw [e]
  generalize l[i] = x at *
  obtain ⟨m, rfl⟩ := Int.eq_ofNat_of_zero_le (show 0 ≤ x by simpa using a0)
  exact ⟨m, rfl, by simp at a1; omega, by simp, by rw [Int.tmod_eq_emod_of_nonneg (by omega)]; simp⟩

/-- The loop, and the row of those that are gone. -/
structure GoI (w0 w : World) (b : Nat) (s : Lp) (zg n : Nat) (g : List Bool) : Prop where
  lp : LpI w0 w b s (· = zg)
  sl : Sl w 4 1 (some ⟨zg, 0, none⟩) n n (bools g) (some zg)
  base : w0.heap.size ≤ zg
/-- And that of those that were told. -/
structure GtI (w0 w : World) (b : Nat) (s : Lp) (zg zt n : Nat) (g tl : List Bool) : Prop where
  lp : LpI w0 w b s (fun k => k = zg ∨ k = zt)
  sg : Sl w 4 1 (some ⟨zg, 0, none⟩) n n (bools g) (some zg)
  st : Sl w 4 1 (some ⟨zt, 0, none⟩) n n (bools tl) (some zt)
  ne : zg ≠ zt
  base : w0.heap.size ≤ zg ∧ w0.heap.size ≤ zt
section
variable {w0 w w' : World} {b : Nat} {s s' : Lp} {zg zt n : Nat} {g tl : List Bool}
theorem some_inj' {x y : Nat} (h : some x = some y) : x = y := by injection h
theorem GoI.did (H : GoI w0 w b s zg n g) (h : LpI w0 w' b s' (· = zg)) (ht : Tch (Oth w0 (· = zg)) w w') : GoI w0 w' b s' zg n g :=
  ⟨h, H.sl.keep ht (fun _ hk e => e.2 (some_inj' hk).symm), H.base⟩
theorem GoI.mark (H : GoI w0 w b s zg n g) (i : Nat) : GoI w0 (w.setCell ⟨zg, i, none⟩ (.bool true)) b s zg n (g.set i true) := by
  refine ⟨H.lp.touch (H.sl.setT i (.bool true)) (fun _ e => e) (fun _ e => e ▸ H.base), ?_, H.base⟩
  rw [← bools_set]
  exact H.sl.set i (.bool true)
theorem GtI.did (H : GtI w0 w b s zg zt n g tl) (h : LpI w0 w' b s' (fun k => k = zg ∨ k = zt)) (ht : Tch (Oth w0 (fun k => k = zg ∨ k = zt)) w w') : GtI w0 w' b s' zg zt n g tl :=
  ⟨h, H.sg.keep ht (fun _ hk e => e.2 (.inl (some_inj' hk).symm)), H.st.keep ht (fun _ hk e => e.2 (.inr (some_inj' hk).symm)), H.ne, H.base⟩
theorem GtI.mark (H : GtI w0 w b s zg zt n g tl) (i : Nat) : GtI w0 (w.setCell ⟨zt, i, none⟩ (.bool true)) b s zg zt n g (tl.set i true) := by
  refine ⟨H.lp.touch (H.st.setT i (.bool true)) (fun _ e => .inr e) (fun _ e => e ▸ H.base.2), H.sg.keep (H.st.setT i (.bool true)) (fun _ hk e => H.ne ((some_inj' hk).trans e)), ?_, H.ne, H.base⟩
  rw [← bools_set]
  exact H.st.set i (.bool true)
theorem GtI.nothing (H : GtI w0 w b s zg zt n g tl) (ht : Tch NoBlk w w') : GtI w0 w' b s zg zt n g tl :=
  ⟨H.lp.nothing ht, H.sg.keep ht (fun _ _ e => e), H.st.keep ht (fun _ _ e => e), H.ne, H.base⟩
theorem Sl.boolAt {z : Nat} (h : Sl w 4 1 (some ⟨z, 0, none⟩) n n (bools g) (some z)) (hg : g.length = n) (i : Nat) (hi : i < n) : w.cell? ⟨z, i, none⟩ = some (.bool (g.getD i false)) := by
  obtain ⟨g', e1, _, hcl⟩ := h.cells (by omega)
  injection e1 with e1
  injection e1 with e1
  subst e1
  exact hcl _ _ (bools_get g i (by omega))
end
theorem take_snocB (g : List Bool) (i : Nat) (hi : i < g.length) : g.take (i + 1) = g.take i ++ [g.getD i false] := by
  rw [List.take_add_one, List.getElem?_eq_getElem hi]
  simp [List.getD_eq_getElem?_getD, hi]


set_option maxHeartbeats 8000000 in
set_option maxRecDepth 100000 in
theorem loopTimers_walk (a : Option Addr) (cap : Nat) (l : List Int) (a1 : Option Addr) (cap1 : Nat) (l1 : List Int) (a2 : Option Addr) (cap2 : Nat) (l2 : List Bool) (w : World) (h : IntsIn .u8 w a cap l) (h1 : IntsIn .u8 w a1 cap1 l1) (h2 : BoolsIn w a2 cap2 l2) :
    Calls Try.prog 6 #[.slice a l.length cap, .slice a1 l1.length cap1, .slice a2 l2.length cap2] w fun e w' => e = .returned (.bool true) ∧ Below w.heap.size w w' := by
  obtain ⟨n, hn⟩ : ∃ n, n = min l.length 60 := ⟨_, rfl⟩
  obtain ⟨ns, hns⟩ : ∃ ns, ns = min l1.length 20 := ⟨_, rfl⟩
  have HE := Lib.hid (h.few (n := n) (by omega))
  have HE1 := Lib.hid (h1.few (n := ns) (by omega))
  have HB2 := Lib.hid h2.cells
  obtain ⟨D, hD⟩ : ∃ D : Nat → Nat, D = fun i => (l.getD i 0).toNat % 50 := ⟨_, rfl⟩
  have hnl : n ≤ l.length := by omega
  have hn60 : n ≤ 60 := by omega
  have HW : Hid (∀ i, i < n → ∃ x : Nat, l.getD i 0 = (x : Int) ∧ x ≤ 255 ∧ (x : Int) % 50 = (D i : Int) ∧ (x : Int).tmod 50 = (D i : Int) ∧ D i ≤ 49) := Lib.hid (fun i hi => by
    obtain ⟨x, e1, e2, e3, e4⟩ := byte_rest l h.wf 50 (by omega) i (by omega)
    refine ⟨x, e1, e2, by rw [hD]; exact e3, by rw [hD]; exact e4, ?_⟩
    rw [hD]
    dsimp only
    omega)
  have HW1 : Hid (∀ i, i < ns → ∃ x e : Nat, l1.getD i 0 = (x : Int) ∧ x ≤ 255 ∧ (x : Int) % 20 = (e : Int) ∧ (x : Int).tmod 20 = (e : Int) ∧ e ≤ 19) := Lib.hid (fun i hi => by
    obtain ⟨x, e1, e2, e3, e4⟩ := byte_rest l1 h1.wf 20 (by omega) i (by omega)
    exact ⟨x, _, e1, e2, e3, e4, by omega⟩)
  have hle := h.le
  have hc := h.cap
  have hle1 := h1.le
  have hc1 := h1.cap
  have hle2 := h2.le
  have hcap2 := h2.cap
  have hns20 : ns ≤ 20 := by omega
  have hmin : min (l1.length : Int) 20 = (ns : Int) := by omega
  have hnsl : ns ≤ l1.length := by omega
  have HZ : Hid ((ns = 0 ∧ l1.length = 0) ∨ (0 < ns ∧ 0 < l1.length)) := Lib.hid (by omega)
  clear h h1 h2 hD hns
  go_enter Try.func6, Try.ntmps6
  go_wp2_with fail
  refine (loop_shown w).mono ?_
  rintro e w1 ⟨rfl, hT1⟩
  have HB1 := Lib.hid (below_no (Below.refl _ w) hT1)
  clear hT1
  go_wp2_with fail
  refine (lpi_new (O := fun _ => False) HB1.out (fun _ h => h.elim) 1 (by omega) (by omega)).mono ?_
  rintro e w2 ⟨b, rfl, hI2, _⟩
  have HI2 := Lib.hid hI2
  clear HB1 hI2
  go_upto_region 5 with fail
  go_cut [10] from 36 to 36 (fun x wx => x = .slice a n cap ∧ w2 = wx)
  case first =>
    clear HI2
    go_wp2_with fail
    go_meet
    exact ⟨by congr 1; omega, rfl⟩
  case rest =>
  obtain ⟨rfl, rfl⟩ := hcut
  clear hn
  go_wp2_with (at_make; refine wpList_mk rfl _ _ _ rfl 4 (.bool false) 1 Try.underlying48 infoBool rfl n rfl rfl (by omega) (by omega) ?_; intro w3 hs3 ht3; have HS3 := Lib.hid hs3; have HT3 := Lib.hid ht3; clear hs3 ht3)
  have hI3 : GoI w w3 b (newL 1) w2.heap.size n (List.replicate n false) := ⟨HI2.out.grow HT3.out (fun _ e => e.elim) (fun _ e => e.elim) (fun k hk => by
    subst hk
    exact ⟨.inr (Nat.le_refl _), HS3.out.lt _ rfl⟩), by rw [bools, List.map_replicate]; exact HS3.out, HI2.out.below.size⟩
  have HI3 := Lib.hid hI3
  clear HS3 HT3 HI2 hI3
  generalize w2.heap.size = zg at *
  go_loopw [46] (fun y wr => ∃ (k : Nat) (s : Lp) (g : List Bool), y = .int .i64 k ∧ k ≤ n ∧ GoI w wr b s zg n g ∧ T1 s D (g.take k) k ∧ g.length = n ∧ ∀ j, k ≤ j → g.getD j false = false) (fun y _ => n - (intOf y).toNat)
  case atStart => exact ⟨0, _, _, rfl, by omega, HI3.out, T1.new D, by simp, fun j _ => by simp [List.getD_eq_getElem?_getD, List.getElem?_replicate]; split <;> simp⟩
  case round =>
    clear HI3
    obtain ⟨k, s, g, rfl, hk, hI, hT, hgl, hg0⟩ := hrel
    by_cases hlt : k < n
    · obtain ⟨ba, off, rfl, hcell⟩ := HE.out (by omega)
      have hc0 := hcell k hlt
      have hx0 : wr.cell? ⟨ba, off + k, none⟩ = _ := (hI.lp.below.cell (p := ⟨ba, off + k, none⟩) (World.block_lt_of_cell? w _ hc0)).trans hc0
      obtain ⟨x, e1, e2, e3, e4, e5⟩ := HW.out k hlt
      rw [e1] at hx0
      have sD : IntKind.i64.wrap (D k : Int) = (D k : Int) := by rw [IntKind.wrap_i64]; omega
      have hltI : (k : Int) < (n : Int) := by omega
      obtain ⟨s1, f1, t1⟩ := hT.after (by omega)
      have htk : g.take (k + 1) = g.take k ++ [false] := by rw [take_snocB g k (by omega), hg0 k (Nat.le_refl _)]
      have hlen : (g.take k).length = k := by rw [List.length_take]; omega
      have HAF := Lib.hid (lpi_after hI.lp (D k : Int) (k : Int) f1)
      have HI := Lib.hid hI
      have HT := Lib.hid t1
      have HTK := Lib.hid htk
      have HLEN := Lib.hid hlen
      have HGL := Lib.hid hgl
      have HG1 := Lib.hid hg0
      have hk60 : k < 60 := by omega
      clear hI hT t1 f1 hcell hc0 e1 htk hlen hgl hg0
      go_wp2_with fail
      refine HAF.out.mono ?_
      rintro e w4 ⟨rfl, h4, T4⟩
      have hI := HI.out.did h4 T4
      clear HAF HI h4 T4 hx0
      by_cases hql : k < l2.length
      · obtain ⟨b2, off2, rfl, hcell⟩ := HB2.out (by omega)
        have hc0 := hcell k hql
        have hx0 : w4.cell? ⟨b2, off2 + k, none⟩ = _ := (hI.lp.below.cell (p := ⟨b2, off2 + k, none⟩) (World.block_lt_of_cell? w _ hc0)).trans hc0
        have hd : decide ((k : Int) < (l2.length : Int)) = true := by simp; omega
        have hdn : decide (k < l2.length) = true := by simp; omega
        clear hcell hc0
        by_cases ho : l2.getD k false = true
        · rw [ho] at hx0
          obtain ⟨s', f2, t2⟩ := (show T1 s1 D (g.take k ++ [false]) (k + 1) from HT.out).cancel HLEN.out
          have hv := hI.sl.boolAt HGL.out k hlt
          have hf := hI.sl.free k
          have HJ := Lib.hid (hI.mark k)
          have HT1 : Hid (T1 s' D ((g.set k true).take (k + 1)) (k + 1)) := Lib.hid (by
            rw [take_snocB _ k (by rw [List.length_set, HGL.out]; exact hlt), bools_set_get _ _ _ _ (by rw [HGL.out]; exact hlt), if_pos rfl, List.take_set_of_le (Nat.le_refl _)]
            exact t2)
          have HGL' : Hid ((g.set k true).length = n) := Lib.hid (by rw [List.length_set, HGL.out])
          have HG0' : Hid (∀ j, k + 1 ≤ j → (g.set k true).getD j false = false) := Lib.hid (fun j hj => by
            have := HG1.out j (by omega)
            rw [List.getD_eq_getElem?_getD, List.getElem?_set_ne (by omega), ← List.getD_eq_getElem?_getD]
            exact this)
          have HCA := Lib.hid (lpi_cancel HJ.out.lp (k : Int) f2)
          clear ho t2 f2 hI
          go_wp2_with fail
          refine HCA.out.mono ?_
          rintro e w5 ⟨rfl, h5, T5⟩
          have HJ5 := Lib.hid (HJ.out.did h5 T5)
          clear HCA h5 T5 HJ hx0 hv hf
          go_wp2
          go_roundw
          case rel => exact ⟨k + 1, s', _, num (by omega), by omega, HJ5.out, HT1.out, HGL'.out, HG0'.out⟩
          case measure => simp [intOf]; omega
        · have ho2 : l2.getD k false = false := by simpa using ho
          rw [ho2] at hx0
          have HJ := Lib.hid hI
          have HT1 : Hid (T1 s1 D (g.take (k + 1)) (k + 1)) := Lib.hid (by rw [HTK.out]; exact HT.out)
          have HG0 : Hid (∀ j, k + 1 ≤ j → g.getD j false = false) := Lib.hid (fun j hj => HG1.out j (by omega))
          clear ho ho2
          generalize s1 = s' at *
          -- this one stays
          clear hI
          go_wp2
          go_roundw
          case rel => exact ⟨k + 1, s', g, num (by omega), by omega, HJ.out, HT1.out, HGL.out, HG0.out⟩
          case measure => simp [intOf]; omega
      · have hd : decide ((k : Int) < (l2.length : Int)) = false := by simp; omega
        have hdn : decide (k < l2.length) = false := by simp; omega
        have HJ := Lib.hid hI
        have HT1 : Hid (T1 s1 D (g.take (k + 1)) (k + 1)) := Lib.hid (by rw [HTK.out]; exact HT.out)
        have HG0 : Hid (∀ j, k + 1 ≤ j → g.getD j false = false) := Lib.hid (fun j hj => HG1.out j (by omega))
        generalize s1 = s' at *
        -- this one stays
        clear hI
        go_wp2
        go_roundw
        case rel => exact ⟨k + 1, s', g, num (by omega), by omega, HJ.out, HT1.out, HGL.out, HG0.out⟩
        case measure => simp [intOf]; omega
    · have hkn : k = n := by omega
      have hltI : ¬ ((k : Int) < (n : Int)) := by omega
      have HT2 : Hid (T2 s D n g [] (-1)) := Lib.hid (by
        rw [hkn, List.take_of_length_le (by omega)] at hT
        exact hT.two)
      have HI := Lib.hid hI
      have HGL := Lib.hid hgl
      clear hkn hlt hk hI hT hgl hg0
      go_wp2_with (at_make; refine wpList_mk rfl _ _ _ rfl 4 (.bool false) 1 Try.underlying48 infoBool rfl n rfl rfl (by omega) (by omega) ?_; intro w3 hs3 ht3; have HS3 := Lib.hid hs3; have HT3 := Lib.hid ht3; clear hs3 ht3)
      have hI3 : GtI w w3 b s zg wr.heap.size n g (List.replicate n false) := ⟨HI.out.lp.grow HT3.out (fun _ e => e.elim) (fun _ e => e.elim) (fun k hk => by
        have := HS3.out.lt _ rfl
        rcases hk with rfl | rfl
        · exact ⟨.inl rfl, Nat.lt_of_lt_of_le (HI.out.sl.lt _ rfl) HT3.out.size⟩
        · exact ⟨.inr (Nat.le_refl _), this⟩), HI.out.sl.keep HT3.out (fun _ _ e => e), by rw [bools, List.map_replicate]; exact HS3.out, by have := HI.out.sl.lt _ rfl; omega, HI.out.base, HI.out.lp.below.size⟩
      have HI3 := Lib.hid hI3
      have HTT : Hid (ToldT D n g (-1) (List.replicate n false)) := Lib.hid ⟨List.length_replicate, fun i hi => by
        rw [List.getD_eq_getElem?_getD, List.getElem?_replicate, if_pos hi]
        simp
        omega⟩
      clear HS3 HT3 HI hI3
      generalize wr.heap.size = zt at *
      clear hltI
      go_loopw [16, 89] (fun y z wr => ∃ (j now : Nat) (cur : Int) (s : Lp) (tl : List Bool), z = .int .i64 j ∧ y = .int .i64 now ∧ j ≤ ns ∧ now ≤ 19 * j ∧ (j = 0 ∧ cur = -1 ∨ 0 < j ∧ cur = now) ∧ GtI w wr b s zg zt n g tl ∧ T2 s D n g [] cur ∧ ToldT D n g cur tl) (fun _ z _ => ns - (intOf z).toNat)
      case atStart => exact ⟨0, 0, -1, _, _, rfl, rfl, by omega, by omega, .inl ⟨rfl, rfl⟩, HI3.out, HT2.out, HTT.out⟩
      case round =>
        clear HI3 HTT HT2
        obtain ⟨j, now, cur, s, tl, rfl, rfl, hj, hnow, hcur, hI, hT, hTT⟩ := hrel
        by_cases hlt : j < ns
        · obtain ⟨ba, off, rfl, hcell⟩ := HE1.out (by omega)
          have hc0 := hcell j hlt
          have hx0 : wr.cell? ⟨ba, off + j, none⟩ = _ := (hI.lp.below.cell (p := ⟨ba, off + j, none⟩) (World.block_lt_of_cell? w _ hc0)).trans hc0
          obtain ⟨x, e, e1, e2, e3, e4, e5⟩ := HW1.out j hlt
          rw [e1] at hx0
          obtain ⟨now', hn'⟩ : ∃ now', now' = now + e := ⟨_, rfl⟩
          have sI : (now : Int) + (e : Int) = (now' : Int) := by omega
          have sN : IntKind.i64.wrap (now' : Int) = (now' : Int) := by rw [IntKind.wrap_i64]; omega
          have sE : IntKind.i64.wrap (e : Int) = (e : Int) := by rw [IntKind.wrap_i64]; omega
          have hltI : (j : Int) < (ns : Int) := by omega
          have hcn : cur ≤ (now' : Int) := by omega
          obtain ⟨M, t2, hM1, hM2, hM3⟩ := hT.adv hI.lp.ok hcn
          have hIN := InI.start hTT hcn hM1 hM2 hM3
          have hml : s.mac.length + s.L.length < 1000000 := by
            rw [hT.mac]
            have := hT.len
            simp at this ⊢
            omega
          have HAD := Lib.hid (lpi_advance hI.lp (now' : Int) hml rfl)
          have HI := Lib.hid hI
          have HT2 := Lib.hid t2
          have HIN := Lib.hid hIN
          have HJ := Lib.hid (show j + 1 ≤ ns ∧ now' ≤ 19 * (j + 1) by omega)
          have sn1 : IntKind.i64.wrap ((n : Int) + 1) = (n : Int) + 1 := by rw [IntKind.wrap_i64]; omega
          have hn380 : now' ≤ 380 := by omega
          clear hI hT hTT hcur hnow hM1 hM2 hM3 t2 hIN hml hcell hc0 e1 hn' hcn
          go_wp2_with fail
          refine HAD.out.mono ?_
          rintro e w4 ⟨rfl, h4, T4⟩
          have HI4 := Lib.hid (HI.out.did h4 T4)
          clear HAD HI h4 T4 hx0
          generalize advL s.L.length s (now' : Int) = s4 at *
          go_wp2_with fail
          go_loopw [20, 104] (fun y z wr => ∃ (q : Nat) (last : Int) (M : List Nat) (s : Lp) (tl : List Bool), z = .int .i64 q ∧ y = .int .i64 last ∧ GtI w wr b s zg zt n g tl ∧ T2 s D n g M now' ∧ InI D n g M now' tl last ∧ M.length + q ≤ n) (fun _ z _ => n + 1 - (intOf z).toNat)
          case atStart => exact ⟨0, -1, _, _, _, rfl, rfl, HI4.out, HT2.out, HIN.out, by have := HT2.out.len; omega⟩
          case round =>
            clear HI4 HT2 HIN
            obtain ⟨q, last, M, s, tl, rfl, rfl, hI, hT, hIN, hle⟩ := hrel
            have hqI : (q : Int) < (n : Int) + 1 := by omega
            rcases hT.next with ⟨s', e2, t2, hg⟩ | ⟨s', A, i, B, e2, t2, rfl, hg, hA⟩
            · have HNX := Lib.hid (lpi_next hI.lp e2)
              have HI := Lib.hid hI
              have HTT := Lib.hid (hIN.done hg)
              have HT2 := Lib.hid t2
              clear hI hT hIN hle e2 hg t2
              go_wp2_with fail
              refine HNX.out.mono ?_
              rintro e w5 ⟨rfl, h5, T5⟩
              have HI5 := Lib.hid ((HI.out.did h5 T5).nothing ((Tch.refl NoBlk w5).alloc (.cells #[.int .i64 0, .int .i64 0, .int .i64 0, .int .i64 0] 31)))
              clear HNX HI h5 T5
              simp only [Option.getD_none, Option.isSome_none, tkv, tk0]
              go_wp2
              go_roundw
              case rel => exact ⟨j + 1, now', (now' : Int), s', tl, num (by omega), rfl, HJ.out.1, HJ.out.2, .inr ⟨by omega, rfl⟩, HI5.out, HT2.out, HTT.out⟩
              case measure => simp [intOf]; omega
            · obtain ⟨hi, hd, htl, hlast, hIN2⟩ := hIN.step hg hA
              obtain ⟨bd, offd, rfl, hcell⟩ := HE.out (by omega)
              obtain ⟨xi, xi1, xi2, xi3, xi4, xi5⟩ := HW.out i hi
              have hc0 := hcell i hi
              rw [xi1] at hc0
              have HNX := Lib.hid (lpi_next hI.lp e2)
              have HI := Lib.hid hI
              have HT2 := Lib.hid t2
              have HIN2 := Lib.hid hIN2
              have HLE := Lib.hid (show B.length + (q + 1) ≤ n by simp at hle; omega)
              have htlen := hIN.len
              have hD1 : D i ≤ now' := by omega
              have hi0 : ¬ (i : Int) < 0 := by omega
              have hiI : (i : Int) < (n : Int) := by omega
              clear hI hT hIN hIN2 hle e2 t2 hA hd
              go_wp2_with fail
              refine HNX.out.mono ?_
              rintro e w5 ⟨rfl, h5, T5⟩
              have hI6 := (HI.out.did h5 T5).nothing ((Tch.refl NoBlk w5).alloc (.cells #[.int .i64 3, .int .i64 i, .int .i64 0, .int .i64 i] 31))
              have cg := hI6.sg.boolAt HGL.out i hi
              have ct := hI6.st.boolAt htlen i hi
              have cf := hI6.st.free i
              rw [hg] at cg
              rw [htl] at ct
              have cd := (hI6.lp.below.cell (p := ⟨bd, offd + i, none⟩) (World.block_lt_of_cell? w _ hc0)).trans hc0
              have HI6 := Lib.hid hI6
              have HIN := HIN2
              clear HNX HI h5 T5 HIN2 hg htl htlen hc0 xi1
              simp only [Option.getD_some, Option.isSome_some, tkT, tkv]
              generalize hDi : D i = di at *
              have sdi : IntKind.i64.wrap (di : Int) = (di : Int) := by rw [IntKind.wrap_i64]; omega
              have n1 : ¬ ((now' : Int) < (di : Int)) := by omega
              have n2 : ¬ (now' < di) := by omega
              have n3 : decide ((now' : Int) < (di : Int)) = false := by simp; omega
              have n4 : decide (now' < di) = false := by simp; omega
              have n5 : decide ((i : Int) < 0) = false := by simp
              have n6 : decide ((n : Int) ≤ (i : Int)) = false := by simp; omega
              have n7 : decide (n ≤ i) = false := by simp; omega
              have cd1 : IntKind.u8.wrap (xi : Int) = (xi : Int) := by rw [IntKind.wrap_u8]; omega
              rcases hlast with rfl | ⟨k, rfl, hk, hlt2⟩
              · clear hDi hcell hI6
                go_wp2_with fail
                go_big_quiet (fail)
                go_wp2
                go_roundw
                case rel => exact ⟨q + 1, (i : Int), B, s', _, num (by omega), rfl, (HI6.out.nothing ((Tch.refl NoBlk _).drewN _)).mark i, HT2.out, HIN.out, by have := HLE.out; omega⟩
                case measure => simp [intOf]; omega
              · obtain ⟨xk, xk1, xk2, xk3, xk4, xk5⟩ := HW.out k hk
                have hck := hcell k hk
                rw [xk1] at hck
                have ck := (hI6.lp.below.cell (p := ⟨bd, offd + k, none⟩) (World.block_lt_of_cell? w _ hck)).trans hck
                have hk0 : (0 : Int) ≤ (k : Int) := by omega
                have hkI : (k : Int) < (n : Int) := by omega
                have k1 : decide ((0 : Int) ≤ (k : Int)) = true := by simp
                have hki : i ≠ k := fun e => ltT_irrefl D k (by rw [e] at hlt2; exact hlt2)
                clear hck hcell hI6 xk1
                unfold ltT at hlt2
                rw [hDi] at hlt2
                by_cases hlk : D k < di
                · generalize D k = dk at *
                  have f1 : ¬ ((di : Int) < (dk : Int)) := by omega
                  have f2 : ¬ (di < dk) := by omega
                  have f3 : ¬ ((di : Int) = (dk : Int)) := by omega
                  have f4 : ¬ (di = dk) := by omega
                  have f5 : decide ((di : Int) < (dk : Int)) = false := by simp; omega
                  have f6 : decide (di < dk) = false := by simp; omega
                  have f7 : ((di : Int) == (dk : Int)) = false := by simp; omega
                  have f8 : (di == dk) = false := by simp; omega
                  have f9 : decide ((di : Int) = (dk : Int)) = false := by simp; omega
                  have f10 : decide (di = dk) = false := by simp; omega
                  clear hlt2 hlk hDi hki
                  go_wp2_with fail
                  go_big_quiet (fail)
                  go_wp2
                  go_roundw
                  case rel => exact ⟨q + 1, (i : Int), B, s', _, num (by omega), rfl, (HI6.out.nothing ((Tch.refl NoBlk _).drewN _)).mark i, HT2.out, HIN.out, by have := HLE.out; omega⟩
                  case measure => simp [intOf]; omega
                · have e : D k = di := by omega
                  have f3 : ¬ ((i : Int) < (k : Int)) := by omega
                  have f4 : ¬ (i < k) := by omega
                  have f5 : decide ((i : Int) < (k : Int)) = false := by simp; omega
                  have f6 : decide (i < k) = false := by simp; omega
                  rw [e] at xk3 xk4 xk5
                  have f1 : ¬ ((di : Int) < (di : Int)) := by omega
                  have f7 : decide ((di : Int) < (di : Int)) = false := by simp
                  have f8 : ((di : Int) == (di : Int)) = true := by simp
                  clear hlt2 hlk hDi e hki
                  go_wp2_with fail
                  go_big_quiet (fail)
                  go_wp2
                  go_roundw
                  case rel => exact ⟨q + 1, (i : Int), B, s', _, num (by omega), rfl, (HI6.out.nothing ((Tch.refl NoBlk _).drewN _)).mark i, HT2.out, HIN.out, by have := HLE.out; omega⟩
                  case measure => simp [intOf]; omega
        · have hltI : ¬ ((j : Int) < (ns : Int)) := by omega
          have hC : (cur = -1 ∧ decide ((0 : Int) < (l1.length : Int)) = false ∧ decide (0 < l1.length) = false) ∨ (cur = now ∧ decide ((0 : Int) < (l1.length : Int)) = true ∧ decide (0 < l1.length) = true) := by
            rcases HZ.out with ⟨z1, z2⟩ | ⟨z1, z2⟩
            · exact .inl ⟨by omega, decide_eq_false (by omega), decide_eq_false (by omega)⟩
            · exact .inr ⟨by omega, decide_eq_true (by omega), decide_eq_true (by omega)⟩
          have HC := Lib.hid hC
          have HTT := Lib.hid hTT
          have HI := Lib.hid hI
          clear hC hTT hI hT hlt hj hcur hnow
          go_wp2_with fail
          go_loopw [193] (fun y wr => ∃ i : Nat, y = .int .i64 i ∧ i ≤ n ∧ GtI w wr b s zg zt n g tl) (fun y _ => n - (intOf y).toNat)
          case atStart => exact ⟨0, rfl, by omega, HI.out⟩
          case round =>
            clear HI
            obtain ⟨i, rfl, hi, hI⟩ := hrel
            by_cases hlt : i < n
            · obtain ⟨bd, offd, rfl, hcell⟩ := HE.out (by omega)
              obtain ⟨xi, xi1, xi2, xi3, xi4, xi5⟩ := HW.out i hlt
              have hc0 := hcell i hlt
              rw [xi1] at hc0
              have cd := (hI.lp.below.cell (p := ⟨bd, offd + i, none⟩) (World.block_lt_of_cell? w _ hc0)).trans hc0
              have cg := hI.sg.boolAt HGL.out i hlt
              have ct := hI.st.boolAt HTT.out.1 i hlt
              have ht := HTT.out.2 i hlt
              have hiI : (i : Int) < (n : Int) := by omega
              have cd1 : IntKind.u8.wrap (xi : Int) = (xi : Int) := by rw [IntKind.wrap_u8]; omega
              have HI := Lib.hid hI
              clear hI hcell hc0 xi1
              generalize D i = di at *
              have sdi : IntKind.i64.wrap (di : Int) = (di : Int) := by rw [IntKind.wrap_i64]; omega
              cases eg : g.getD i false with
              | true =>
                rw [eg] at cg ht
                have et : tl.getD i false = false := by simpa using ht
                rw [et] at ct
                clear eg et
                clear ht
                go_wp2_with fail
                go_big_quiet (fail)
                go_wp2
                go_roundw
                case rel => exact ⟨i + 1, num (by omega), by omega, HI.out.nothing ((Tch.refl NoBlk _).drewN _)⟩
                case measure => simp [intOf]; omega
              | false =>
                rw [eg] at cg ht
                rcases HC.out with ⟨z1, z2, z3⟩ | ⟨z1, z2, z3⟩
                · have et : tl.getD i false = false := by
                    rw [z1] at ht
                    cases e : tl.getD i false with
                    | false => rfl
                    | true =>
                      have := (ht.1 e).2
                      omega
                  rw [et] at ct
                  clear eg et z1
                  clear ht
                  go_wp2_with fail
                  go_big_quiet (fail)
                  go_wp2
                  go_roundw
                  case rel => exact ⟨i + 1, num (by omega), by omega, HI.out.nothing ((Tch.refl NoBlk _).drewN _)⟩
                  case measure => simp [intOf]; omega
                · rw [z1] at ht
                  by_cases hdn : di ≤ now
                  · have et : tl.getD i false = true := ht.2 ⟨rfl, by omega⟩
                    rw [et] at ct
                    have d1 : decide ((di : Int) ≤ (now : Int)) = true := by simp; omega
                    have d2 : decide (di ≤ now) = true := by simp; omega
                    have d3 : (di : Int) ≤ (now : Int) := by omega
                    clear eg et z1
                    clear ht
                    go_wp2_with fail
                    go_big_quiet (fail)
                    go_wp2
                    go_roundw
                    case rel => exact ⟨i + 1, num (by omega), by omega, HI.out.nothing ((Tch.refl NoBlk _).drewN _)⟩
                    case measure => simp [intOf]; omega
                  · have et : tl.getD i false = false := by
                      cases e : tl.getD i false with
                      | false => rfl
                      | true =>
                        have := (ht.1 e).2
                        omega
                    rw [et] at ct
                    have d1 : decide ((di : Int) ≤ (now : Int)) = false := by simp; omega
                    have d2 : decide (di ≤ now) = false := by simp; omega
                    clear eg et z1 hdn
                    clear ht
                    go_wp2_with fail
                    go_big_quiet (fail)
                    go_wp2
                    go_roundw
                    case rel => exact ⟨i + 1, num (by omega), by omega, HI.out.nothing ((Tch.refl NoBlk _).drewN _)⟩
                    case measure => simp [intOf]; omega
            · have hiI : ¬ ((i : Int) < (n : Int)) := by omega
              have HB := Lib.hid hI.lp.below
              clear hlt hi hI
              go_wp2
              go_ret
              exact ⟨rfl, HB.out⟩
end Go.Proofs.Ytipbimbnpikbcaa
