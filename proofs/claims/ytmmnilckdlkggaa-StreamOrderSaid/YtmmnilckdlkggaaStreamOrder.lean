/- StreamOrder's walk. -/
import Derived.Test.YtmmnilckdlkggaaOrderLaw
import Derived.Test.YtmmnilckdlkggaaStreamPlays
import Derived.Deep.CutRange
namespace Go.Proofs.Ytmmnilckdlkggaa
open Go.RowKit

/-- What stands behind a read or a write. -/
def OrdMoved (w wx : World) (b n : Nat) (F : Nat → Prop) (R : Nat) (wd : List Int) (A10 : Option Addr) (c10 : Nat) (G10 : Option Nat) (e x y s : Value) : Prop :=
  ∃ (R' : Nat) (wd' : List Int) (lx : List (Int × Int)) (A : Option Addr) (c : Nat) (G : Option Nat) (A9 : Option Addr) (c9 : Nat) (G9 : Option Nat) (en : Int),
    e = .int .i64 en ∧ x = .slice A9 wd'.length c9 ∧ y = .int .i64 R' ∧ s = .slice A lx.length c ∧ (en = 0 ∨ (en = 140 ∧ lx = [])) ∧ R' ≤ R + 1 ∧ wd'.length ≤ wd.length + 1 ∧ lx.length ≤ 2 ∧
    OrdI w wx b n (roomSt (ofL wd') n R' wd'.length) F A9 c9 G9 wd' A10 c10 G10 (toldV (ofL wd') R wd.length) ∧ Sl wx 34 2 A lx.length c (gots lx) G ∧ (∀ g, G = some g → G10 ≠ some g) ∧
    toldW (ofL wd) n R wd.length = toldW (ofL wd') n R wd.length ∧ toldR (ofL wd) R wd.length = toldR (ofL wd') R wd.length ∧
    toldW (ofL wd') n R wd.length ++ ofW lx = toldW (ofL wd') n R' wd'.length ∧ toldR (ofL wd') R wd.length ++ ofR lx = toldR (ofL wd') R' wd'.length

/-- At a round's head. -/
def OrdRel (w wr : World) (b n : Nat) (F : Nat → Prop) (len : Nat) (e x t y z s i : Value) : Prop :=
  ∃ (k R : Nat) (wd : List Int) (en : Int) (A9 : Option Addr) (c9 : Nat) (G9 : Option Nat) (A10 : Option Addr) (c10 : Nat) (G10 : Option Nat), e = .int .i64 en ∧ x = .slice A9 wd.length c9 ∧ t = .slice A10 (min R wd.length) c10 ∧ y = .int .i64 (min wd.length (R + n) : Nat) ∧ z = .int .i64 R ∧ s = .int .i64 (min R wd.length : Nat) ∧ i = .int .i64 k ∧ k ≤ len ∧ R ≤ k ∧ wd.length ≤ k ∧ OrdI w wr b n (roomSt (ofL wd) n R wd.length) F A9 c9 G9 wd A10 c10 G10 (toldV (ofL wd) R wd.length)

/-- Within a row. -/
def OrdIn (w wr : World) (b n : Nat) (s : St) (F : Nat → Prop) (A9 : Option Addr) (c9 : Nat) (G9 : Option Nat) (wd : List Int) (X Y lx : List (Int × Int)) (A : Option Addr) (c : Nat) (G : Option Nat) (told wrote ans i : Value) : Prop :=
  ∃ (j an wo : Nat) (A10 : Option Addr) (c10 : Nat) (G10 : Option Nat), told = .slice A10 an c10 ∧ wrote = .int .i64 wo ∧ ans = .int .i64 an ∧ i = .int .i64 j ∧ an = (X ++ ofR (lx.take j)).length ∧ wo = (Y ++ ofW (lx.take j)).length ∧ j ≤ lx.length ∧
    OrdI w wr b n s F A9 c9 G9 wd A10 c10 G10 ((X ++ ofR (lx.take j)).map (·.2)) ∧ Sl wr 34 2 A lx.length c (gots lx) G ∧ (∀ g, G = some g → G10 ≠ some g)


set_option maxHeartbeats 4000000 in
set_option maxRecDepth 100000 in
theorem streamOrder_walk (x0 : Int) (a : Option Addr) (cap : Nat) (l : List Ac) (V : Nat → Nat → Value) (w : World) (h0 : IntKind.u8.min ≤ x0 ∧ x0 ≤ IntKind.u8.max) (h : TripsIn w a cap l.length V)
    (hl : ∀ i, i < l.length → V i 0 = .bool (l.getD i ac0).1 ∧ V i 1 = .int .i64 (l.getD i ac0).2.1 ∧ V i 2 = .int .i64 (l.getD i ac0).2.2) :
    Calls Try.prog 6 #[.int .u8 x0, .slice a l.length cap] w fun e w' => e = .returned (.bool true) ∧ Below w.heap.size w w' := by
  obtain ⟨hle, hc, he⟩ := h
  have HE := Lib.hid he
  have HL := Lib.hid hl
  clear he hl
  obtain ⟨a0, a1⟩ := h0
  simp only [IntKind.min, IntKind.max, IntKind.signed, IntKind.bits] at a0 a1
  obtain ⟨m, rfl⟩ := Int.eq_ofNat_of_zero_le (show 0 ≤ x0 by simpa using a0)
  have hm : m ≤ 255 := by simp at a1; omega
  obtain ⟨q, hq⟩ : ∃ q, q = m % 32 := ⟨_, rfl⟩
  have hq1 : q < 32 := by omega
  have hqm : (m : Int) % 32 = (q : Int) := by omega
  obtain ⟨n, hn⟩ : ∃ n, n = q + 1 := ⟨_, rfl⟩
  have hn1 : 1 ≤ n := by omega
  have hn2 : n ≤ 32 := by omega
  have hnq : (m : Int) % 32 + 1 = (n : Int) := by omega
  clear a0 a1 hq hn hq1 hqm
  go_enter Try.func6, Try.ntmps6
  go_wp2_with fail
  refine (stream_shown w).mono ?_
  rintro e w1 ⟨rfl, hT1⟩
  have B1 := below_no (Below.refl _ w) hT1
  clear hT1
  go_wp2_with fail
  refine (str_new w w1 n hn1 hn2 B1).mono ?_
  rintro e w2 ⟨b, F, rfl, hI2, _, _⟩
  clear B1 hnq hm
  go_wp2_with fail
  obtain ⟨len, hlen⟩ : ∃ len, len = min l.length 250 := ⟨_, rfl⟩
  have hle1 : len ≤ l.length := by omega
  have hle2 : len ≤ 250 := by omega
  refine (stream_few a l.length cap _ hle hc).mono ?_
  rw [← hlen]
  clear hlen
  rintro e w3 ⟨rfl, rfl⟩
  have hI3 : OrdI w w3 b n (roomSt (ofL []) n 0 ([] : List Int).length) F none 0 none [] none 0 none (toldV (ofL []) 0 ([] : List Int).length) := ⟨by rw [List.length_nil, room_zero]; exact hI2, Sl.nil _ _ _, Sl.nil _ _ _, fun g h => by simp at h, fun g h => by simp at h, fun g h => by simp at h⟩
  clear hI2
  go_wp2_with fail
  go_loopw [8, 9, 10, 11, 12, 13, 42] (fun e x t y z s i wr => OrdRel w wr b n F len e x t y z s i) (fun _ _ _ _ _ _ i _ => len - (intOf i).toNat)
  case atStart => exact ⟨0, 0, [], 0, none, 0, none, none, 0, none, rfl, rfl, rfl, by simp, rfl, rfl, rfl, Nat.zero_le _, Nat.zero_le _, Nat.zero_le _, hI3⟩
  case round =>
    clear hI3
    obtain ⟨k, R, wd, en0, A9, c9, G9, A10, c10, G10, rfl, rfl, rfl, rfl, rfl, rfl, rfl, hk, hR, hW, hI⟩ := hrel
    have hRb : R ≤ 250 := by omega
    have hWb : wd.length ≤ 250 := by omega
    by_cases hlt : k < len
    · obtain ⟨ba, off, rfl, hcell⟩ := HE.out (by omega)
      have hkn : k < l.length := by omega
      have hkb : k < 250 := by omega
      obtain ⟨v0, v1, v2⟩ := HL.out k (by omega)
      have hc0 := hcell k hkn 0 (by omega)
      have hc1 := hcell k hkn 1 (by omega)
      have hc2 := hcell k hkn 2 (by omega)
      rw [v0] at hc0
      rw [v1] at hc1
      rw [v2] at hc2
      have hw0 : wr.cell? ⟨ba, off + (k * 3 + 0), none⟩ = _ := (hI.st.below.cell (p := ⟨ba, off + (k * 3 + 0), none⟩) (World.block_lt_of_cell? w _ hc0)).trans hc0
      have hw1 : wr.cell? ⟨ba, off + (k * 3 + 1), none⟩ = _ := (hI.st.below.cell (p := ⟨ba, off + (k * 3 + 1), none⟩) (World.block_lt_of_cell? w _ hc1)).trans hc1
      have hw2 : wr.cell? ⟨ba, off + (k * 3 + 2), none⟩ = _ := (hI.st.below.cell (p := ⟨ba, off + (k * 3 + 2), none⟩) (World.block_lt_of_cell? w _ hc2)).trans hc2
      have hx0 : wr.cell? ⟨ba, off + k * 3, none⟩ = _ := hw0
      have hx1 : wr.cell? ⟨ba, off + k * 3 + 1, none⟩ = _ := hw1
      have hx2 : wr.cell? ⟨ba, off + k * 3 + 2, none⟩ = _ := hw2
      have HK : Hid (k + 1 ≤ len) := Lib.hid (by omega)
      clear hcell hc0 hc1 hc2 v0 v1 v2 hw0 hw1 hw2
      generalize (l.getD k ac0) = act at *
      obtain ⟨rdp, who, value⟩ := act
      dsimp only at hx0 hx1 hx2
      have hI1 := hI.none ((Tch.refl NoBlk wr).alloc (.cells #[.bool rdp, .int .i64 who, .int .i64 value] 45))
      clear hI
      have hcap9 := hI1.s9.cap_le
      go_upto_if 48 with fail
      go_cut [8, 9, 12, 16] from 50 to 50 (fun e x y s wx => OrdMoved w wx b n F R wd A10 c10 G10 e x y s)
      case first =>
        generalize wr.alloc (.cells #[.bool rdp, .int .i64 who, .int .i64 value] 45) = wA at *
        generalize wr.heap.size = ga at *
        clear hx0 hx1 hx2
        have H10 := Lib.hid (fun g h => hI1.s10.lt g h)
        have H9 := Lib.hid (fun g h => hI1.s9.lt g h)
        cases rdp with
        | true =>
          by_cases hfull : R < wd.length + 64
          · obtain ⟨lx, ex, hlx2, hxw, hxr⟩ := room_read (ofL wd) n R wd.length hn1 hfull
            have EX := Lib.hid ex
            clear ex
            go_wp2_with fail
            refine (ord_read hI1 (-1 - (R : Int)) _ _ _ EX.out).mono ?_
            rintro e w5 ⟨A5, c5, G5, rfl, hs5, hg5, hI5, _⟩
            clear hI1
            go_wp2_with fail
            go_meet
            exact ⟨R + 1, wd, lx, A5, c5, G5, A9, c9, G9, 0, rfl, rfl, num (by omega), rfl, .inl rfl, by omega, by omega, hlx2, hI5, hs5, fun g h h' => by have := hg5 g h; have := H10.out g h'; omega, rfl, rfl, hxw, hxr⟩
          · have EX := Lib.hid (room_read_full (ofL wd) n R wd.length (by omega) (-1 - (R : Int)))
            go_wp2_with fail
            refine (ord_read hI1 (-1 - (R : Int)) _ _ _ EX.out).mono ?_
            rintro e w5 ⟨A5, c5, G5, rfl, hs5, hg5, hI5, _⟩
            clear hI1
            go_wp2_with fail
            go_meet
            exact ⟨R, wd, [], A5, c5, G5, A9, c9, G9, 140, rfl, rfl, rfl, rfl, .inr ⟨rfl, rfl⟩, by omega, by omega, by simp, hI5, hs5, fun g h h' => by have := hg5 g h; have := H10.out g h'; omega, rfl, rfl, by simp [ofW], by simp [ofR]⟩
        | false =>
          by_cases hfull : wd.length < R + n + 64
          · obtain ⟨lx, ex, hlx2, hxw, hxr⟩ := order_write n R wd k hn1 hfull
            have EX := Lib.hid ex
            clear ex
            go_wp2_with fail
            refine (ord_write hI1 (k : Int) (wd.length : Int) _ _ _ EX.out).mono ?_
            rintro e w5 ⟨A5, c5, G5, rfl, hs5, hg5, hI5, _⟩
            have H5 := Lib.hid (fun g h => hI5.s9.lt g h)
            have hs9 := hI5.s9
            clear hI1
            go_wp2_with (at_builtin; refine wpList_app _ rfl (.tmp 70) (.tmp 72) 48 rfl 3 (.int .i64 0) 1 8 Try.underlying48 infoInt rfl (by decide) (by decide) _ _ _ _ _ _ _ _ _ rfl rfl (hs9.alloc _) (Src.made w5 3 #[.int .i64 k] 1 rfl) (ints_one [(k : Int)]) (by omega) ?_; intro A6 c6 w6 G6 hs6 ht6 hg6; have HS6 := Lib.hid hs6; have HT6 : Hid (Tch (fun i => G9 = some i) w5 w6) := Lib.hid (Tch.then ((Tch.refl _ w5).alloc _) ht6 (fun _ _ h => h)); have HG6 := Lib.hid hg6; clear hs6 ht6 hg6)
            go_meet
            have e1 : (wd ++ [(k : Int)]).length = wd.length + 1 := by simp
            have hs6 : Sl w6 3 1 A6 (wd ++ [(k : Int)]).length c6 (ints (wd ++ [(k : Int)])) G6 := by rw [e1, ints, List.map_append]; exact HS6.out
            have hg6 : G6 = G9 ∨ ∃ g, G6 = some g ∧ w5.heap.size ≤ g := HG6.out.elim .inl (fun ⟨g, h1, h2⟩ => .inr ⟨g, h1, by simp at h2; exact Nat.le_of_succ_le h2⟩)
            have hI6 := hI5.app9 HT6.out hs6 hg6
            have et : toldR (ofL wd) R wd.length = toldR (ofL (wd ++ [(k : Int)])) R wd.length := toldR_congr _ _ _ _ (fun i hi => ofL_snoc wd k i hi)
            have ev : toldV (ofL wd) R wd.length = toldV (ofL (wd ++ [(k : Int)])) R wd.length := by rw [toldV, toldV, et]
            rw [ev] at hI6
            exact ⟨R, wd ++ [(k : Int)], lx, A5, c5, G5, A6, c6, G6, 0, rfl, by rw [e1], rfl, rfl, .inl rfl, by omega, by omega, hlx2, hI6, hs5.keep HT6.out (fun g h h' => by have := hg5 g h; have := H9.out g h'; omega), fun g h h' => by have := hg5 g h; have := H10.out g h'; omega, toldW_congr _ _ _ _ _ (fun i hi => ofL_snoc wd k i hi), et, hxw, hxr⟩
          · have EX := Lib.hid (room_write_full (ofL wd) n R wd.length (by omega) (k : Int) (wd.length : Int))
            go_wp2_with fail
            refine (ord_write hI1 (k : Int) (wd.length : Int) _ _ _ EX.out).mono ?_
            rintro e w5 ⟨A5, c5, G5, rfl, hs5, hg5, hI5, _⟩
            clear hI1
            go_wp2_with fail
            go_meet
            exact ⟨R, wd, [], A5, c5, G5, A9, c9, G9, 140, rfl, rfl, rfl, rfl, .inr ⟨rfl, rfl⟩, by omega, by omega, by simp, hI5, hs5, fun g h h' => by have := hg5 g h; have := H10.out g h'; omega, rfl, rfl, by simp [ofW], by simp [ofR]⟩
      case rest =>
      clear hI1 hx0 hx1 hx2
      obtain ⟨R', wd', lx, A, cx, G, A9', c9', G9', en, rfl, rfl, rfl, rfl, hen, hR', hW', hlx2, hI, hs, hg, eW, eR, hxw, hxr⟩ := hcut
      go_upto_region 19 with fail
      go_cut [84] from 74 to 74 (fun v wx => v = .bool false ∧ wc = wx)
      case first =>
        clear hI hs hg hxw hxr
        rcases hen with rfl | ⟨rfl, rfl⟩
        · go_wp2_with fail
          go_meet
          exact ⟨rfl, rfl⟩
        · go_wp2_with fail
          go_meet
          exact ⟨rfl, rfl⟩
      case rest =>
      obtain ⟨rfl, rfl⟩ := hcut
      have hcx := hs.cap_le
      have HLX := Lib.hid hlx2
      have EXW := Lib.hid hxw
      have EXR := Lib.hid hxr
      clear hlx2 hxw hxr hen
      go_wp2_with fail
      go_loopw [10, 11, 13, 87] (fun x y z i wr => OrdIn w wr b n (roomSt (ofL wd') n R' wd'.length) F A9' c9' G9' wd' (toldR (ofL wd') R wd.length) (toldW (ofL wd') n R wd.length) lx A cx G x y z i) (fun _ _ _ i _ => lx.length - (intOf i).toNat)
      case atStart => exact ⟨0, min R wd.length, min wd.length (R + n), A10, c10, G10, rfl, rfl, rfl, rfl, by simp [ofR, toldR_length], by simp [ofW, toldW_length], Nat.zero_le _, by simpa [ofR, toldV] using hI, hs, hg⟩
      case round =>
        clear hI hs hg
        obtain ⟨j, an, wo, B10, d10, H10, rfl, rfl, rfl, rfl, han, hwo, hj, hI, hs, hg⟩ := hrel
        by_cases hjl : j < lx.length
        · obtain ⟨ga, rfl, rfl, hcl⟩ := hs.cells (by omega)
          have e1 := gots_get lx j hjl
          have hc1 := hcl _ _ e1.1
          have hc2 := hcl _ _ e1.2
          have ET := Lib.hid (ofR_take lx j hjl)
          have EW := Lib.hid (ofW_take lx j hjl)
          have hanb : an ≤ 600 := by rw [han, List.length_append, toldR_length]; have := ofR_le' lx j; have := HLX.out; omega
          have hwob : wo ≤ 600 := by rw [hwo, List.length_append, toldW_length]; have := ofW_le' lx j; have := HLX.out; omega
          clear hcl e1 hj
          by_cases hneg : (lx.getD j (0, 0)).1 < 0
          · obtain ⟨e2, hlt2⟩ := told_item_R (ofL wd') R wd.length R' wd'.length lx j EXR.out hjl hneg
            rw [← han] at e2 hlt2
            have HET := ET.out
            have HEW := EW.out
            rw [if_pos hneg] at HET HEW
            rw [e2] at hc1 hc2 HET
            clear ET EW hneg e2
            dsimp only at hc1 hc2
            generalize ofL wd' an = val at *
            have hd : decide ((-1 - (an : Int)) < 0) = true := by simp; omega
            have hne : ((-1 - (an : Int)) != (-1 - (an : Int))) = false := by simp
            have HA := Lib.hid (And.intro han hwo)
            have HH := Lib.hid (And.intro HET HEW)
            have hs10 := hI.s10
            have HI := Lib.hid hI
            have HS := Lib.hid hs
            have HG := Lib.hid hg
            have hlen : (((toldR (ofL wd') R wd.length ++ ofR (lx.take j)).map (·.2)).length) = an := by rw [List.length_map]; exact han.symm
            rw [hlen] at hs10
            clear hI hs hg han hwo HET HEW
            go_wp2_with (at_builtin; refine wpList_app _ rfl (.tmp 101) (.tmp 104) 48 rfl 3 (.int .i64 0) 1 8 Try.underlying48 infoInt rfl (by decide) (by decide) _ _ _ _ _ _ _ _ _ rfl rfl ((hs10.alloc _).alloc _) (Src.madeAt _ 3 #[.int .i64 val] 1 (wr.heap.size + 1) (World.size_alloc _ _) rfl) (ints_one [val]) (by omega) ?_; intro A6 c6 w6 G6 hs6 ht6 hg6; have HS6 := Lib.hid hs6; have HT6 : Hid (Tch (fun i => H10 = some i) wr w6) := Lib.hid (Tch.then (((Tch.refl _ wr).alloc _).alloc _) ht6 (fun _ _ h => h)); have HG6 := Lib.hid hg6; clear hs6 ht6 hg6)
            have hq : (toldR (ofL wd') R wd.length ++ ofR (lx.take (j + 1))).map (·.2) = (toldR (ofL wd') R wd.length ++ ofR (lx.take j)).map (·.2) ++ [val] := by rw [HH.out.1, ← List.append_assoc, List.map_append]; rfl
            have hql : ((toldR (ofL wd') R wd.length ++ ofR (lx.take (j + 1))).map (·.2)).length = an + 1 := by rw [hq, List.length_append, List.length_map, ← HA.out.1]; rfl
            have hs6 : Sl w6 3 1 A6 ((toldR (ofL wd') R wd.length ++ ofR (lx.take (j + 1))).map (·.2)).length c6 (ints ((toldR (ofL wd') R wd.length ++ ofR (lx.take (j + 1))).map (·.2))) G6 := by rw [hql, hq, ints, List.map_append]; exact HS6.out
            have hg6 : G6 = H10 ∨ ∃ g, G6 = some g ∧ wr.heap.size ≤ g := HG6.out.elim .inl (fun ⟨g, h1, h2⟩ => .inr ⟨g, h1, by simp at h2; omega⟩)
            have hI6 := HI.out.app10 HT6.out hs6 hg6
            have hs7 := HS.out.keep HT6.out (fun g h h' => HG.out g h h')
            have hlt7 := HS.out.lt
            have HN : OrdIn w w6 b n (roomSt (ofL wd') n R' wd'.length) F A9' c9' G9' wd' (toldR (ofL wd') R wd.length) (toldW (ofL wd') n R wd.length) lx (some ⟨ga, 0, none⟩) cx (some ga) (.slice A6 (an + 1) c6) (.int .i64 (wo : Int)) (.int .i64 ((an : Int) + 1)) (.int .i64 ((j : Int) + 1)) :=
              ⟨j + 1, an + 1, wo, A6, c6, G6, rfl, rfl, num (Int.natCast_succ an), num (Int.natCast_succ j), by rw [← hql, List.length_map], by rw [HH.out.2]; exact HA.out.2, hjl, hI6, hs7, fun g h h' => hg6.elim (fun e => HG.out g h (e ▸ h')) (fun ⟨g', e, hl⟩ => by rw [e] at h'; injection h' with h'; have := hlt7 g h; omega)⟩
            clear hI6 hs6 hs7 hql hq hg6
            go_roundw
            case rel => exact HN
            case measure => simp [intOf]; omega
          · obtain ⟨e2, hlt2⟩ := told_item_W (ofL wd') n R wd.length R' wd'.length lx j EXW.out hjl hneg
            rw [← hwo] at e2 hlt2
            have HET := ET.out
            have HEW := EW.out
            rw [if_neg hneg] at HET HEW
            rw [e2] at hc1 hc2 HEW
            clear ET EW hneg e2
            dsimp only at hc1 hc2
            have hwl : wo < wd'.length := by omega
            have hT0 := (Tch.refl NoBlk wr).alloc (.cells #[.int .i64 wo, .int .i64 (ofL wd' wo)] 34)
            have hI0 := hI.none hT0
            have hs0 := hs.keep hT0 (fun _ _ h => h)
            obtain ⟨g9, rfl, rfl, hcl9⟩ := hI0.s9.cells (by omega)
            have hc9 : (wr.alloc (.cells #[.int .i64 wo, .int .i64 (ofL wd' wo)] 34)).cell? ⟨g9, wo, none⟩ = some (.int .i64 (ofL wd' wo)) := hcl9 _ _ (ints_get wd' wo hwl)
            have HN : Hid (∀ k, OrdIn w ((wr.alloc (.cells #[.int .i64 wo, .int .i64 (ofL wd' wo)] 34)).drewN k) b n (roomSt (ofL wd') n R' wd'.length) F (some ⟨g9, 0, none⟩) c9' (some g9) wd' (toldR (ofL wd') R wd.length) (toldW (ofL wd') n R wd.length) lx (some ⟨ga, 0, none⟩) cx (some ga) (.slice B10 an d10) (.int .i64 ((wo : Int) + 1)) (.int .i64 an) (.int .i64 ((j : Int) + 1))) :=
              Lib.hid (fun k => ⟨j + 1, an, wo + 1, B10, d10, H10, rfl, num (Int.natCast_succ wo), rfl, num (Int.natCast_succ j), by rw [HET]; exact han, by rw [HEW, hwo]; simp; omega, hjl, by rw [HET]; exact hI0.none ((Tch.refl NoBlk _).drewN k), hs0.keep ((Tch.refl NoBlk _).drewN k) (fun _ _ h => h), hg⟩)
            have hd : decide (((wo : Nat) : Int) < 0) = false := by simp
            have hne : ((wo : Int) != (wo : Int)) = false := by simp
            have hge1 : decide ((wd'.length : Int) ≤ (wo : Int)) = false := by simp; omega
            have hcap9' := hI0.s9.cap_le
            clear hcl9 hI hI0 hs hs0 hg han hwo HET HEW hT0
            generalize ofL wd' wo = val at *
            have hnv : (val != val) = false := by simp
            have hx := Blk.new wr 34 [.int .i64 wo, .int .i64 val]
            have hx0 := hx.cellOf 0 _ rfl
            have hx1 := hx.cellOf 1 _ rfl
            clear hx
            go_wp2_with fail
            generalize wr.alloc (.cells #[.int .i64 wo, .int .i64 val] 34) = W2 at *
            generalize wr.heap.size = xa at *
            clear hc1 hc2
            go_quiet (fail)
            go_wp2
            go_roundw
            case rel => exact HN.out _
            case measure => simp [intOf]; omega
        · have hge : lx.length ≤ j := by omega
          obtain rfl : j = lx.length := by omega
          rw [List.take_length] at han hwo hI
          rw [EXR.out, toldR_length] at han
          rw [EXW.out, toldW_length] at hwo
          rw [EXR.out] at hI
          clear hjl hj hs hg EXR EXW HLX eW eR hge
          have hI : OrdI w wr b n (roomSt (ofL wd') n R' wd'.length) F A9' c9' G9' wd' B10 d10 H10 (toldV (ofL wd') R' wd'.length) := hI
          have HN : Hid (∀ m : Nat, OrdRel w (wr.drewN m) b n F len (.int .i64 en) (.slice A9' wd'.length c9') (.slice B10 an d10) (.int .i64 (wo : Int)) (.int .i64 (R' : Int)) (.int .i64 (an : Int)) (.int .i64 ((k : Int) + 1))) :=
            Lib.hid (fun m => ⟨k + 1, R', wd', en, A9', c9', G9', B10, d10, H10, rfl, rfl, by rw [han], by rw [hwo], rfl, by rw [han], num (Int.natCast_succ k), HK.out, by omega, by omega, hI.none ((Tch.refl NoBlk wr).drewN m)⟩)
          have hlens := roomSt_lens (ofL wd') n R' wd'.length
          obtain ⟨hl1, hl2, hl3⟩ := hlens
          obtain ⟨ln, hln⟩ : ∃ x, x = min wd'.length (R' + n) - R' := ⟨_, rfl⟩
          obtain ⟨rr, hrr⟩ : ∃ x, x = R' - wd'.length := ⟨_, rfl⟩
          obtain ⟨qq, hqq⟩ : ∃ x, x = wd'.length - (R' + n) := ⟨_, rfl⟩
          rw [← hln] at hl1
          rw [← hrr] at hl2
          rw [← hqq] at hl3
          have HQ := Lib.hid hI.st.q
          clear hI
          have f1 : decide ((n : Int) < (ln : Int)) = false := by simp; omega
          have f1n : decide (n < ln) = false := by simp; omega
          have f2 : ((rr : Int) != (R' : Int) - (an : Int)) = false := by simp; omega
          have f3 : ((qq : Int) != (wd'.length : Int) - (wo : Int)) = false := by simp; omega
          have f4 : ((ln : Int) + (an : Int) != (wo : Int)) = false := by simp; omega
          have hbb : an ≤ 300 ∧ wo ≤ 300 ∧ ln ≤ 300 ∧ rr ≤ 300 ∧ qq ≤ 300 := by omega
          obtain ⟨bb1, bb2, bb3, bb4, bb5⟩ := hbb
          have hcase : (rr = 0 ∧ qq = 0) ∨ (rr = 0 ∧ ln = n) ∨ (ln = 0 ∧ qq = 0) := by omega
          have HC := Lib.hid hcase
          clear hrr hqq hln han hwo hcase
          go_wp2_with fail
          refine (stream_waits b n _ F _ HQ.out).mono ?_
          rw [hl2, hl3]
          rintro e w7 ⟨rfl, n7, rfl⟩
          have HQ7 := Lib.hid (HQ.out.keep ((Tch.refl NoBlk wr).drewN n7) (fun _ _ h => h))
          have HN7 := Lib.hid (HN.out n7)
          clear HQ HN
          generalize wr.drewN n7 = W7 at *
          rcases HC.out with ⟨g1, g2⟩ | ⟨g1, g2⟩ | ⟨g1, g2⟩
          · have d1 : decide ((0 : Int) < (rr : Int)) = false := by simp; omega
            have d1n : decide (0 < rr) = false := by simp; omega
            have d2 : decide ((0 : Int) < (qq : Int)) = false := by simp; omega
            have d2n : decide (0 < qq) = false := by simp; omega
            clear g1 g2 HC
            -- the round's last test
            go_wp2_with (go_at_call 13; refine (stream_len b n _ F _ HQ7.out).mono ?_; rw [hl1]; rintro e w8 ⟨rfl, hw8⟩; subst w8)
            all_goals
              go_roundw
              case rel => exact HN7.out
              case measure => simp [intOf]; omega
          · have d1 : decide ((0 : Int) < (rr : Int)) = false := by simp; omega
            have d1n : decide (0 < rr) = false := by simp; omega
            have d3 : decide ((ln : Int) < (n : Int)) = false := by simp; omega
            have d3n : decide (ln < n) = false := by simp; omega
            clear g1 g2 HC
            -- the round's last test
            go_wp2_with (go_at_call 13; refine (stream_len b n _ F _ HQ7.out).mono ?_; rw [hl1]; rintro e w8 ⟨rfl, hw8⟩; subst w8)
            all_goals
              go_roundw
              case rel => exact HN7.out
              case measure => simp [intOf]; omega
          · have d2 : decide ((0 : Int) < (qq : Int)) = false := by simp; omega
            have d2n : decide (0 < qq) = false := by simp; omega
            have d3 : decide ((0 : Int) < (ln : Int)) = false := by simp; omega
            have d3n : decide (0 < ln) = false := by simp; omega
            clear g1 g2 HC
            -- the round's last test
            go_wp2_with (go_at_call 13; refine (stream_len b n _ F _ HQ7.out).mono ?_; rw [hl1]; rintro e w8 ⟨rfl, hw8⟩; subst w8)
            all_goals
              go_roundw
              case rel => exact HN7.out
              case measure => simp [intOf]; omega
    · have hge : len ≤ k := by omega
      clear hlt hk
      have HB := Lib.hid hI.st.below
      have h9 := hI.s9
      have h10 := hI.s10
      rw [toldV_length] at h10
      have hcap10 := h10.cap_le
      have hcap9 := h9.cap_le
      have H9 := Lib.hid h9
      have H10 := Lib.hid h10
      clear hI h9 h10
      obtain ⟨tn, htn⟩ : ∃ t, t = min R wd.length := ⟨_, rfl⟩
      rw [← htn] at hcap10 H10 ⊢
      have htw : tn ≤ wd.length := by omega
      have HT := Lib.hid (fun j (hj : j < tn) => toldV_at (ofL wd) R wd.length j (htn ▸ hj))
      clear htn
      go_wp2_with fail
      go_loopw [189] (fun i w2 => ∃ j : Nat, i = .int .i64 j ∧ j ≤ tn ∧ w2 = wr) (fun i _ => tn - (intOf i).toNat)
      case atStart => exact ⟨0, rfl, Nat.zero_le _, rfl⟩
      case round =>
        obtain ⟨j, rfl, hj, rfl⟩ := hrel
        by_cases hjt : j < tn
        · obtain ⟨g10, rfl, rfl, c10⟩ := H10.out.cells (by omega)
          obtain ⟨g9, rfl, rfl, c9⟩ := H9.out.cells (by omega)
          have e10 := c10 _ _ (ints_get (toldV (ofL wd) R wd.length) j (by have := H10.out.len; rw [ints_length] at this; omega))
          rw [HT.out j hjt] at e10
          have e9 : _ = some (Value.int .i64 (ofL wd j)) := c9 _ _ (ints_get wd j (by omega))
          generalize ofL wd j = val at *
          have hd : decide ((wd.length : Int) ≤ (j : Int)) = false := by simp; omega
          have hdn : decide (wd.length ≤ j) = false := by simp; omega
          have hjw : j < wd.length := by omega
          have hne : (val != val) = false := by simp
          clear c9 c10
          go_wp2_with fail
          go_roundw
          case rel => exact ⟨j + 1, num (by omega), hjt, by trivial⟩
          case measure => simp [intOf]; omega
        · have hge : tn ≤ j := by omega
          clear hjt
          go_wp2
          go_ret
          exact ⟨rfl, HB.out⟩
end Go.Proofs.Ytmmnilckdlkggaa
