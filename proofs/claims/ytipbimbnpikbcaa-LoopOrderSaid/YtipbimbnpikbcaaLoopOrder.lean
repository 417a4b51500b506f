/- LoopOrder: tasks are told in their order. -/
import Derived.Test.YtipbimbnpikbcaaLoopOrdP
import Derived.Test.YtipbimbnpikbcaaArgs
namespace Go.Proofs.Ytipbimbnpikbcaa
open Go.RowKit

theorem byte3_at (l : List Int) (k : Nat) (hk : k < l.length) (h : ∀ n ∈ l, IntKind.u8.min ≤ n ∧ n ≤ IntKind.u8.max) : ∃ m q : Nat, l.getD k 0 = (m : Int) ∧ m ≤ 255 ∧ (m : Int) % 3 = (q : Int) ∧ q < 3 := by
  have e : l.getD k 0 = l[k] := by simp [List.getD_eq_getElem?_getD, hk]
  obtain ⟨a0, a1⟩ := h l[k] (List.getElem_mem hk)
  simp only [IntKind.min, IntKind.max, IntKind.signed, IntKind.bits] at a0 a1
  rw [e]
  generalize l[k] = x at *
  obtain ⟨m, rfl⟩ := Int.eq_ofNat_of_zero_le (show 0 ≤ x by simpa using a0)
  exact ⟨m, m % 3, rfl, by simp at a1; omega, by omega, by omega⟩
theorem nextQ_len (n t : Nat) (ma mi : List Int) : (nextQ n t ma mi).2.1.length + (nextQ n t ma mi).2.2.1.length = ma.length + mi.length - 1 := by
  unfold nextQ
  cases mi with
  | nil => cases ma <;> simp
  | cons f r =>
    dsimp only
    split
    · simp
    · cases ma <;> simp
      omega
theorem nextQ_le (n t : Nat) (ma mi : List Int) : (nextQ n t ma mi).2.1.length ≤ ma.length ∧ (nextQ n t ma mi).2.2.1.length ≤ mi.length := by
  unfold nextQ
  cases mi with
  | nil => cases ma <;> simp
  | cons f r =>
    dsimp only
    split
    · simp
    · cases ma <;> simp


set_option maxHeartbeats 8000000 in
set_option maxRecDepth 100000 in
theorem loopOrder_walk (x0 : Int) (a : Option Addr) (cap : Nat) (l : List Int) (w : World) (h0 : IntKind.u8.min ≤ x0 ∧ x0 ≤ IntKind.u8.max) (h : IntsIn .u8 w a cap l) :
    Calls Try.prog 4 #[.int .u8 x0, .slice a l.length cap] w fun e w' => e = .returned (.bool true) ∧ Below w.heap.size w w' := by
  obtain ⟨hl, hc, he, hwf⟩ := h
  have HE := Lib.hid he
  have HW := Lib.hid hwf
  clear he hwf
  have b0 : 0 ≤ x0 ∧ x0 ≤ 255 := h0
  clear h0
  obtain ⟨a0, rfl⟩ := Int.eq_ofNat_of_zero_le b0.1
  obtain ⟨n0, hn0⟩ : ∃ n0, n0 = a0 % 64 := ⟨_, rfl⟩
  have u0 : (a0 : Int) % 64 = (n0 : Int) := by omega
  have v0 : (a0 : Int).tmod 64 = (n0 : Int) := by rw [Int.tmod_eq_emod_of_nonneg (by omega)]; exact u0
  have ln : n0 ≤ 63 := by omega
  clear hn0
  have s0 : IntKind.i64.wrap (n0 : Int) = (n0 : Int) := by rw [IntKind.wrap_i64]; omega
  have s3 : IntKind.i64.wrap ((n0 : Int) + 1) = (n0 : Int) + 1 := by rw [IntKind.wrap_i64]; omega
  obtain ⟨nn, hnn⟩ : ∃ nn, nn = min l.length 150 := ⟨_, rfl⟩
  have hnl : nn ≤ l.length := by omega
  have hnb : nn ≤ 150 := by omega
  go_enter Try.func4, Try.ntmps4
  go_wp2_with fail
  refine (loop_shown w).mono ?_
  rintro e w1 ⟨rfl, hT1⟩
  have B1 := below_no (Below.refl _ w) hT1
  clear hT1
  have hbn : Blk (w1.alloc (.cells #[.int .i64 ((n0 : Int) + 1)] 3)) w1.heap.size 3 [.int .i64 ((n0 + 1 : Nat) : Int)] := heap_alloc_new w1 _
  have hnew := lpi_new (O := fun k => k = w1.heap.size) (B1.alloc B1.size (.cells #[.int .i64 ((n0 : Int) + 1)] 3)) (fun k hk => by subst hk; simp) (n0 + 1) (by omega) (by omega)
  rw [show ((n0 + 1 : Nat) : Int) = (n0 : Int) + 1 from by omega] at hnew
  have HZN := Lib.hid B1.size
  have HNEW := Lib.hid hnew
  have HBN := Lib.hid hbn
  clear hnew B1 hbn
  go_wp2_with fail
  refine HNEW.out.mono ?_
  rintro e w3 ⟨b, rfl, hI3, T3⟩
  have hbn3 := HBN.out.keep T3 (fun h => h)
  clear HNEW HBN T3
  generalize w1.heap.size = zn at *
  have hS := Lib.hid (ord_start hI3 hbn3 HZN.out rfl rfl rfl)
  have hsf := fun (a : Addr) (c : Array Value) (w : World) => run_store Try.prog w a (.func (.func 28) #[] c) .plain rfl
  clear hI3 hbn3
  go_upto_region 9 with fail
  clear hsf
  generalize (((w3.alloc (.cells #[.pointer (some ⟨b, 0, none⟩)] 23)).alloc (.cells #[.slice none 0 0] 45)).alloc (.cells #[.slice none 0 0] 45)).alloc (.cells #[.int .i64 0] 3) = w4 at *
  generalize w3.heap.size + 1 + 1 + 1 = zs at *
  generalize w3.heap.size + 1 + 1 = zm at *
  generalize w3.heap.size + 1 = zM at *
  generalize w3.heap.size = zx at *
  go_cut [42, 43, 44] from 38 to 38 (fun x y z wx => x = .slice a nn cap ∧ y = .int .i64 nn ∧ z = .int .i64 0 ∧ w4 = wx)
  case first =>
    clear hS
    go_wp2_with fail
    go_meet
    exact ⟨by congr 1; omega, by apply num; omega, rfl, rfl⟩
  case rest =>
  obtain ⟨rfl, rfl, rfl, rfl⟩ := hcut
  clear hnn
  have hnbI : nn ≤ 150 := hnb
  go_wp2_with fail
  go_loopw [44] (fun y wr => ∃ (i t : Nat) (ma mi : List Int) (N : Nat), y = .int .i64 i ∧ i ≤ nn ∧ OrdI w wr b zx zM zm zs zn (n0 + 1) t ma mi N ∧ N ≤ i ∧ ma.length ≤ i ∧ mi.length ≤ i) (fun y _ => nn - (intOf y).toNat)
  case atStart => exact ⟨0, 0, [], [], 0, rfl, Nat.zero_le _, hS.out, Nat.le_refl _, Nat.le_refl _, Nat.le_refl _⟩
  case round =>
    clear hS
    obtain ⟨i, t, ma, mi, N, rfl, hi, hI, hN, hma, hmi⟩ := hrel
    by_cases hlt : i < nn
    · have hil : i < l.length := by omega
      obtain ⟨ba, bo, rfl, hcell⟩ := HE.out (by omega)
      have hc0 := hcell i hil
      obtain ⟨m, q, hm, hm2, hmq, hq⟩ := byte3_at l i hil HW.out
      obtain ⟨s, A1, c1, G1, A2, c2, G2, hO, hQ, ht⟩ := hI
      have hx0 : wr.cell? ⟨ba, bo + i, none⟩ = some (.int .u8 (l.getD i 0)) := (hO.lp.below.cell (p := ⟨ba, bo + i, none⟩) (World.block_lt_of_cell? w _ hc0)).trans hc0
      rw [hm] at hx0
      have cx := hO.x.cellOf 0 _ rfl
      have HK : Hid (i + 1 ≤ nn ∧ N + 1 ≤ i + 1 ∧ ma.length + 1 ≤ i + 1 ∧ mi.length + 1 ≤ i + 1) := Lib.hid (by omega)
      have HO := Lib.hid hO
      have HQ := Lib.hid hQ
      have HT := Lib.hid ht
      clear hcell hc0 hm hO hQ ht
      have hq3 : q = 0 ∨ q = 1 ∨ q = 2 := by omega
      clear hq
      rcases hq3 with rfl | rfl | rfl
      · obtain ⟨s', e', q'⟩ := HQ.out.spawn i (by omega)
        have HQ' := Lib.hid q'
        have hlen : s.mac.length < 1000000 := by rw [HQ.out.macLen]; omega
        have hsp := lpi_spawn HO.out.lp i hlen e'
        have HSP := Lib.hid hsp
        clear q' e' hsp hlen
        go_wp2_with fail
        refine HSP.out.mono ?_
        rintro e w5 ⟨rfl, hI5, T5⟩
        have hO5 := HO.out.did hI5 T5
        clear HSP hI5 T5 cx hx0
        -- one more is to come: row $ZZ$
        have cM := hO5.M.cellOf 0 _ rfl
        have fM := hO5.M.free 0
        have hr5 := hO5.r1
        have HO5 := Lib.hid hO5
        clear hO5
        go_wp2_with (at_builtin; refine wpList_rw_app _ rfl (.tmp 61) (.tmp 63) 45 rfl 3 (.int .i64 0) 1 8 Try.underlying45 infoInt rfl (by decide) (by decide) _ _ _ _ _ _ _ _ _ rfl rfl (by decide) (hr5.keep ((Tch.refl NoBlk w5).alloc _) (fun _ _ h => h)) (Src.made w5 3 #[.int .i64 i] 1 rfl) (ints_one [(i : Int)]) (by omega) ?_; intro A6 c6 w6 G6 hs6 ht6 hg6; have HS6 := Lib.hid hs6; have HT6 : Hid (Tch (fun k => G1 = some k) w5 w6) := Lib.hid (Tch.then ((Tch.refl _ w5).alloc _) ht6 (fun _ _ h => h)); have HG6 := Lib.hid hg6; have hb6 := HO5.out.M.keep HT6.out (fun e => (HO5.out.n1 _ e).2.1 rfl); have hc6 := hb6.cellOf 0 _ rfl; have hf6 := hb6.free 0; clear hs6 ht6 hg6 hb6)
        have HP := Lib.hid (HO5.out.putM i HT6.out HS6.out (HG6.out.elim .inl (fun ⟨g, h1, h2⟩ => .inr ⟨g, h1, by simp at h2; omega⟩)))
        clear HS6 HT6 HG6 HO5 hr5
        go_roundw
        case rel => exact ⟨i + 1, t, ma ++ [(i : Int)], mi, N + 1, num (by omega), HK.out.1, ⟨s', _, _, _, _, _, _, HP.out, HQ'.out, HT.out⟩, HK.out.2.1, by have := HK.out; simp; omega, by have := HK.out.2.2.2; omega⟩
        case measure => simp [intOf]; omega
      · obtain ⟨s', e', q'⟩ := HQ.out.micro i (by omega)
        have HQ' := Lib.hid q'
        have hlen : s.mic.length < 1000000 := by rw [HQ.out.micLen]; omega
        have hsp := lpi_micro HO.out.lp i hlen e'
        have HSP := Lib.hid hsp
        clear q' e' hsp hlen
        go_wp2_with fail
        refine HSP.out.mono ?_
        rintro e w5 ⟨rfl, hI5, T5⟩
        have hO5 := HO.out.did hI5 T5
        clear HSP hI5 T5 cx hx0
        -- one more is to come: row $ZZ$
        have cM := hO5.m.cellOf 0 _ rfl
        have fM := hO5.m.free 0
        have hr5 := hO5.r2
        have HO5 := Lib.hid hO5
        clear hO5
        go_wp2_with (at_builtin; refine wpList_rw_app _ rfl (.tmp 75) (.tmp 77) 45 rfl 3 (.int .i64 0) 1 8 Try.underlying45 infoInt rfl (by decide) (by decide) _ _ _ _ _ _ _ _ _ rfl rfl (by decide) (hr5.keep ((Tch.refl NoBlk w5).alloc _) (fun _ _ h => h)) (Src.made w5 3 #[.int .i64 i] 1 rfl) (ints_one [(i : Int)]) (by omega) ?_; intro A6 c6 w6 G6 hs6 ht6 hg6; have HS6 := Lib.hid hs6; have HT6 : Hid (Tch (fun k => G2 = some k) w5 w6) := Lib.hid (Tch.then ((Tch.refl _ w5).alloc _) ht6 (fun _ _ h => h)); have HG6 := Lib.hid hg6; have hb6 := HO5.out.m.keep HT6.out (fun e => (HO5.out.n2 _ e).2.2.1 rfl); have hc6 := hb6.cellOf 0 _ rfl; have hf6 := hb6.free 0; clear hs6 ht6 hg6 hb6)
        have HP := Lib.hid (HO5.out.putm i HT6.out HS6.out (HG6.out.elim .inl (fun ⟨g, h1, h2⟩ => .inr ⟨g, h1, by simp at h2; omega⟩)))
        clear HS6 HT6 HG6 HO5 hr5
        go_roundw
        case rel => exact ⟨i + 1, t, ma, mi ++ [(i : Int)], N + 1, num (by omega), HK.out.1, ⟨s', _, _, _, _, _, _, HP.out, HQ'.out, HT.out⟩, HK.out.2.1, by have := HK.out.2.2.1; omega, by have := HK.out; simp; omega⟩
        case measure => simp [intOf]; omega
      · go_wp2_with fail
        refine (ord_turn ⟨s, A1, c1, G1, A2, c2, G2, HO.out, HQ.out, HT.out⟩ (by omega) (by omega) (by omega)).mono ?_
        rintro e w5 ⟨rfl, hI5⟩
        have HI5 := Lib.hid hI5
        have HL := Lib.hid (nextQ_le (n0 + 1) t ma mi)
        clear hI5 cx hx0 HO
        go_wp2
        go_roundw
        case rel => exact ⟨i + 1, _, _, _, N, num (by omega), HK.out.1, HI5.out, by omega, by have := HL.out; omega, by have := HL.out; omega⟩
        case measure => simp [intOf]; omega
    · obtain ⟨L, hL⟩ : ∃ L : Nat, (ma.length : Int) + (mi.length : Int) = (L : Int) := ⟨ma.length + mi.length, by omega⟩
      have lL : L ≤ 300 := by omega
      have wL : IntKind.i64.wrap (L : Int) = (L : Int) := by rw [IntKind.wrap_i64]; omega
      have hltI : ¬ ((i : Int) < (nn : Int)) := by omega
      have HLL := Lib.hid (show ma.length + mi.length = L by omega)
      have HB := Lib.hid (show ma.length ≤ 150 ∧ mi.length ≤ 150 by omega)
      have HI := Lib.hid hI
      obtain ⟨s, A1, c1, G1, A2, c2, G2, hO, hQ, ht⟩ := hI
      have cM := hO.M.cellOf 0 _ rfl
      have cm := hO.m.cellOf 0 _ rfl
      clear hO hQ ht hlt hi hN hma hmi
      go_wp2_with fail
      clear cM cm hL
      go_loopw [90] (fun y wr => ∃ (j t : Nat) (ma mi : List Int), y = .int .i64 j ∧ j ≤ L ∧ OrdI w wr b zx zM zm zs zn (n0 + 1) t ma mi N ∧ ma.length + mi.length = L - j ∧ ma.length ≤ 150 ∧ mi.length ≤ 150) (fun y _ => L - (intOf y).toNat)
      case atStart => exact ⟨0, t, ma, mi, rfl, Nat.zero_le _, HI.out, HLL.out, HB.out.1, HB.out.2⟩
      case round =>
        clear HI HLL HB
        obtain ⟨j, t, ma, mi, rfl, hj, hI, hs, hma, hmi⟩ := hrel
        by_cases hjl : j < L
        · have hjI : (j : Int) < (L : Int) := by omega
          have HL := Lib.hid (nextQ_le (n0 + 1) t ma mi)
          have HL2 := Lib.hid (nextQ_len (n0 + 1) t ma mi)
          have HS := Lib.hid hs
          have HM := Lib.hid (show ma.length ≤ 150 ∧ mi.length ≤ 150 from ⟨hma, hmi⟩)
          have HJ := Lib.hid hjl
          have htu := ord_turn hI (by omega) (by omega) (by omega)
          have HTU := Lib.hid htu
          clear htu hI hs hma hmi
          go_wp2_with fail
          refine HTU.out.mono ?_
          rintro e w5 ⟨rfl, hI5⟩
          have HI5 := Lib.hid hI5
          clear hI5 HTU
          go_wp2
          go_roundw
          case rel => exact ⟨j + 1, _, _, _, num (by omega), HJ.out, HI5.out, by have := HL2.out; have := HS.out; omega, by have := HL.out; have := HM.out; omega, by have := HL.out; have := HM.out; omega⟩
          case measure => simp [intOf]; omega
        · have hjI : ¬ ((j : Int) < (L : Int)) := by omega
          have e1 : ma = [] := List.eq_nil_of_length_eq_zero (by omega)
          have e2 : mi = [] := List.eq_nil_of_length_eq_zero (by omega)
          subst e1 e2
          obtain ⟨s, A1, c1, G1, A2, c2, G2, hO, hQ, _⟩ := hI
          obtain ⟨s', k, en, hQ', hk⟩ := hQ.next
          obtain rfl : k = none := by simpa [nextQ] using hk
          have cx := hO.x.cellOf 0 _ rfl
          have HO := Lib.hid hO
          have hnx := lpi_next hO.lp en
          have HNX := Lib.hid hnx
          clear hnx en hQ' hQ hk hO hjl hj hs hma hmi
          go_wp2_with fail
          refine HNX.out.mono ?_
          rintro e w5 ⟨rfl, hI5, T5⟩
          have hO5 := (HO.out.did hI5 T5).nothing ((Tch.refl NoBlk w5).alloc (.cells #[.int .i64 0, .int .i64 0, .int .i64 0, .int .i64 0] 31))
          have cM := hO5.M.cellOf 0 _ rfl
          have cm := hO5.m.cellOf 0 _ rfl
          simp only [List.length_nil] at cM cm
          have HB := Lib.hid hO5.lp.below
          clear HNX hI5 T5 hO5 HO cx
          simp only [Option.getD_none, Option.isSome_none, tkv, tk0]
          go_wp2
          go_ret
          exact ⟨rfl, HB.out⟩
end Go.Proofs.Ytipbimbnpikbcaa
