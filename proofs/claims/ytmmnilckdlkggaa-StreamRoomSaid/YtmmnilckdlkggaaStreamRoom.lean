/- StreamRoom's walk. -/
import Derived.Test.YtmmnilckdlkggaaRoomRows
import Derived.Test.YtmmnilckdlkggaaArgs
import Derived.Deep.QuietTactic
import Derived.Deep.RegionLaw
import Derived.Deep.DeepCutAuto
namespace Go.Proofs.Ytmmnilckdlkggaa
open Go.RowKit

def idv (k : Nat) : Int := k

/-- What stands behind a read, a write, or neither: so many were read and written, and what was told. -/
def Moved (w wx : World) (b n : Nat) (F : Nat → Prop) (b' m : Nat) (F' : Nat → Prop) (p q R W : Nat) (e f x y s t : Value) : Prop :=
  ∃ (R' W' : Nat) (lx ly : List (Int × Int)) (A : Option Addr) (c : Nat) (G : Option Nat) (A' : Option Addr) (c' : Nat) (G' : Option Nat) (P Q : Nat → Prop),
    x = .int .i64 R' ∧ y = .int .i64 W' ∧ s = .slice A lx.length c ∧ t = .slice A' ly.length c' ∧ e = .int .i64 0 ∧ f = .int .i64 0 ∧ R' ≤ W' + 60 ∧ W' ≤ R' + 60 ∧ R' + W' ≤ R + W + 1 ∧ lx.length ≤ 2 ∧ ly.length ≤ 2 ∧
    RoomI w wx b n (roomSt idv n R' W') F b' m (roomSt idv m R' W') F' p (toldW idv n R W) (toldR idv R W) P q (toldW idv m R W) (toldR idv R W) Q ∧
    Sl wx 34 2 A lx.length c (gots lx) G ∧ Sl wx 34 2 A' ly.length c' (gots ly) G' ∧ (∀ g, G = some g → ¬ P g ∧ ¬ Q g) ∧ (∀ g, G' = some g → ¬ P g ∧ ¬ Q g) ∧
    toldW idv n R W ++ ofW lx = toldW idv n R' W' ∧ toldR idv R W ++ ofR lx = toldR idv R' W' ∧ toldW idv m R W ++ ofW ly = toldW idv m R' W' ∧ toldR idv R W ++ ofR ly = toldR idv R' W'

/-- Within a row: so many of it are told of in the first array. -/
def InRow (w wr : World) (b n : Nat) (s : St) (F : Nat → Prop) (b' m : Nat) (s' : St) (F' : Nat → Prop) (p : Nat) (X0 X1 : List (Int × Int)) (q : Nat) (Y0 Y1 : List (Int × Int)) (Q : Nat → Prop)
    (lx : List (Int × Int)) (A : Option Addr) (c : Nat) (G : Option Nat) (ly : List (Int × Int)) (A' : Option Addr) (c' : Nat) (G' : Option Nat) (i : Value) : Prop :=
  ∃ (j : Nat) (P : Nat → Prop), i = .int .i64 j ∧ j ≤ lx.length ∧ RoomI w wr b n s F b' m s' F' p (X0 ++ ofW (lx.take j)) (X1 ++ ofR (lx.take j)) P q Y0 Y1 Q ∧
    Sl wr 34 2 A lx.length c (gots lx) G ∧ Sl wr 34 2 A' ly.length c' (gots ly) G' ∧ (∀ g, G = some g → ¬ P g ∧ ¬ Q g) ∧ (∀ g, G' = some g → ¬ P g ∧ ¬ Q g)

theorem rooms_new {w0 wc : World} {b n : Nat} {F : Nat → Prop} {b' m2 : Nat} {F' : Nat → Prop} (hI3 : TwoI w0 wc b n ⟨[], [], []⟩ F b' m2 ⟨[], [], []⟩ F') :
    ∃ P Q, RoomI w0 ((wc.alloc (.cells #[.slice none 0 0, .slice none 0 0] 29)).alloc (.cells #[.slice none 0 0, .slice none 0 0] 29)) b n (roomSt idv n 0 0) F b' m2 (roomSt idv m2 0 0) F' wc.heap.size (toldW idv n 0 0) (toldR idv 0 0) P (wc.heap.size + 1) (toldW idv m2 0 0) (toldR idv 0 0) Q := by
  obtain ⟨P, hP, hP1⟩ := rows_new wc
  obtain ⟨Q, hQ, hQ1⟩ := rows_new (wc.alloc (.cells #[.slice none 0 0, .slice none 0 0] 29))
  rw [World.size_alloc] at hQ hQ1
  refine ⟨P, Q, ?_⟩
  rw [room_zero, room_zero]
  have e0 : toldW idv n 0 0 = [] := by simp [toldW, pairs]
  have e1 : toldW idv m2 0 0 = [] := by simp [toldW, pairs]
  have e2 : toldR idv 0 0 = [] := by simp [toldR, rdt]
  rw [e0, e1, e2]
  refine ⟨(hI3.alloc _).alloc _, hP.keep ((Tch.refl NoBlk _).alloc _) (fun _ _ h => h), hQ, fun k hk => ⟨fun hf => ?_, fun hf => ?_, fun hf => ?_⟩, fun k hk => ⟨fun hf => ?_, fun hf => ?_⟩, fun k hk => ?_, fun k hk => ?_⟩
  · have := hP1 k hk; have := hI3.one.q.lt k hf; omega
  · have := hP1 k hk; have := hI3.two.q.lt k hf; omega
  · have := hQ1 k hf; have := hP.lt k hk; simp at this; omega
  · have := hQ1 k hk; have := hI3.one.q.lt k hf; omega
  · have := hQ1 k hk; have := hI3.two.q.lt k hf; omega
  · have := hP1 k hk; have := hI3.one.below.size; omega
  · have := hQ1 k hk; have := hI3.one.below.size; omega


theorem ofW_le (l : List (Int × Int)) (j : Nat) : (ofW (l.take j)).length ≤ l.length := Nat.le_trans (List.length_filter_le _ _) (by rw [List.length_take]; omega)
theorem ofR_le (l : List (Int × Int)) (j : Nat) : (ofR (l.take j)).length ≤ l.length := Nat.le_trans (List.length_filter_le _ _) (by rw [List.length_take]; omega)
theorem room_rows_le (R W n m : Nat) (l : List (Int × Int)) (j : Nat) (hR : R ≤ 100) (hW : W ≤ 100) (hl : l.length ≤ 2) :
    (toldW idv n R W ++ ofW (l.take j)).length ≤ 200 ∧ (toldW idv m R W ++ ofW (l.take j)).length ≤ 200 ∧ (toldR idv R W ++ ofR (l.take j)).length ≤ 200 := by
  have h1 := ofW_le l j
  have h2 := ofR_le l j
  simp only [List.length_append, toldW, toldR, pairs_length, rdt_length]
  omega



set_option maxHeartbeats 4000000 in
set_option maxRecDepth 100000 in
theorem streamRoom_walk (x0 x1 : Int) (a : Option Addr) (cap : Nat) (l : List Bool) (w : World) (h0 : IntKind.u8.min ≤ x0 ∧ x0 ≤ IntKind.u8.max) (h1 : IntKind.u8.min ≤ x1 ∧ x1 ≤ IntKind.u8.max) (h : BoolsIn w a cap l) :
    Calls Try.prog 3 #[.int .u8 x0, .int .u8 x1, .slice a l.length cap] w fun e w' => e = .returned (.bool true) ∧ Below w.heap.size w w' := by
  obtain ⟨hl, hc, he⟩ := h
  have HE := Lib.hid he
  clear he
  obtain ⟨a0, a1⟩ := h0
  obtain ⟨b0, b1⟩ := h1
  simp only [IntKind.min, IntKind.max, IntKind.signed, IntKind.bits] at a0 a1 b0 b1
  obtain ⟨m, rfl⟩ := Int.eq_ofNat_of_zero_le (show 0 ≤ x0 by simpa using a0)
  obtain ⟨t, rfl⟩ := Int.eq_ofNat_of_zero_le (show 0 ≤ x1 by simpa using b0)
  have hm : m ≤ 255 := by simp at a1; omega
  have ht : t ≤ 255 := by simp at b1; omega
  clear a0 a1 b0 b1
  go_enter Try.func3, Try.ntmps3
  go_wp2_with fail
  refine (stream_shown w).mono ?_
  rintro e w1 ⟨rfl, hT1⟩
  have B1 := below_no (Below.refl _ w) hT1
  clear hT1
  go_upto_region 2 with fail
  go_cut [8, 9] from 29 to 29 (fun x y wx => ∃ q r : Nat, x = .int .i64 ((q : Int) + 1) ∧ y = .int .i64 ((r : Int) + 1) ∧ q < 32 ∧ r < 32 ∧ w1 = wx)
  case first =>
    obtain ⟨mq, hmq⟩ : ∃ q, q = m % 32 := ⟨_, rfl⟩
    obtain ⟨tq, htq⟩ : ∃ q, q = t % 32 := ⟨_, rfl⟩
    have hmq1 : mq < 32 := by omega
    have htq1 : tq < 32 := by omega
    have hm2 : (m : Int) % 32 = (mq : Int) := by omega
    have ht2 : (t : Int) % 32 = (tq : Int) := by omega
    clear hmq htq
    go_wp2_with fail
    all_goals
      go_meet
      first
        | exact ⟨mq, tq, rfl, rfl, hmq1, htq1, rfl⟩
        | exact ⟨tq, mq, rfl, rfl, htq1, hmq1, rfl⟩
        | exact ⟨mq, mq, rfl, rfl, hmq1, hmq1, rfl⟩
        | exact ⟨tq, tq, rfl, rfl, htq1, htq1, rfl⟩
  case rest =>
  obtain ⟨q, r, rfl, rfl, hq, hr, rfl⟩ := hcut
  clear hm ht
  obtain ⟨n, hn⟩ : ∃ n, n = min q r + 1 := ⟨_, rfl⟩
  obtain ⟨m2, hm2⟩ : ∃ n, n = max q r + 1 := ⟨_, rfl⟩
  have hnm : n ≤ m2 := by omega
  have hn1 : 1 ≤ n := by omega
  have hm1 : m2 ≤ 32 := by omega
  go_upto_region 3 with fail
  go_cut [10, 11] from 42 to 42 (fun x y wx => ∃ (b : Nat) (F : Nat → Prop), x = .pointer (some ⟨b, 0, none⟩) ∧ y = .int .i64 0 ∧ StrI w wx b n ⟨[], [], []⟩ F)
  case first =>
    go_wp2_with fail
    · have hk : n = r + 1 := by omega
      refine (str_new w _ (r + 1) (by omega) (by omega) B1).mono ?_
      rintro e w2 ⟨b, F, rfl, hI2, _, _⟩
      go_wp2_with fail
      go_meet
      exact ⟨b, F, rfl, rfl, by rw [hk]; exact hI2⟩
    · have hk : n = q + 1 := by omega
      refine (str_new w _ (q + 1) (by omega) (by omega) B1).mono ?_
      rintro e w2 ⟨b, F, rfl, hI2, _, _⟩
      go_wp2_with fail
      go_meet
      exact ⟨b, F, rfl, rfl, by rw [hk]; exact hI2⟩
  case rest =>
  obtain ⟨b, F, rfl, rfl, hI2⟩ := hcut
  clear B1
  go_upto_region 4 with fail
  go_cut [12, 13] from 49 to 49 (fun x y wx => ∃ (b' : Nat) (F' : Nat → Prop), x = .pointer (some ⟨b', 0, none⟩) ∧ y = .int .i64 0 ∧ TwoI w wx b n ⟨[], [], []⟩ F b' m2 ⟨[], [], []⟩ F')
  case first =>
    go_wp2_with fail
    · have hk : m2 = r + 1 := by omega
      refine (str_new w _ (r + 1) (by omega) (by omega) hI2.below).mono ?_
      rintro e w3 ⟨b', F', rfl, hI3, hF3, hT3⟩
      go_wp2_with fail
      go_meet
      exact ⟨b', F', rfl, rfl, by rw [hk]; exact ⟨hI2.keep hT3 (fun _ _ h => h) (fun _ h => h.elim), hI3, fun i x y => by have := hI2.q.lt i x; have := hF3 i y; omega⟩⟩
    · have hk : m2 = q + 1 := by omega
      refine (str_new w _ (q + 1) (by omega) (by omega) hI2.below).mono ?_
      rintro e w3 ⟨b', F', rfl, hI3, hF3, hT3⟩
      go_wp2_with fail
      go_meet
      exact ⟨b', F', rfl, rfl, by rw [hk]; exact ⟨hI2.keep hT3 (fun _ _ h => h) (fun _ h => h.elim), hI3, fun i x y => by have := hI2.q.lt i x; have := hF3 i y; omega⟩⟩
  case rest =>
  obtain ⟨b', F', rfl, rfl, hI3⟩ := hcut
  clear hI2 hn hm2 hq hr
  go_upto_region 7 with fail
  go_cut [14, 15] from 14 to 14 (fun x y wx => ∃ (p p2 : Nat) (P Q : Nat → Prop), x = .pointer (some ⟨p, 0, none⟩) ∧ y = .pointer (some ⟨p2, 0, none⟩) ∧ RoomI w wx b n (roomSt idv n 0 0) F b' m2 (roomSt idv m2 0 0) F' p (toldW idv n 0 0) (toldR idv 0 0) P p2 (toldW idv m2 0 0) (toldR idv 0 0) Q)
  case first =>
    go_wp2_with fail
    go_meet
    obtain ⟨P, Q, h⟩ := rooms_new hI3
    exact ⟨_, _, P, Q, rfl, rfl, h⟩
  case rest =>
  obtain ⟨p, p2, P, Q, rfl, rfl, hI4⟩ := hcut
  clear hI3
  obtain ⟨len, hlen⟩ : ∃ len, len = min l.length 100 := ⟨_, rfl⟩
  have hle1 : len ≤ l.length := by omega
  have hle2 : len ≤ 100 := by omega
  go_upto_region 9 with fail
  go_cut [73, 74, 75] from 69 to 69 (fun x y z wx => x = .slice a len cap ∧ y = .int .i64 len ∧ z = .int .i64 0 ∧ wc = wx)
  case first =>
    go_wp2_with fail
    · have hk : len = 100 := by omega
      go_meet
      exact ⟨by rw [hk], by rw [hk]; rfl, rfl, rfl⟩
    · have hk : len = l.length := by omega
      go_meet
      exact ⟨by rw [hk], by rw [hk], rfl, rfl⟩
  case rest =>
  obtain ⟨rfl, rfl, rfl, rfl⟩ := hcut
  clear hlen
  go_wp2_with fail
  go_loopw [11, 13, 16, 17, 75] (fun e f x y i wr => ∃ (k R W : Nat) (P Q : Nat → Prop), e = .int .i64 0 ∧ f = .int .i64 0 ∧ x = .int .i64 R ∧ y = .int .i64 W ∧ i = .int .i64 k ∧ k ≤ len ∧ R ≤ W + 60 ∧ W ≤ R + 60 ∧ R + W ≤ k ∧ RoomI w wr b n (roomSt idv n R W) F b' m2 (roomSt idv m2 R W) F' p (toldW idv n R W) (toldR idv R W) P p2 (toldW idv m2 R W) (toldR idv R W) Q) (fun _ _ _ _ i _ => len - (intOf i).toNat)
  case atStart => exact ⟨0, 0, 0, P, Q, rfl, rfl, rfl, rfl, rfl, Nat.zero_le _, by omega, by omega, by omega, hI4⟩
  case round =>
    clear hI4
    obtain ⟨k, R, W, P, Q, rfl, rfl, rfl, rfl, rfl, hk, hR, hW, hRW, hI⟩ := hrel
    have hRb : R ≤ 100 := by omega
    have hWb : W ≤ 100 := by omega
    by_cases hlt : k < len
    · obtain ⟨ba, off, rfl, hcell⟩ := HE.out (by omega)
      have hc1 := hcell k (by omega)
      have hcw : wr.cell? ⟨ba, off + k, none⟩ = some (.bool (l.getD k false)) := (hI.two.one.below.cell (p := ⟨ba, off + k, none⟩) (World.block_lt_of_cell? w _ hc1)).trans hc1
      have HK : Hid (k + 1 ≤ len) := Lib.hid (by omega)
      clear hcell hc1
      generalize l.getD k false = rd at *
      go_upto_region 13 with fail
      go_cut [85] from 79 to 79 (fun v wx => ∃ c : Bool, v = .bool c ∧ (c = true → rd = true ∧ R < W + 60) ∧ (c = false → rd = true → W + 60 ≤ R) ∧ wr = wx)
      case first =>
        clear hI
        cases rd with
        | true =>
          by_cases h1 : R < W + 60
          · have hd : decide ((R : Int) - (W : Int) < 60) = true := by simp; omega
            go_wp2_with fail
            go_meet
            exact ⟨true, by simp [h1]⟩
          · have hd : decide ((R : Int) - (W : Int) < 60) = false := by simp; omega
            go_wp2_with fail
            go_meet
            exact ⟨false, by simp; omega⟩
        | false =>
          go_wp2_with fail
          go_meet
          exact ⟨false, by simp⟩
      case rest =>
      obtain ⟨c, rfl, hct, hcf, rfl⟩ := hcut
      go_upto_if 85 with fail
      go_cut [11, 13, 16, 17, 20, 21] from 87 to 87 (fun e f x y s t wx => Moved w wx b n F b' m2 F' p p2 R W e f x y s t)
      case first =>
        have HI := Lib.hid hI
        have HF := Lib.hid (fun i => hI.two.two.q.lt i)
        have HP := Lib.hid (fun i => hI.rp.lt i)
        have HQ := Lib.hid (fun i => hI.rq.lt i)
        cases c with
        | true =>
          obtain ⟨rfl, h1⟩ := hct rfl
          obtain ⟨lx, ex, hlx2, hxw, hxr⟩ := room_read idv n R W hn1 (by omega)
          obtain ⟨ly, ey, hly2, hyw, hyr⟩ := room_read idv m2 R W (by omega) (by omega)
          have EX := Lib.hid ex
          have EY := Lib.hid ey
          clear ex ey hI
          have hI := HI.out
          go_wp2_with fail
          refine (roomi_read hI (-1 - (R : Int)) _ _ _ EX.out).mono ?_
          rintro e w5 ⟨A5, c5, G5, rfl, hs5, hg5, hI5, hT5⟩
          have HP5 := Lib.hid (fun i => hI5.rp.lt i)
          have HQ5 := Lib.hid (fun i => hI5.rq.lt i)
          clear hI
          go_wp2_with fail
          refine (roomi_read hI5.swap (-1 - (R : Int)) _ _ _ EY.out).mono ?_
          rintro e w6 ⟨A6, c6, G6, rfl, hs6, hg6, hI6, hT6⟩
          have hs56 := hs5.keep hT6 (fun g h hf => by have := hg5 g h; have := HF.out g hf; omega)
          clear hI5 hs5 hT5 hT6
          go_wp2_with fail
          go_meet
          exact ⟨R + 1, W, lx, ly, A5, c5, G5, A6, c6, G6, P, Q, rfl, rfl, rfl, rfl, rfl, rfl, by omega, by omega, by omega, hlx2, hly2, hI6.swap, hs56, hs6, fun g h => ⟨fun hf => by have := hg5 g h; have := HP.out g hf; omega, fun hf => by have := hg5 g h; have := HQ.out g hf; omega⟩, fun g h => ⟨fun hf => by have := hg6 g h; have := HP5.out g hf; omega, fun hf => by have := hg6 g h; have := HQ5.out g hf; omega⟩, hxw, hxr, hyw, hyr⟩
        | false =>
          cases rd with
          | true =>
            have h1 := hcf rfl rfl
            clear hcf hct
            go_wp2_with fail
            go_meet
            exact ⟨R, W, [], [], none, 0, none, none, 0, none, P, Q, rfl, rfl, rfl, rfl, rfl, rfl, hR, hW, by omega, by simp, by simp, hI, Sl.nil _ _ _, Sl.nil _ _ _, fun g h => by simp at h, fun g h => by simp at h, by simp [ofW], by simp [ofR], by simp [ofW], by simp [ofR]⟩
          | false =>
            clear hcf hct
            by_cases h1 : W < R + 60
            · have hd : decide ((W : Int) - (R : Int) < 60) = true := by simp; omega
              obtain ⟨lx, ex, hlx2, hxw, hxr⟩ := room_write idv n R W hn1 (by omega)
              obtain ⟨ly, ey, hly2, hyw, hyr⟩ := room_write idv m2 R W (by omega) (by omega)
              have EX := Lib.hid ex
              have EY := Lib.hid ey
              clear ex ey hI
              have hI := HI.out
              go_wp2_with fail
              refine (roomi_write hI (W : Int) (W : Int) _ _ _ EX.out).mono ?_
              rintro e w5 ⟨A5, c5, G5, rfl, hs5, hg5, hI5, hT5⟩
              have HP5 := Lib.hid (fun i => hI5.rp.lt i)
              have HQ5 := Lib.hid (fun i => hI5.rq.lt i)
              clear hI
              go_wp2_with fail
              refine (roomi_write hI5.swap (W : Int) (W : Int) _ _ _ EY.out).mono ?_
              rintro e w6 ⟨A6, c6, G6, rfl, hs6, hg6, hI6, hT6⟩
              have hs56 := hs5.keep hT6 (fun g h hf => by have := hg5 g h; have := HF.out g hf; omega)
              clear hI5 hs5 hT5 hT6
              go_wp2_with fail
              go_meet
              exact ⟨R, W + 1, lx, ly, A5, c5, G5, A6, c6, G6, P, Q, rfl, rfl, rfl, rfl, rfl, rfl, by omega, by omega, by omega, hlx2, hly2, hI6.swap, hs56, hs6, fun g h => ⟨fun hf => by have := hg5 g h; have := HP.out g hf; omega, fun hf => by have := hg5 g h; have := HQ.out g hf; omega⟩, fun g h => ⟨fun hf => by have := hg6 g h; have := HP5.out g hf; omega, fun hf => by have := hg6 g h; have := HQ5.out g hf; omega⟩, hxw, hxr, hyw, hyr⟩
            · have hd : decide ((W : Int) - (R : Int) < 60) = false := by simp; omega
              go_wp2_with fail
              go_meet
              exact ⟨R, W, [], [], none, 0, none, none, 0, none, P, Q, rfl, rfl, rfl, rfl, rfl, rfl, hR, hW, by omega, by simp, by simp, hI, Sl.nil _ _ _, Sl.nil _ _ _, fun g h => by simp at h, fun g h => by simp at h, by simp [ofW], by simp [ofR], by simp [ofW], by simp [ofR]⟩
      case rest =>
      clear hI hct hcf hcw
      obtain ⟨R', W', lx, ly, A, cx, G, A', cy, G', P, Q, rfl, rfl, rfl, rfl, rfl, rfl, hR', hW', hRW', hlx2, hly2, hI, hs, hs', hg, hg', e1, e2, e3, e4⟩ := hcut
      have HLx := Lib.hid hlx2
      have HLy := Lib.hid hly2
      clear hlx2 hly2
      have hcx := hs.cap_le
      have hcy := hs'.cap_le
      have E := Lib.hid (And.intro e1 (And.intro e2 (And.intro e3 e4)))
      clear e1 e2 e3 e4
      go_wp2_with fail
      go_loopw [134] (fun i wr => InRow w wr b n (roomSt idv n R' W') F b' m2 (roomSt idv m2 R' W') F' p (toldW idv n R W) (toldR idv R W) p2 (toldW idv m2 R W) (toldR idv R W) Q lx A cx G ly A' cy G' i) (fun i _ => lx.length - (intOf i).toNat)
      case atStart => exact ⟨0, P, rfl, Nat.zero_le _, by simpa [ofW, ofR] using hI, hs, hs', hg, hg'⟩
      case round =>
        clear hI hs hs' hg hg'
        obtain ⟨j, P, rfl, hj, hI, hs, hs', hg, hg'⟩ := hrel
        by_cases hjl : j < lx.length
        · have HLX := HLx
          obtain ⟨ga, rfl, rfl, hcl⟩ := hs.cells (by omega)
          have e1 := gots_get lx j hjl
          have hc1 := hcl _ _ e1.1
          have hc2 := hcl _ _ e1.2
          have EW := Lib.hid (ofW_take lx j hjl)
          have ER := Lib.hid (ofR_take lx j hjl)
          have HG := Lib.hid hg
          have HG' := Lib.hid hg'
          have HS := Lib.hid hs
          have HS' := Lib.hid hs'
          clear hcl e1 hg hg' hs hs' hj
          generalize lx.getD j (0, 0) = it at *
          obtain ⟨who, val⟩ := it
          dsimp only at hc1 hc2
          by_cases hneg : who < 0
          · have hd : decide (who < 0) = true := by simpa using hneg
            have EW1 := EW.out
            have ER1 := ER.out
            simp only [hneg, if_true] at EW1 ER1
            have EW2 := Lib.hid EW1
            have ER2 := Lib.hid ER1
            clear EW1 ER1 EW ER
            have hB := room_rows_le R W n m2 lx j hRb hWb HLX.out
            obtain ⟨zw, hzw⟩ : ∃ z, z = toldW idv n R W ++ ofW (lx.take j) := ⟨_, rfl⟩
            obtain ⟨zr, hzr⟩ : ∃ z, z = toldR idv R W ++ ofR (lx.take j) := ⟨_, rfl⟩
            rw [← hzw, ← hzr] at hI
            have HZW := Lib.hid hzw
            have HZR := Lib.hid hzr
            have hzl : zr.length ≤ 200 := by rw [hzr]; exact hB.2.2
            clear hzw hzr hB
            have hT0 := (Tch.refl NoBlk wr).alloc (.cells #[.int .i64 who, .int .i64 val] 34)
            have hI0 := hI.none hT0
            have hs0 := HS.out.keep hT0 (fun _ _ h => h)
            have hs0' := HS'.out.keep hT0 (fun _ _ h => h)
            have hx := Blk.new wr 34 [.int .i64 who, .int .i64 val]
            go_wp2_with fail
            clear hI hT0 HS HS' hc1 hc2
            generalize wr.alloc (.cells #[.int .i64 who, .int .i64 val] 34) = W2 at *
            generalize wr.heap.size = xa at *
            obtain ⟨A0, k0, G0, A1, k1, G1, hA, hFP⟩ := hI0.rp
            have hI1 := Lib.hid hI0
            have hs1 := Lib.hid hs0
            have hs1' := Lib.hid hs0'
            have hFP1 := Lib.hid hFP
            clear hI0 hs0 hs0' hFP
            have hci := hA.blk.cellOf 1 _ rfl
            have hcA : ∀ o, (W2.alloc o).cell? ⟨p, 1, none⟩ = some (.slice A1 zr.length k1) := fun o => ((Tch.refl NoBlk W2).alloc o).cell' hci (fun h => h)
            have hx1 := hx.cellOf 0 _ rfl
            have hx2 := hx.cellOf 1 _ rfl
            have hxA1 : ∀ o, (W2.alloc o).cell? ⟨xa, 0, none⟩ = some (.int .i64 who) := fun o => ((Tch.refl NoBlk W2).alloc o).cell' hx1 (fun h => h)
            have hxA2 : ∀ o, (W2.alloc o).cell? ⟨xa, 1, none⟩ = some (.int .i64 val) := fun o => ((Tch.refl NoBlk W2).alloc o).cell' hx2 (fun h => h)
            have hsK := hA.s1.keep (Tch.refl NoBlk W2).drew (fun _ _ h => h)
            go_region_law (refine step_app _ rfl (.tmp 144) (.tmp 146) 28 rfl 34 (.agg #[.int .i64 0, .int .i64 0]) 2 16 Try.underlying28 infoGot rfl (by decide) (by decide) A1 zr.length k1 (gots zr) G1 (some ⟨W2.heap.size, 0, none⟩) 1 1 (gots [(who, val)]) (by simp [Act.eval]) (by simp [Act.eval]) (hsK.alloc _) (Src.made (sz := 2) W2.drew 34 #[.int .i64 who, .int .i64 val] 1 rfl) (gots_one [(who, val)]) (by omega) ?_; intro A6 c6 w4 G6 hs6 ht6 hg6; have HS6 := Lib.hid hs6; have HT6 : Hid (Tch (fun k => G1 = some k) W2 w4) := Lib.hid (Tch.then ((Tch.refl _ W2).drew.alloc _) ht6 (fun _ _ h => h)); have HG6 := Lib.hid hg6; have hb6 := hA.blk.keep HT6.out hA.n1; have hc6 := hb6.cellOf 1 _ rfl; have hf6 := hb6.free 1; clear hs6 ht6 hg6 hb6)
            all_goals
              have hg6 : G6 = G1 ∨ ∃ g, G6 = some g ∧ W2.heap.size ≤ g := HG6.out.elim .inl (fun ⟨g, h1, h2⟩ => .inr ⟨g, h1, by simp at h2; exact Nat.le_of_succ_le h2⟩)
              have e1 : (zr ++ [(who, val)]).length = zr.length + 1 := by simp
              have hs6 : Sl w4 34 2 A6 (zr ++ [(who, val)]).length c6 (gots (zr ++ [(who, val)])) G6 := by rw [e1, gots_app]; exact HS6.out
              have hgr := hA.app1 hFP1.out HT6.out hs6 hg6
              rw [e1] at hgr
              obtain ⟨P', hI', hP'⟩ := hI1.out.grown hgr
              have hs7 := hs1.out.keep hgr.1 (fun g h hp => (HG.out g h).1 hp)
              have hs7' := hs1'.out.keep hgr.1 (fun g h hp => (HG'.out g h).1 hp)
              have HN : Hid (InRow w (w4.setCell ⟨p, 1, none⟩ (.slice A6 (zr.length + 1) c6)) b n (roomSt idv n R' W') F b' m2 (roomSt idv m2 R' W') F' p (toldW idv n R W) (toldR idv R W) p2 (toldW idv m2 R W) (toldR idv R W) Q lx (some ⟨ga, 0, none⟩) cx (some ga) ly A' cy G' (.int .i64 ((j : Int) + 1))) := Lib.hid ⟨j + 1, P', num (Int.natCast_succ j), hjl, by rw [EW2.out, ER2.out]; try rw [← List.append_assoc]; rw [← HZW.out, ← HZR.out]; exact hI', hs7, hs7', fun g h => ⟨fun hp => (hP' g hp).elim (HG.out g h).1 (fun z => by have := hs1.out.lt g h; omega), (HG.out g h).2⟩, fun g h => ⟨fun hp => (hP' g hp).elim (HG'.out g h).1 (fun z => by have := hs1'.out.lt g h; omega), (HG'.out g h).2⟩⟩
              clear hI' hs7 hs7' hgr hs6 hg6 hs1 hs1' hI1 HS6 HT6 HG6
              go_wp2
              go_roundw
              case rel => exact HN.out
              case measure => simp [intOf]; omega
          · have hd : decide (who < 0) = false := by simpa using hneg
            have EW1 := EW.out
            have ER1 := ER.out
            simp only [hneg, if_false] at EW1 ER1
            have EW2 := Lib.hid EW1
            have ER2 := Lib.hid ER1
            clear EW1 ER1 EW ER
            have hB := room_rows_le R W n m2 lx j hRb hWb HLX.out
            obtain ⟨zw, hzw⟩ : ∃ z, z = toldW idv n R W ++ ofW (lx.take j) := ⟨_, rfl⟩
            obtain ⟨zr, hzr⟩ : ∃ z, z = toldR idv R W ++ ofR (lx.take j) := ⟨_, rfl⟩
            rw [← hzw, ← hzr] at hI
            have HZW := Lib.hid hzw
            have HZR := Lib.hid hzr
            have hzl : zw.length ≤ 200 := by rw [hzw]; exact hB.1
            clear hzw hzr hB
            have hT0 := (Tch.refl NoBlk wr).alloc (.cells #[.int .i64 who, .int .i64 val] 34)
            have hI0 := hI.none hT0
            have hs0 := HS.out.keep hT0 (fun _ _ h => h)
            have hs0' := HS'.out.keep hT0 (fun _ _ h => h)
            have hx := Blk.new wr 34 [.int .i64 who, .int .i64 val]
            go_wp2_with fail
            clear hI hT0 HS HS' hc1 hc2
            generalize wr.alloc (.cells #[.int .i64 who, .int .i64 val] 34) = W2 at *
            generalize wr.heap.size = xa at *
            obtain ⟨A0, k0, G0, A1, k1, G1, hA, hFP⟩ := hI0.rp
            have hI1 := Lib.hid hI0
            have hs1 := Lib.hid hs0
            have hs1' := Lib.hid hs0'
            have hFP1 := Lib.hid hFP
            clear hI0 hs0 hs0' hFP
            have hci := hA.blk.cellOf 0 _ rfl
            have hcA : ∀ o, (W2.alloc o).cell? ⟨p, 0, none⟩ = some (.slice A0 zw.length k0) := fun o => ((Tch.refl NoBlk W2).alloc o).cell' hci (fun h => h)
            have hx1 := hx.cellOf 0 _ rfl
            have hx2 := hx.cellOf 1 _ rfl
            have hxA1 : ∀ o, (W2.alloc o).cell? ⟨xa, 0, none⟩ = some (.int .i64 who) := fun o => ((Tch.refl NoBlk W2).alloc o).cell' hx1 (fun h => h)
            have hxA2 : ∀ o, (W2.alloc o).cell? ⟨xa, 1, none⟩ = some (.int .i64 val) := fun o => ((Tch.refl NoBlk W2).alloc o).cell' hx2 (fun h => h)
            have hsK := hA.s0.keep (Tch.refl NoBlk W2).drew (fun _ _ h => h)
            go_region_law (refine step_app _ rfl (.tmp 144) (.tmp 146) 28 rfl 34 (.agg #[.int .i64 0, .int .i64 0]) 2 16 Try.underlying28 infoGot rfl (by decide) (by decide) A0 zw.length k0 (gots zw) G0 (some ⟨W2.heap.size, 0, none⟩) 1 1 (gots [(who, val)]) (by simp [Act.eval]) (by simp [Act.eval]) (hsK.alloc _) (Src.made (sz := 2) W2.drew 34 #[.int .i64 who, .int .i64 val] 1 rfl) (gots_one [(who, val)]) (by omega) ?_; intro A6 c6 w4 G6 hs6 ht6 hg6; have HS6 := Lib.hid hs6; have HT6 : Hid (Tch (fun k => G0 = some k) W2 w4) := Lib.hid (Tch.then ((Tch.refl _ W2).drew.alloc _) ht6 (fun _ _ h => h)); have HG6 := Lib.hid hg6; have hb6 := hA.blk.keep HT6.out hA.n0; have hc6 := hb6.cellOf 0 _ rfl; have hf6 := hb6.free 0; clear hs6 ht6 hg6 hb6)
            all_goals
              have hg6 : G6 = G0 ∨ ∃ g, G6 = some g ∧ W2.heap.size ≤ g := HG6.out.elim .inl (fun ⟨g, h1, h2⟩ => .inr ⟨g, h1, by simp at h2; exact Nat.le_of_succ_le h2⟩)
              have e1 : (zw ++ [(who, val)]).length = zw.length + 1 := by simp
              have hs6 : Sl w4 34 2 A6 (zw ++ [(who, val)]).length c6 (gots (zw ++ [(who, val)])) G6 := by rw [e1, gots_app]; exact HS6.out
              have hgr := hA.app0 hFP1.out HT6.out hs6 hg6
              rw [e1] at hgr
              obtain ⟨P', hI', hP'⟩ := hI1.out.grown hgr
              have hs7 := hs1.out.keep hgr.1 (fun g h hp => (HG.out g h).1 hp)
              have hs7' := hs1'.out.keep hgr.1 (fun g h hp => (HG'.out g h).1 hp)
              have HN : Hid (InRow w (w4.setCell ⟨p, 0, none⟩ (.slice A6 (zw.length + 1) c6)) b n (roomSt idv n R' W') F b' m2 (roomSt idv m2 R' W') F' p (toldW idv n R W) (toldR idv R W) p2 (toldW idv m2 R W) (toldR idv R W) Q lx (some ⟨ga, 0, none⟩) cx (some ga) ly A' cy G' (.int .i64 ((j : Int) + 1))) := Lib.hid ⟨j + 1, P', num (Int.natCast_succ j), hjl, by rw [EW2.out, ER2.out]; try rw [← List.append_assoc]; rw [← HZW.out, ← HZR.out]; exact hI', hs7, hs7', fun g h => ⟨fun hp => (hP' g hp).elim (HG.out g h).1 (fun z => by have := hs1.out.lt g h; omega), (HG.out g h).2⟩, fun g h => ⟨fun hp => (hP' g hp).elim (HG'.out g h).1 (fun z => by have := hs1'.out.lt g h; omega), (HG'.out g h).2⟩⟩
              clear hI' hs7 hs7' hgr hs6 hg6 hs1 hs1' hI1 HS6 HT6 HG6
              go_wp2
              go_roundw
              case rel => exact HN.out
              case measure => simp [intOf]; omega
        · have hge : lx.length ≤ j := by omega
          obtain rfl : j = lx.length := by omega
          rw [List.take_length] at hI
          clear hjl hj
          go_wp2_with fail
          go_loopw [152] (fun i wr => InRow w wr b' m2 (roomSt idv m2 R' W') F' b n (roomSt idv n R' W') F p2 (toldW idv m2 R W) (toldR idv R W) p (toldW idv n R W ++ ofW lx) (toldR idv R W ++ ofR lx) P ly A' cy G' lx A cx G i) (fun i _ => ly.length - (intOf i).toNat)
          case atStart => exact ⟨0, Q, rfl, Nat.zero_le _, by simpa [ofW, ofR] using hI.swap, hs', hs, fun g h => ⟨(hg' g h).2, (hg' g h).1⟩, fun g h => ⟨(hg g h).2, (hg g h).1⟩⟩
          case round =>
            clear hI hs hs' hg hg'
            obtain ⟨j, P2, rfl, hj, hI, hs, hs', hg, hg'⟩ := hrel
            by_cases hjl : j < ly.length
            · have HLX := HLy
              obtain ⟨ga, rfl, rfl, hcl⟩ := hs.cells (by omega)
              have e1 := gots_get ly j hjl
              have hc1 := hcl _ _ e1.1
              have hc2 := hcl _ _ e1.2
              have EW := Lib.hid (ofW_take ly j hjl)
              have ER := Lib.hid (ofR_take ly j hjl)
              have HG := Lib.hid hg
              have HG' := Lib.hid hg'
              have HS := Lib.hid hs
              have HS' := Lib.hid hs'
              clear hcl e1 hg hg' hs hs' hj
              generalize ly.getD j (0, 0) = it at *
              obtain ⟨who, val⟩ := it
              dsimp only at hc1 hc2
              by_cases hneg : who < 0
              · have hd : decide (who < 0) = true := by simpa using hneg
                have EW1 := EW.out
                have ER1 := ER.out
                simp only [hneg, if_true] at EW1 ER1
                have EW2 := Lib.hid EW1
                have ER2 := Lib.hid ER1
                clear EW1 ER1 EW ER
                have hB := room_rows_le R W n m2 ly j hRb hWb HLX.out
                obtain ⟨zw, hzw⟩ : ∃ z, z = toldW idv m2 R W ++ ofW (ly.take j) := ⟨_, rfl⟩
                obtain ⟨zr, hzr⟩ : ∃ z, z = toldR idv R W ++ ofR (ly.take j) := ⟨_, rfl⟩
                rw [← hzw, ← hzr] at hI
                have HZW := Lib.hid hzw
                have HZR := Lib.hid hzr
                have hzl : zr.length ≤ 200 := by rw [hzr]; exact hB.2.2
                clear hzw hzr hB
                have hT0 := (Tch.refl NoBlk wr).alloc (.cells #[.int .i64 who, .int .i64 val] 34)
                have hI0 := hI.none hT0
                have hs0 := HS.out.keep hT0 (fun _ _ h => h)
                have hs0' := HS'.out.keep hT0 (fun _ _ h => h)
                have hx := Blk.new wr 34 [.int .i64 who, .int .i64 val]
                go_wp2_with fail
                clear hI hT0 HS HS' hc1 hc2
                generalize wr.alloc (.cells #[.int .i64 who, .int .i64 val] 34) = W2 at *
                generalize wr.heap.size = xa at *
                obtain ⟨A0, k0, G0, A1, k1, G1, hA, hFP⟩ := hI0.rp
                have hI1 := Lib.hid hI0
                have hs1 := Lib.hid hs0
                have hs1' := Lib.hid hs0'
                have hFP1 := Lib.hid hFP
                clear hI0 hs0 hs0' hFP
                have hci := hA.blk.cellOf 1 _ rfl
                have hcA : ∀ o, (W2.alloc o).cell? ⟨p2, 1, none⟩ = some (.slice A1 zr.length k1) := fun o => ((Tch.refl NoBlk W2).alloc o).cell' hci (fun h => h)
                have hx1 := hx.cellOf 0 _ rfl
                have hx2 := hx.cellOf 1 _ rfl
                have hxA1 : ∀ o, (W2.alloc o).cell? ⟨xa, 0, none⟩ = some (.int .i64 who) := fun o => ((Tch.refl NoBlk W2).alloc o).cell' hx1 (fun h => h)
                have hxA2 : ∀ o, (W2.alloc o).cell? ⟨xa, 1, none⟩ = some (.int .i64 val) := fun o => ((Tch.refl NoBlk W2).alloc o).cell' hx2 (fun h => h)
                have hsK := hA.s1.keep (Tch.refl NoBlk W2).drew (fun _ _ h => h)
                go_region_law (refine step_app _ rfl (.tmp 162) (.tmp 164) 28 rfl 34 (.agg #[.int .i64 0, .int .i64 0]) 2 16 Try.underlying28 infoGot rfl (by decide) (by decide) A1 zr.length k1 (gots zr) G1 (some ⟨W2.heap.size, 0, none⟩) 1 1 (gots [(who, val)]) (by simp [Act.eval]) (by simp [Act.eval]) (hsK.alloc _) (Src.made (sz := 2) W2.drew 34 #[.int .i64 who, .int .i64 val] 1 rfl) (gots_one [(who, val)]) (by omega) ?_; intro A6 c6 w4 G6 hs6 ht6 hg6; have HS6 := Lib.hid hs6; have HT6 : Hid (Tch (fun k => G1 = some k) W2 w4) := Lib.hid (Tch.then ((Tch.refl _ W2).drew.alloc _) ht6 (fun _ _ h => h)); have HG6 := Lib.hid hg6; have hb6 := hA.blk.keep HT6.out hA.n1; have hc6 := hb6.cellOf 1 _ rfl; have hf6 := hb6.free 1; clear hs6 ht6 hg6 hb6)
                all_goals
                  have hg6 : G6 = G1 ∨ ∃ g, G6 = some g ∧ W2.heap.size ≤ g := HG6.out.elim .inl (fun ⟨g, h1, h2⟩ => .inr ⟨g, h1, by simp at h2; exact Nat.le_of_succ_le h2⟩)
                  have e1 : (zr ++ [(who, val)]).length = zr.length + 1 := by simp
                  have hs6 : Sl w4 34 2 A6 (zr ++ [(who, val)]).length c6 (gots (zr ++ [(who, val)])) G6 := by rw [e1, gots_app]; exact HS6.out
                  have hgr := hA.app1 hFP1.out HT6.out hs6 hg6
                  rw [e1] at hgr
                  obtain ⟨P', hI', hP'⟩ := hI1.out.grown hgr
                  have hs7 := hs1.out.keep hgr.1 (fun g h hp => (HG.out g h).1 hp)
                  have hs7' := hs1'.out.keep hgr.1 (fun g h hp => (HG'.out g h).1 hp)
                  have HN : Hid (InRow w (w4.setCell ⟨p2, 1, none⟩ (.slice A6 (zr.length + 1) c6)) b' m2 (roomSt idv m2 R' W') F' b n (roomSt idv n R' W') F p2 (toldW idv m2 R W) (toldR idv R W) p (toldW idv n R W ++ ofW lx) (toldR idv R W ++ ofR lx) P ly (some ⟨ga, 0, none⟩) cy (some ga) lx A cx G (.int .i64 ((j : Int) + 1))) := Lib.hid ⟨j + 1, P', num (Int.natCast_succ j), hjl, by rw [EW2.out, ER2.out]; try rw [← List.append_assoc]; rw [← HZW.out, ← HZR.out]; exact hI', hs7, hs7', fun g h => ⟨fun hp => (hP' g hp).elim (HG.out g h).1 (fun z => by have := hs1.out.lt g h; omega), (HG.out g h).2⟩, fun g h => ⟨fun hp => (hP' g hp).elim (HG'.out g h).1 (fun z => by have := hs1'.out.lt g h; omega), (HG'.out g h).2⟩⟩
                  clear hI' hs7 hs7' hgr hs6 hg6 hs1 hs1' hI1 HS6 HT6 HG6
                  go_wp2
                  go_roundw
                  case rel => exact HN.out
                  case measure => simp [intOf]; omega
              · have hd : decide (who < 0) = false := by simpa using hneg
                have EW1 := EW.out
                have ER1 := ER.out
                simp only [hneg, if_false] at EW1 ER1
                have EW2 := Lib.hid EW1
                have ER2 := Lib.hid ER1
                clear EW1 ER1 EW ER
                have hB := room_rows_le R W n m2 ly j hRb hWb HLX.out
                obtain ⟨zw, hzw⟩ : ∃ z, z = toldW idv m2 R W ++ ofW (ly.take j) := ⟨_, rfl⟩
                obtain ⟨zr, hzr⟩ : ∃ z, z = toldR idv R W ++ ofR (ly.take j) := ⟨_, rfl⟩
                rw [← hzw, ← hzr] at hI
                have HZW := Lib.hid hzw
                have HZR := Lib.hid hzr
                have hzl : zw.length ≤ 200 := by rw [hzw]; exact hB.2.1
                clear hzw hzr hB
                have hT0 := (Tch.refl NoBlk wr).alloc (.cells #[.int .i64 who, .int .i64 val] 34)
                have hI0 := hI.none hT0
                have hs0 := HS.out.keep hT0 (fun _ _ h => h)
                have hs0' := HS'.out.keep hT0 (fun _ _ h => h)
                have hx := Blk.new wr 34 [.int .i64 who, .int .i64 val]
                go_wp2_with fail
                clear hI hT0 HS HS' hc1 hc2
                generalize wr.alloc (.cells #[.int .i64 who, .int .i64 val] 34) = W2 at *
                generalize wr.heap.size = xa at *
                obtain ⟨A0, k0, G0, A1, k1, G1, hA, hFP⟩ := hI0.rp
                have hI1 := Lib.hid hI0
                have hs1 := Lib.hid hs0
                have hs1' := Lib.hid hs0'
                have hFP1 := Lib.hid hFP
                clear hI0 hs0 hs0' hFP
                have hci := hA.blk.cellOf 0 _ rfl
                have hcA : ∀ o, (W2.alloc o).cell? ⟨p2, 0, none⟩ = some (.slice A0 zw.length k0) := fun o => ((Tch.refl NoBlk W2).alloc o).cell' hci (fun h => h)
                have hx1 := hx.cellOf 0 _ rfl
                have hx2 := hx.cellOf 1 _ rfl
                have hxA1 : ∀ o, (W2.alloc o).cell? ⟨xa, 0, none⟩ = some (.int .i64 who) := fun o => ((Tch.refl NoBlk W2).alloc o).cell' hx1 (fun h => h)
                have hxA2 : ∀ o, (W2.alloc o).cell? ⟨xa, 1, none⟩ = some (.int .i64 val) := fun o => ((Tch.refl NoBlk W2).alloc o).cell' hx2 (fun h => h)
                have hsK := hA.s0.keep (Tch.refl NoBlk W2).drew (fun _ _ h => h)
                go_region_law (refine step_app _ rfl (.tmp 162) (.tmp 164) 28 rfl 34 (.agg #[.int .i64 0, .int .i64 0]) 2 16 Try.underlying28 infoGot rfl (by decide) (by decide) A0 zw.length k0 (gots zw) G0 (some ⟨W2.heap.size, 0, none⟩) 1 1 (gots [(who, val)]) (by simp [Act.eval]) (by simp [Act.eval]) (hsK.alloc _) (Src.made (sz := 2) W2.drew 34 #[.int .i64 who, .int .i64 val] 1 rfl) (gots_one [(who, val)]) (by omega) ?_; intro A6 c6 w4 G6 hs6 ht6 hg6; have HS6 := Lib.hid hs6; have HT6 : Hid (Tch (fun k => G0 = some k) W2 w4) := Lib.hid (Tch.then ((Tch.refl _ W2).drew.alloc _) ht6 (fun _ _ h => h)); have HG6 := Lib.hid hg6; have hb6 := hA.blk.keep HT6.out hA.n0; have hc6 := hb6.cellOf 0 _ rfl; have hf6 := hb6.free 0; clear hs6 ht6 hg6 hb6)
                all_goals
                  have hg6 : G6 = G0 ∨ ∃ g, G6 = some g ∧ W2.heap.size ≤ g := HG6.out.elim .inl (fun ⟨g, h1, h2⟩ => .inr ⟨g, h1, by simp at h2; exact Nat.le_of_succ_le h2⟩)
                  have e1 : (zw ++ [(who, val)]).length = zw.length + 1 := by simp
                  have hs6 : Sl w4 34 2 A6 (zw ++ [(who, val)]).length c6 (gots (zw ++ [(who, val)])) G6 := by rw [e1, gots_app]; exact HS6.out
                  have hgr := hA.app0 hFP1.out HT6.out hs6 hg6
                  rw [e1] at hgr
                  obtain ⟨P', hI', hP'⟩ := hI1.out.grown hgr
                  have hs7 := hs1.out.keep hgr.1 (fun g h hp => (HG.out g h).1 hp)
                  have hs7' := hs1'.out.keep hgr.1 (fun g h hp => (HG'.out g h).1 hp)
                  have HN : Hid (InRow w (w4.setCell ⟨p2, 0, none⟩ (.slice A6 (zw.length + 1) c6)) b' m2 (roomSt idv m2 R' W') F' b n (roomSt idv n R' W') F p2 (toldW idv m2 R W) (toldR idv R W) p (toldW idv n R W ++ ofW lx) (toldR idv R W ++ ofR lx) P ly (some ⟨ga, 0, none⟩) cy (some ga) lx A cx G (.int .i64 ((j : Int) + 1))) := Lib.hid ⟨j + 1, P', num (Int.natCast_succ j), hjl, by rw [EW2.out, ER2.out]; try rw [← List.append_assoc]; rw [← HZW.out, ← HZR.out]; exact hI', hs7, hs7', fun g h => ⟨fun hp => (hP' g hp).elim (HG.out g h).1 (fun z => by have := hs1.out.lt g h; omega), (HG.out g h).2⟩, fun g h => ⟨fun hp => (hP' g hp).elim (HG'.out g h).1 (fun z => by have := hs1'.out.lt g h; omega), (HG'.out g h).2⟩⟩
                  clear hI' hs7 hs7' hgr hs6 hg6 hs1 hs1' hI1 HS6 HT6 HG6
                  go_wp2
                  go_roundw
                  case rel => exact HN.out
                  case measure => simp [intOf]; omega
            · have hge : ly.length ≤ j := by omega
              obtain rfl : j = ly.length := by omega
              rw [List.take_length] at hI
              clear hjl hj hs hs' hg hg'
              obtain ⟨e1, e2, e3, e4⟩ := E.out
              rw [e1, e2, e3, e4] at hI
              clear e1 e2 e3 e4 E
              have hI2 := hI.swap
              clear hI
              have hxy : (toldW idv n R' W').length ≤ (toldW idv m2 R' W').length := by simp only [toldW, pairs_length]; omega
              have htake : (toldW idv m2 R' W').take (toldW idv n R' W').length = toldW idv n R' W' := by
                simp only [toldW, pairs_length]
                exact pairs_take idv 0 _ _ (by omega)
              obtain ⟨z0, hz0⟩ : ∃ z, toldW idv n R' W' = z := ⟨_, rfl⟩
              obtain ⟨z2, hz2⟩ : ∃ z, toldW idv m2 R' W' = z := ⟨_, rfl⟩
              obtain ⟨z1, hz1⟩ : ∃ z, toldR idv R' W' = z := ⟨_, rfl⟩
              rw [hz0] at hI2 hxy htake
              rw [hz2] at hI2 hxy htake
              rw [hz1] at hI2
              have HZ0 := Lib.hid hz0
              have HZ2 := Lib.hid hz2
              have HZ1 := Lib.hid hz1
              clear hz0 hz1 hz2
              have hIH := Lib.hid hI2
              obtain ⟨A0, k0, G0, A1, k1, G1, hA, _⟩ := hI2.rp
              obtain ⟨A2, k2, G2, A3, k3, G3, hB, _⟩ := hI2.rq
              clear hI2
              have p0 := hA.blk.cellOf 0 _ rfl
              have p1 := hA.blk.cellOf 1 _ rfl
              have q0 := hB.blk.cellOf 0 _ rfl
              have q1 := hB.blk.cellOf 1 _ rfl
              have b0 := hA.s0.cap_le
              have b1 := hA.s1.cap_le
              have b2 := hB.s0.cap_le
              have b3 := hB.s1.cap_le
              have hgt : decide ((z2.length : Int) < (z0.length : Int)) = false := by simp; omega
              have hgt2 : decide ((z0.length : Int) > (z2.length : Int)) = false := by simp; omega
              have hz0k : z0.length ≤ k2 := by omega
              have HA := Lib.hid hA
              have HB := Lib.hid hB
              have hz20 : z0.length ≤ z2.length := hxy
              have HT : Hid (∀ (j : Nat) (u : Value), (gots z0)[j]? = some u → (gots z2)[j]? = some u) := Lib.hid (fun j u hu => by
                rw [← List.take_append_drop z0.length z2, htake, gots_app, List.getElem?_append_left (by
                  rcases Nat.lt_or_ge j (gots z0).length with h | h
                  · exact h
                  · rw [List.getElem?_eq_none h] at hu; cases hu)]
                exact hu)
              clear hA hB hxy htake
              go_wp2_with fail
              go_quiet (first | (go_at_call 12; exact Calls.quiet_of (stream_same_head _ _ _ _ _ _ _ (HA.out.s1.head) (HB.out.s1.head) b1 b3 rfl)) | (go_at_call 12; exact Calls.quiet_of (stream_same_head _ _ _ _ _ _ _ (HA.out.s0.head) (HB.out.s0.head.less hz20 HT.out) b0 (by omega) rfl)))
              go_wp2
              go_roundw
              case rel => exact ⟨k + 1, R', W', P, P2, rfl, rfl, rfl, rfl, num (by omega), HK.out, hR', hW', by omega, by rw [HZ0.out, HZ1.out, HZ2.out]; exact hIH.out.none ((Tch.refl NoBlk wr).drewN _)⟩
              case measure => simp [intOf]; omega
    · have hge : len ≤ k := by omega
      have HB := Lib.hid hI.two.one.below
      clear hlt hI
      go_wp2
      go_ret
      exact ⟨rfl, HB.out⟩
end Go.Proofs.Ytmmnilckdlkggaa
