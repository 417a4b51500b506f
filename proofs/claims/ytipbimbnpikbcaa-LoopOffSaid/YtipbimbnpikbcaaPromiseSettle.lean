/- Make and Settle of promises; a nil table. -/
import Derived.Test.YtipbimbnpikbcaaPromiseDo
namespace Go.Proofs.Ytipbimbnpikbcaa
open Go.RowKit

theorem PrsAt.grow {w w3 : World} {b : Nat} {l : List Pr} {os : List (Nat × Nat)} {A : Option Addr} {cap : Nat} {G : Option Nat} (h : PrsAt w b l os A cap G) {A2 : Option Addr} {c2 p r : Nat} {G2 : Option Nat} {x : Pr} (hl : l.length < 512) (hr : w.heap.size ≤ r) (hrp : r < p)
    (T : Tch (fun k => k = b ∨ G = some k) w w3) (hb : Blk w3 b 99 [.slice A2 (l.length + 1) c2]) (hs : Sl w3 103 1 A2 (l.length + 1) c2 (ptrs os ++ [.pointer (some ⟨p, 0, none⟩)]) G2) (hp : PrAt w3 p r x) (hG : G2 = G ∨ ∃ g, G2 = some g ∧ p < g) :
    PrsAt w3 b (l ++ [x]) (os ++ [(p, r)]) A2 c2 G2 := by
  have hlb := h.blk.lt
  have hlo : ∀ (i : Nat) (o : Nat × Nat), os[i]? = some o → o.1 < w.heap.size ∧ o.2 < w.heap.size := fun i o ho => ⟨h.lt o.1 (.inr (.inr ⟨i, o, ho, .inl rfl⟩)), h.lt o.2 (.inr (.inr ⟨i, o, ho, .inr rfl⟩))⟩
  have hlG : ∀ g, G = some g → g < w.heap.size := fun g hg => h.sl.lt g hg
  have hsplit : ∀ (i : Nat) (o : Nat × Nat), (os ++ [(p, r)])[i]? = some o → os[i]? = some o ∨ (i = os.length ∧ o = (p, r)) := by
    intro i o ho
    by_cases hi : i < os.length
    · rw [List.getElem?_append_left hi] at ho
      exact .inl ho
    · right
      rw [List.getElem?_append_right (by omega)] at ho
      cases hd : i - os.length with
      | zero => rw [hd] at ho; simp at ho; exact ⟨by omega, ho.symm⟩
      | succ n => rw [hd] at ho; simp at ho
  have hG2 : ∀ k, k < w.heap.size → G ≠ some k → G2 ≠ some k := by
    intro k hk hne e
    rcases hG with e2 | ⟨g, e2, hg⟩
    · exact hne (e2 ▸ e)
    · rw [e2] at e
      injection e with e
      omega
  have hGn : ∀ k, w.heap.size ≤ k → k ≤ p → G2 ≠ some k := by
    intro k hk hkp e
    rcases hG with e2 | ⟨g, e2, hg⟩
    · have := hlG k (e2 ▸ e)
      omega
    · rw [e2] at e
      injection e with e
      omega
  refine ⟨by rw [List.length_append]; exact hb, by rw [List.length_append, ptrs, List.map_append]; exact hs, by simp [h.len], fun i o y ho hy => ?_, fun i j o u ho hu hij => ?_, fun i o ho => ?_, hG2 b hlb h.gb, by simp; omega⟩
  · rcases hsplit i o ho with h1 | ⟨rfl, rfl⟩
    · have hi := (List.getElem?_eq_some_iff.1 h1).1
      rw [List.getElem?_append_left (by rw [← h.len]; exact hi)] at hy
      obtain ⟨n1, n2, n3, n4⟩ := h.ne i o h1
      exact (h.at_ i o y h1 hy).keep T (fun e => by rcases e with e | e; exact n1 e; exact n3 e) (fun e => by rcases e with e | e; exact n2 e; exact n4 e)
    · rw [List.getElem?_append_right (by rw [h.len]; exact Nat.le_refl _), h.len, Nat.sub_self] at hy
      simp at hy
      subst hy
      exact hp
  · rcases hsplit i o ho with h1 | ⟨rfl, rfl⟩
    · rcases hsplit j u hu with h2 | ⟨rfl, rfl⟩
      · exact h.apart i j o u h1 h2 hij
      · have := hlo i o h1
        exact ⟨by simp only; omega, by simp only; omega, by simp only; omega, by simp only; omega⟩
    · rcases hsplit j u hu with h2 | ⟨rfl, rfl⟩
      · have := hlo j u h2
        exact ⟨by simp only; omega, by simp only; omega, by simp only; omega, by simp only; omega⟩
      · exact absurd rfl hij
  · rcases hsplit i o ho with h1 | ⟨rfl, rfl⟩
    · obtain ⟨n1, n2, n3, n4⟩ := h.ne i o h1
      have := hlo i o h1
      exact ⟨n1, n2, hG2 _ this.1 n3, hG2 _ this.2 n4⟩
    · exact ⟨by simp only; omega, by simp only; omega, hGn _ (by simp only; omega) (by simp only; omega), hGn _ (by simp only; omega) (by simp only; omega)⟩

set_option maxRecDepth 100000 in
theorem promise_make (b : Nat) (l : List Pr) (F : Nat → Prop) (w : World) (h : PrsQ w b l F) :
    Calls Try.prog 35 #[.pointer (some ⟨b, 0, none⟩)] w fun e w' => e = .returned (.tuple #[.int .i64 (makeM l).2.1, .int .i64 (makeM l).2.2]) ∧ Tch F w w' ∧ ∃ F', PrsQ w' b (makeM l).1 F' ∧ ∀ k, F' k → F k ∨ w.heap.size ≤ k := by
  have h0 := h
  obtain ⟨os, A, cap, G, hP, hF⟩ := h
  have hc := hP.blk.cellOf 0 _ rfl
  have hle := hP.le
  unfold makeM
  by_cases hl : 512 ≤ l.length
  · simp only [if_pos hl]
    have HF := Lib.hid hF
    clear hF
    go_enter Try.func35, Try.ntmps35
    go_wp2
    go_ret2
    exact ⟨rfl, Tch.refl _ _, F, h0, fun _ h => .inl h⟩
  · simp only [if_neg hl]
    have HP := Lib.hid hP
    have HF := Lib.hid hF
    have hsl := hP.sl
    have hlb := hP.blk.lt
    clear hF hP h0
    go_enter Try.func35, Try.ntmps35
    go_wp2_with fail
    refine (ring_new_yes 256 w (by omega) (by omega)).mono ?_
    rintro e w1 ⟨r, rfl, hr, hR, hT⟩
    have hc1 := hT.cell' hc (fun h => h)
    have hs1 := hsl.keep hT (fun _ _ h => h)
    have hz1 := hT.size
    have hrl := hR.lt
    have hca : ∀ o, (w1.alloc o).cell? ⟨b, 0, none⟩ = some (.slice A l.length cap) := fun o => ((Tch.refl NoBlk w1).alloc o).cell' hc1 (fun h => h)
    go_wp2_with (at_builtin; refine wpList_app _ rfl (.tmp 27) (.tmp 31) 97 rfl 103 (.pointer none) 1 8 Try.underlying97 infoPtr rfl (by decide) (by decide) _ _ _ _ _ _ _ _ _ rfl rfl ((hs1.alloc _).alloc _) (Src.madeAt (w1.alloc (.cells #[.pointer (some ⟨r, 0, none⟩), .bool false, .int .i64 0] 105)) 103 #[.pointer (some ⟨w1.heap.size, 0, none⟩)] 1 (w1.heap.size + 1) (World.size_alloc _ _) rfl) (ptrs_one [(w1.heap.size, r)]) (by omega) ?_; intro A2 c2 w2 G2 hs2 ht2 hg2; have HT2 := Lib.hid ht2; have HG2 := Lib.hid hg2; have HS2 := Lib.hid hs2; have T2 : Hid (Tch (fun k => G = some k) w1 w2) := Lib.hid (Tch.trans (((Tch.refl _ w1).alloc _).alloc _) ht2); have hb2 := (HP.out.blk.keep hT (fun h => h)).keep T2.out HP.out.gb; have hf2 := hb2.free 0; have hc20 := hb2.cellOf 0 _ rfl; clear ht2 hg2 hs2)
    go_ret2
    have hS : Tch (· = b) w2 (w2.setCell ⟨b, 0, none⟩ (.slice A2 (l.length + 1) c2)) := (Tch.refl (· = b) w2).setCell (p := ⟨b, 0, none⟩) (fun _ => rfl) _
    have hlG : ∀ g, G = some g → g < w1.heap.size := fun g hg => hs1.lt g hg
    have hG2 : G2 = G ∨ ∃ g, G2 = some g ∧ w1.heap.size < g := by
      rcases HG2.out with e | ⟨g, e, hg⟩
      · exact .inl e
      · simp at hg
        exact .inr ⟨g, e, by omega⟩
    have hT13 : Tch (fun k => k = b ∨ G = some k) w (w2.setCell ⟨b, 0, none⟩ (.slice A2 (l.length + 1) c2)) := ((hT.mono (fun _ _ h => h.elim)).trans (T2.out.mono (fun _ _ h => .inr h))).trans (hS.mono (fun _ _ h => .inl h))
    have hpr : PrAt (w2.setCell ⟨b, 0, none⟩ (.slice A2 (l.length + 1) c2)) w1.heap.size r ⟨false, 0, []⟩ := by
      refine ⟨?_, ?_, by omega⟩
      · have h1 := (Blk.new w1 105 [.pointer (some ⟨r, 0, none⟩), .bool false, .int .i64 0]).alloc (.cells #[.pointer (some ⟨w1.heap.size, 0, none⟩)] 103)
        exact (h1.keep HT2.out (fun e => by have := hlG _ e; omega)).keep hS (by omega)
      · exact (hR.keep T2.out (fun e => by have := hsl.lt _ e; omega)).keep hS (by omega)
    have hb3 : Blk (w2.setCell ⟨b, 0, none⟩ (.slice A2 (l.length + 1) c2)) b 99 [.slice A2 (l.length + 1) c2] := hb2.set 0 _
    have hs3 := HS2.out.keep hS (fun g hg e => by
      subst e
      rcases hG2 with e2 | ⟨g', e2, hg'⟩
      · exact HP.out.gb (e2 ▸ hg)
      · rw [e2] at hg
        injection hg with hg
        omega)
    have hgrow := HP.out.grow (x := ⟨false, 0, []⟩) (by omega) hr hrl hT13 hb3 hs3 hpr hG2
    refine ⟨rfl, hT13.mono (fun k _ hk => (HF.out k).2 (by rcases hk with hk | hk; exact .inl hk; exact .inr (.inl hk))), PrsIn b (os ++ [(w1.heap.size, r)]) G2, ⟨_, _, _, _, hgrow, fun k => Iff.rfl⟩, fun k hk => ?_⟩
    rcases hk with rfl | hk | ⟨i, o, ho, hk⟩
    · exact .inl ((HF.out _).2 (.inl rfl))
    · rcases hG2 with e2 | ⟨g', e2, hg'⟩
      · exact .inl ((HF.out _).2 (.inr (.inl (e2 ▸ hk))))
      · rw [e2] at hk
        injection hk with hk
        exact .inr (by omega)
    · by_cases hi : i < os.length
      · rw [List.getElem?_append_left hi] at ho
        exact .inl ((HF.out _).2 (.inr (.inr ⟨i, o, ho, hk⟩)))
      · rw [List.getElem?_append_right (by omega)] at ho
        cases hd : i - os.length with
        | succ n => rw [hd] at ho; simp at ho
        | zero =>
          rw [hd] at ho
          simp at ho
          subst ho
          rcases hk with rfl | rfl
          · exact .inr (by simp only; omega)
          · exact .inr hr

/-- A row of integers that was told, laid since w; and the error. -/
def ToldInts (w w' : World) (e : Ending) (l : List Int) (en : Int) : Prop :=
  ∃ A cap G, e = .returned (.tuple #[.slice A l.length cap, .int .i64 en]) ∧ Sl w' 3 1 A l.length cap (ints l) G ∧ ∀ g, G = some g → w.heap.size ≤ g
theorem ToldInts.no (w w' : World) (en : Int) : ToldInts w w' (.returned (.tuple #[.slice none 0 0, .int .i64 en])) [] en := ⟨_, _, _, rfl, Sl.nil _ _ _, own_none⟩

theorem ring_take_at (b m : Nat) (q : List Int) (k : Nat) (w : World) (h : RingQ w b m (q.drop k)) :
    Calls Try.prog 62 #[.pointer (some ⟨b, 0, none⟩)] w fun e w' => e = .returned (.tuple #[.int .i64 (q.getD k 0), .bool (decide (k < q.length))]) ∧ RingQ w' b m (q.drop (k + 1)) ∧ Tch (· = b) w w' := by
  by_cases hk : k < q.length
  · rw [List.drop_eq_getElem_cons hk] at h
    refine (ring_take_yes b m _ _ w h).mono ?_
    rintro e w' ⟨rfl, h1, h2⟩
    refine ⟨?_, h1, h2⟩
    rw [List.getD_eq_getElem?_getD, List.getElem?_eq_getElem hk, decide_eq_true hk]
    rfl
  · rw [List.drop_of_length_le (by omega)] at h
    refine (ring_take_no b m w h).mono ?_
    rintro e w' ⟨rfl, rfl⟩
    rw [List.drop_of_length_le (by omega), List.getD_eq_getElem?_getD, List.getElem?_eq_none (by omega), decide_eq_false hk]
    exact ⟨rfl, h, Tch.refl _ _⟩

set_option maxHeartbeats 1000000 in
theorem promise_settle (b : Nat) (l : List Pr) (F : Nat → Prop) (id value : Int) (w : World) (h : PrsQ w b l F) :
    Calls Try.prog 50 #[.pointer (some ⟨b, 0, none⟩), .int .i64 id, .int .i64 value] w fun e w' =>
      ToldInts w w' e (settleM l id value).2.1 (settleM l id value).2.2 ∧ PrsQ w' b (settleM l id value).1 F ∧ Tch F w w' := by
  unfold settleM
  cases hp : prOf l id with
  | none =>
    have hid := prOf_none hp
    clear hp
    go_enter Try.func50, Try.ntmps50
    go_wp2_with fail
    refine (promise_find_no b l F id w h hid).mono ?_
    clear hid
    rintro e w' ⟨rfl, rfl⟩
    go_wp2
    go_ret2
    exact ⟨ToldInts.no _ _ _, h, Tch.refl _ _⟩
  | some x =>
    obtain ⟨i, rfl, hx⟩ := prOf_some hp
    obtain ⟨os, A, cap, G, hP, hF⟩ := h
    obtain ⟨o, ho, hpr⟩ := hP.get hx
    have hc0 := hpr.blk.cellOf 0 _ rfl
    have hc1 := hpr.blk.cellOf 1 _ rfl
    have hc2 := hpr.blk.cellOf 2 _ rfl
    have hf1 := hpr.blk.free 1
    have hf2 := hpr.blk.free 2
    have hfind := promise_find_yes b l os A cap G i o w hP ho
    have HO := Lib.hid ho
    have HF := Lib.hid hF
    have HP := Lib.hid hP
    obtain ⟨told, val, q⟩ := x
    obtain ⟨p, r⟩ := o
    clear hp hx ho hF hP
    dsimp only at *
    cases told with
    | true =>
      clear hpr
      go_enter Try.func50, Try.ntmps50
      go_wp2_with fail
      refine hfind.mono ?_
      clear hfind
      rintro e w0 ⟨rfl, h0⟩
      subst w0
      go_wp2
      go_ret2
      exact ⟨ToldInts.no _ _ _, ⟨os, A, cap, G, HP.out, HF.out⟩, Tch.refl _ _⟩
    | false =>
      simp only [Bool.false_eq_true, if_false, Int.toNat_natCast]
      have hpn := hpr.ne
      have hql := hpr.ring.le
      have HB : Hid (∀ w2, w2 = (w.setCell ⟨p, 1, none⟩ (.bool true)).setCell ⟨p, 2, none⟩ (.int .i64 value) → Blk w2 p 105 [.pointer (some ⟨r, 0, none⟩), .bool true, .int .i64 value] ∧ RingQ w2 r 256 q ∧ Tch (· = p) w w2) := Lib.hid (by
        rintro w2 rfl
        have hT : Tch (· = p) w ((w.setCell ⟨p, 1, none⟩ (.bool true)).setCell ⟨p, 2, none⟩ (.int .i64 value)) := ((Tch.refl (· = p) w).setCell (p := ⟨p, 1, none⟩) (fun _ => rfl) _).setCell (p := ⟨p, 2, none⟩) (fun _ => rfl) _
        exact ⟨(hpr.blk.set 1 (.bool true)).set 2 (.int .i64 value), hpr.ring.keep hT (Ne.symm hpn), hT⟩)
      have hlr := hpr.ring.lt
      have hlp := hpr.blk.lt
      clear hpr
      go_enter Try.func50, Try.ntmps50
      go_wp2_with fail
      refine hfind.mono ?_
      clear hfind
      rintro e w0 ⟨rfl, h0⟩
      subst w0
      go_wp2_with fail
      obtain ⟨hb2, hr2, hT2⟩ := HB.out _ rfl
      clear HB hc0 hc1 hc2 hf1 hf2
      refine (ring_take_at r 256 q 0 _ hr2).mono ?_
      rintro e w3 ⟨rfl, hr3, hT3⟩
      have hb3 := hb2.keep hT3 hpn
      have hT03 : Tch (fun k => k = p ∨ k = r) w w3 := (hT2.mono (fun _ _ h => .inl h)).trans (hT3.mono (fun _ _ h => .inr h))
      clear hr2 hT3 hb2 hT2
      go_wp2_with fail
      go_loopw [9, 10, 11] (fun x v t wr => ∃ (k : Nat) (A2 : Option Addr) (c2 : Nat) (G2 : Option Nat) (tt : Bool), x = .slice A2 k c2 ∧ v = .int .i64 (q.getD k 0) ∧ t = .bool tt ∧ tt = decide (k < q.length) ∧ k ≤ q.length ∧ Sl wr 3 1 A2 k c2 (ints (q.take k)) G2 ∧ (∀ g, G2 = some g → w.heap.size ≤ g) ∧
        RingQ wr r 256 (q.drop (k + 1)) ∧ Blk wr p 105 [.pointer (some ⟨r, 0, none⟩), .bool true, .int .i64 value] ∧ Tch (fun k => k = p ∨ k = r) w wr) (fun x _ _ _ => match x with | .slice _ n _ => 256 - n | _ => 0)
      case atStart => exact ⟨0, none, 0, none, _, rfl, rfl, rfl, rfl, Nat.zero_le _, Sl.nil _ _ _, own_none, hr3, hb3, hT03⟩
      case round =>
        clear hr3 hb3 hT03
        obtain ⟨k, A2, c2, G2, tt, rfl, rfl, rfl, htt, hk, hS, hG, hR, hB, hT⟩ := hrel
        have HG := Lib.hid hG
        have HT := Lib.hid hT
        have hc0 := hB.cellOf 0 _ rfl
        clear hG hT
        by_cases hlt : k < q.length
        · obtain rfl : tt = true := by rw [htt]; simp [hlt]
          have HK := Lib.hid (show ints (q.take (k + 1)) = ints (q.take k) ++ [.int .i64 (q.getD k 0)] by rw [take_snoc q k hlt]; simp [ints])
          clear htt
          have hkl : q.length ≤ 256 := hql
          generalize q.getD k 0 = v at *
          have hca := fun o => (hB.alloc o).cellOf 0 _ rfl
          go_wp2_with (at_builtin; refine wpList_app _ rfl (.tmp 47) (.tmp 49) 45 rfl 3 (.int .i64 0) 1 8 Try.underlying45 infoInt rfl (by decide) (by decide) _ _ _ _ _ _ _ _ _ rfl rfl (hS.alloc _) (Src.made wr 3 #[.int .i64 v] 1 rfl) (ints_one [v]) (by omega) ?_; intro A3 c3 w4 G3 hs3 ht3 hg3; have HS3 := Lib.hid hs3; have T3 : Hid (Tch (fun k => G2 = some k) wr w4) := Lib.hid (Tch.then ((Tch.refl _ wr).alloc _) ht3 (fun _ _ h => h)); have N3 := Lib.hid (own_from (Nat.le_trans HT.out.size (by simp)) HG.out hg3); have hnp : ∀ k, k < w.heap.size → G2 ≠ some k := (fun k hk e => absurd (HG.out k e) (by omega)); have hB4 := hB.keep T3.out (hnp p hlp); have hR4 := hR.keep T3.out (hnp r hlr); have hc04 := hB4.cellOf 0 _ rfl; have HN := Lib.hid hnp; clear ht3 hg3 hs3 hnp)
          refine (ring_take_at r 256 q (k + 1) _ hR4).mono ?_
          rintro e w5 ⟨rfl, hr5, hT5⟩
          have hB5 := hB4.keep hT5 hpn
          have hG3r : ∀ g, G3 = some g → g ≠ r := fun g hg e => by have := N3.out g hg; omega
          have HS5 := Lib.hid (HS3.out.keep hT5 hG3r)
          have T05 := Lib.hid ((HT.out.then T3.out (fun k hk e => absurd e (HN.out k hk))).trans (hT5.mono (fun _ _ h => .inr h)))
          clear hG3r hT5 hB hB4 hR hR4 hS
          go_wp2
          go_roundw
          case rel => exact ⟨k + 1, A3, c3, G3, _, rfl, rfl, rfl, rfl, by omega, by rw [HK.out]; exact HS5.out, N3.out, hr5, hB5, T05.out⟩
          case measure => simp; omega
        · obtain rfl : tt = false := by rw [htt]; simp; omega
          have HK := Lib.hid (show k = q.length by omega)
          clear htt
          go_wp2
          go_ret2
          have hkq := HK.out
          subst hkq
          rw [List.take_length] at hS
          rw [List.drop_of_length_le (by omega)] at hR
          exact ⟨⟨A2, c2, G2, rfl, hS, HG.out⟩, ⟨os, A, cap, G, HP.out.set i (p, r) HO.out _ ⟨hB, hR, hpn⟩ HT.out, HF.out⟩, HT.out.mono (fun k _ e => (HF.out k).2 (.inr (.inr ⟨i, (p, r), HO.out, e⟩)))⟩

theorem promise_settle_nil (id value : Int) (w : World) :
    Calls Try.prog 50 #[.pointer none, .int .i64 id, .int .i64 value] w fun e w' => e = .returned (.tuple #[.slice none 0 0, .int .i64 2]) ∧ w' = w := by
  go_enter Try.func50, Try.ntmps50
  go_wp2_with fail
  refine (promise_find_nil id w).mono ?_
  rintro e w' ⟨rfl, rfl⟩
  go_wp2
  go_ret2
  exact ⟨rfl, rfl⟩
theorem promise_then_nil (id react : Int) (w : World) :
    Calls Try.prog 39 #[.pointer none, .int .i64 id, .int .i64 react] w fun e w' => e = .returned (.tuple #[.int .i64 0, .bool false, .int .i64 2]) ∧ w' = w := by
  go_enter Try.func39, Try.ntmps39
  go_wp2_with fail
  refine (promise_find_nil id w).mono ?_
  rintro e w' ⟨rfl, rfl⟩
  go_wp2
  go_ret3
  exact ⟨rfl, rfl⟩
theorem promise_value_nil (id : Int) (w : World) :
    Calls Try.prog 36 #[.pointer none, .int .i64 id] w fun e w' => e = .returned (.tuple #[.int .i64 0, .bool false, .int .i64 2]) ∧ w' = w := by
  go_enter Try.func36, Try.ntmps36
  go_wp2_with fail
  refine (promise_find_nil id w).mono ?_
  rintro e w' ⟨rfl, rfl⟩
  go_wp2
  go_ret3
  exact ⟨rfl, rfl⟩
theorem promise_waits_nil (id : Int) (w : World) :
    Calls Try.prog 37 #[.pointer none, .int .i64 id] w fun e w' => e = .returned (.int .i64 0) ∧ w' = w := by
  go_enter Try.func37, Try.ntmps37
  go_wp2_with fail
  refine (promise_find_nil id w).mono ?_
  rintro e w' ⟨rfl, rfl⟩
  go_wp2
  go_ret
  exact ⟨rfl, rfl⟩
theorem promise_make_nil (w : World) :
    Calls Try.prog 35 #[.pointer none] w fun e w' => e = .returned (.tuple #[.int .i64 0, .int .i64 2]) ∧ w' = w := by
  go_enter Try.func35, Try.ntmps35
  go_wp2
  go_ret2
  exact ⟨rfl, rfl⟩
end Go.Proofs.Ytipbimbnpikbcaa
