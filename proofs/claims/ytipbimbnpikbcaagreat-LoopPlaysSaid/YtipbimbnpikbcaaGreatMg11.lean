import Derived.Test.YtipbimbnpikbcaaGreatMg04
/- Make and Settle of promises; a nil table. -/
namespace Go.Proofs.YtipbimbnpikbcaaGreat
open Go.RowKit

theorem PrsAt.grow {w w3 : World} {b : Nat} {l : List Pr} {os : List (Nat × Nat)} {A : Option Addr} {cap : Nat} {G : Option Nat} (h : PrsAt w b l os A cap G) {A2 : Option Addr} {c2 p r : Nat} {G2 : Option Nat} {x : Pr} (hl : l.length < 512) (hr : w.heap.size ≤ r) (hrp : r < p)
    (T : Tch (fun k => k = b ∨ G = some k) w w3) (hb : Blk w3 b 94 [.slice A2 (l.length + 1) c2]) (hs : Sl w3 134 1 A2 (l.length + 1) c2 (ptrs os ++ [.pointer (some ⟨p, 0, none⟩)]) G2) (hp : PrAt w3 p r x) (hG : G2 = G ∨ ∃ g, G2 = some g ∧ p < g) :
    PrsAt w3 b (l ++ [x]) (os ++ [(p, r)]) A2 c2 G2 := by
  have hlb := h.blk.lt
  have hlo : ∀ (i : Nat) (o : Nat × Nat), os[i]? = some o → o.1 < w.heap.size ∧ o.2 < w.heap.size := fun i o ho => ⟨h.lt o.1 (.inr (.inr ⟨i, o, ho, .inl rfl⟩)), h.lt o.2 (.inr (.inr ⟨i, o, ho, .inr rfl⟩))⟩
  have hlG : ∀ g, G = some g → g < w.heap.size := fun g hg => h.sl.lt g hg
  have hsplit : ∀ (i : Nat) (o : Nat × Nat), (os ++ [(p, r)])[i]? = some o → os[i]? = some o ∨ (i = os.length ∧ o = (p, r)) := by
    intro i o ho
    by_cases hi : i < os.length
    · rw [List.getElem?_append_left hi] at ho
      exact .inl ho
    · right
      rw [List.getElem?_append_right (by omega)] at ho
      cases hd : i - os.length with
      | zero => rw [hd] at ho; simp at ho; exact ⟨by omega, ho.symm⟩
      | succ n => rw [hd] at ho; simp at ho
  have hG2 : ∀ k, k < w.heap.size → G ≠ some k → G2 ≠ some k := by
    intro k hk hne e
    rcases hG with e2 | ⟨g, e2, hg⟩
    · exact hne (e2 ▸ e)
    · rw [e2] at e
      injection e with e
      omega
  have hGn : ∀ k, w.heap.size ≤ k → k ≤ p → G2 ≠ some k := by
    intro k hk hkp e
    rcases hG with e2 | ⟨g, e2, hg⟩
    · have := hlG k (e2 ▸ e)
      omega
    · rw [e2] at e
      injection e with e
      omega
  refine ⟨by rw [List.length_append]; exact hb, by rw [List.length_append, ptrs, List.map_append]; exact hs, by simp [h.len], fun i o y ho hy => ?_, fun i j o u ho hu hij => ?_, fun i o ho => ?_, hG2 b hlb h.gb, by simp; omega⟩
  · rcases hsplit i o ho with h1 | ⟨rfl, rfl⟩
    · have hi := (List.getElem?_eq_some_iff.1 h1).1
      rw [List.getElem?_append_left (by rw [← h.len]; exact hi)] at hy
      obtain ⟨n1, n2, n3, n4⟩ := h.ne i o h1
      exact (h.at_ i o y h1 hy).keep T (fun e => by rcases e with e | e; exact n1 e; exact n3 e) (fun e => by rcases e with e | e; exact n2 e; exact n4 e)
    · rw [List.getElem?_append_right (by rw [h.len]; exact Nat.le_refl _), h.len, Nat.sub_self] at hy
      simp at hy
      subst hy
      exact hp
  · rcases hsplit i o ho with h1 | ⟨rfl, rfl⟩
    · rcases hsplit j u hu with h2 | ⟨rfl, rfl⟩
      · exact h.apart i j o u h1 h2 hij
      · have := hlo i o h1
        exact ⟨by simp only; omega, by simp only; omega, by simp only; omega, by simp only; omega⟩
    · rcases hsplit j u hu with h2 | ⟨rfl, rfl⟩
      · have := hlo j u h2
        exact ⟨by simp only; omega, by simp only; omega, by simp only; omega, by simp only; omega⟩
      · exact absurd rfl hij
  · rcases hsplit i o ho with h1 | ⟨rfl, rfl⟩
    · obtain ⟨n1, n2, n3, n4⟩ := h.ne i o h1
      have := hlo i o h1
      exact ⟨n1, n2, hG2 _ this.1 n3, hG2 _ this.2 n4⟩
    · exact ⟨by simp only; omega, by simp only; omega, hGn _ (by simp only; omega) (by simp only; omega), hGn _ (by simp only; omega) (by simp only; omega)⟩

set_option maxRecDepth 100000 in
theorem promise_make (b : Nat) (l : List Pr) (F : Nat → Prop) (w : World) (h : PrsQ w b l F) :
    Calls Tryz.prog 56 #[.pointer (some ⟨b, 0, none⟩)] w fun e w' => e = .returned (.tuple #[.int .i64 (makeM l).2.1, .int .i64 (makeM l).2.2]) ∧ Tch F w w' ∧ ∃ F', PrsQ w' b (makeM l).1 F' ∧ ∀ k, F' k → F k ∨ w.heap.size ≤ k := by
  have h0 := h
  obtain ⟨os, A, cap, G, hP, hF⟩ := h
  have hc := hP.blk.cellOf 0 _ rfl
  have hle := hP.le
  unfold makeM
  by_cases hl : 512 ≤ l.length
  · simp only [if_pos hl]
    have HF := Lib.hid hF
    clear hF
    go_enter Tryz.func56, Tryz.ntmps56
    go_wp2
    go_ret2
    exact ⟨rfl, Tch.refl _ _, F, h0, fun _ h => .inl h⟩
  · simp only [if_neg hl]
    have HP := Lib.hid hP
    have HF := Lib.hid hF
    have hsl := hP.sl
    have hlb := hP.blk.lt
    clear hF hP h0
    go_enter Tryz.func56, Tryz.ntmps56
    go_wp2_with fail
    refine (ring_new_yes 256 w (by omega) (by omega)).mono ?_
    rintro e w1 ⟨r, rfl, hr, hR, hT⟩
    have hc1 := hT.cell' hc (fun h => h)
    have hs1 := hsl.keep hT (fun _ _ h => h)
    have hz1 := hT.size
    have hrl := hR.lt
    have hca : ∀ o, (w1.alloc o).cell? ⟨b, 0, none⟩ = some (.slice A l.length cap) := fun o => ((Tch.refl NoBlk w1).alloc o).cell' hc1 (fun h => h)
    go_wp2_with (at_builtin; refine wpList_app _ rfl (.tmp 27) (.tmp 31) 92 rfl 134 (.pointer none) 1 8 Tryz.underlying92 infoPtr rfl (by decide) (by decide) _ _ _ _ _ _ _ _ _ rfl rfl ((hs1.alloc _).alloc _) (Src.madeAt (w1.alloc (.cells #[.pointer (some ⟨r, 0, none⟩), .bool false, .int .i64 0] 136)) 134 #[.pointer (some ⟨w1.heap.size, 0, none⟩)] 1 (w1.heap.size + 1) (World.size_alloc _ _) rfl) (ptrs_one [(w1.heap.size, r)]) (by omega) ?_; intro A2 c2 w2 G2 hs2 ht2 hg2; have HT2 := Lib.hid ht2; have HG2 := Lib.hid hg2; have HS2 := Lib.hid hs2; have T2 : Hid (Tch (fun k => G = some k) w1 w2) := Lib.hid (Tch.trans (((Tch.refl _ w1).alloc _).alloc _) ht2); have hb2 := (HP.out.blk.keep hT (fun h => h)).keep T2.out HP.out.gb; have hf2 := hb2.free 0; have hc20 := hb2.cellOf 0 _ rfl; clear ht2 hg2 hs2)
    go_ret2
    have hS : Tch (· = b) w2 (w2.setCell ⟨b, 0, none⟩ (.slice A2 (l.length + 1) c2)) := (Tch.refl (· = b) w2).setCell (p := ⟨b, 0, none⟩) (fun _ => rfl) _
    have hlG : ∀ g, G = some g → g < w1.heap.size := fun g hg => hs1.lt g hg
    have hG2 : G2 = G ∨ ∃ g, G2 = some g ∧ w1.heap.size < g := by
      rcases HG2.out with e | ⟨g, e, hg⟩
      · exact .inl e
      · simp at hg
        exact .inr ⟨g, e, by omega⟩
    have hT13 : Tch (fun k => k = b ∨ G = some k) w (w2.setCell ⟨b, 0, none⟩ (.slice A2 (l.length + 1) c2)) := ((hT.mono (fun _ _ h => h.elim)).trans (T2.out.mono (fun _ _ h => .inr h))).trans (hS.mono (fun _ _ h => .inl h))
    have hpr : PrAt (w2.setCell ⟨b, 0, none⟩ (.slice A2 (l.length + 1) c2)) w1.heap.size r ⟨false, 0, []⟩ := by
      refine ⟨?_, ?_, by omega⟩
      · have h1 := (Blk.new w1 136 [.pointer (some ⟨r, 0, none⟩), .bool false, .int .i64 0]).alloc (.cells #[.pointer (some ⟨w1.heap.size, 0, none⟩)] 134)
        exact (h1.keep HT2.out (fun e => by have := hlG _ e; omega)).keep hS (by omega)
      · exact (hR.keep T2.out (fun e => by have := hsl.lt _ e; omega)).keep hS (by omega)
    have hb3 : Blk (w2.setCell ⟨b, 0, none⟩ (.slice A2 (l.length + 1) c2)) b 94 [.slice A2 (l.length + 1) c2] := hb2.set 0 _
    have hs3 := HS2.out.keep hS (fun g hg e => by
      subst e
      rcases hG2 with e2 | ⟨g', e2, hg'⟩
      · exact HP.out.gb (e2 ▸ hg)
      · rw [e2] at hg
        injection hg with hg
        omega)
    have hgrow := HP.out.grow (x := ⟨false, 0, []⟩) (by omega) hr hrl hT13 hb3 hs3 hpr hG2
    refine ⟨rfl, hT13.mono (fun k _ hk => (HF.out k).2 (by rcases hk with hk | hk; exact .inl hk; exact .inr (.inl hk))), PrsIn b (os ++ [(w1.heap.size, r)]) G2, ⟨_, _, _, _, hgrow, fun k => Iff.rfl⟩, fun k hk => ?_⟩
    rcases hk with rfl | hk | ⟨i, o, ho, hk⟩
    · exact .inl ((HF.out _).2 (.inl rfl))
    · rcases hG2 with e2 | ⟨g', e2, hg'⟩
      · exact .inl ((HF.out _).2 (.inr (.inl (e2 ▸ hk))))
      · rw [e2] at hk
        injection hk with hk
        exact .inr (by omega)
    · by_cases hi : i < os.length
      · rw [List.getElem?_append_left hi] at ho
        exact .inl ((HF.out _).2 (.inr (.inr ⟨i, o, ho, hk⟩)))
      · rw [List.getElem?_append_right (by omega)] at ho
        cases hd : i - os.length with
        | succ n => rw [hd] at ho; simp at ho
        | zero =>
          rw [hd] at ho
          simp at ho
          subst ho
          rcases hk with rfl | rfl
          · exact .inr (by simp only; omega)
          · exact .inr hr

/-- A row of integers that was told, laid since w; and the error. -/
def ToldInts (w w' : World) (e : Ending) (l : List Int) (en : Int) : Prop :=
  ∃ A cap G, e = .returned (.tuple #[.slice A l.length cap, .int .i64 en]) ∧ Sl w' 3 1 A l.length cap (ints l) G ∧ ∀ g, G = some g → w.heap.size ≤ g
theorem ToldInts.no (w w' : World) (en : Int) : ToldInts w w' (.returned (.tuple #[.slice none 0 0, .int .i64 en])) [] en := ⟨_, _, _, rfl, Sl.nil _ _ _, own_none⟩

theorem ring_take_at (b m : Nat) (q : List Int) (k : Nat) (w : World) (h : RingQ w b m (q.drop k)) :
    Calls Tryz.prog 85 #[.pointer (some ⟨b, 0, none⟩)] w fun e w' => e = .returned (.tuple #[.int .i64 (q.getD k 0), .bool (decide (k < q.length))]) ∧ RingQ w' b m (q.drop (k + 1)) ∧ Tch (· = b) w w' := by
  by_cases hk : k < q.length
  · rw [List.drop_eq_getElem_cons hk] at h
    refine (ring_take_yes b m _ _ w h).mono ?_
    rintro e w' ⟨rfl, h1, h2⟩
    refine ⟨?_, h1, h2⟩
    rw [List.getD_eq_getElem?_getD, List.getElem?_eq_getElem hk, decide_eq_true hk]
    rfl
  · rw [List.drop_of_length_le (by omega)] at h
    refine (ring_take_no b m w h).mono ?_
    rintro e w' ⟨rfl, rfl⟩
    rw [List.drop_of_length_le (by omega), List.getD_eq_getElem?_getD, List.getElem?_eq_none (by omega), decide_eq_false hk]
    exact ⟨rfl, h, Tch.refl _ _⟩

set_option maxHeartbeats 1000000 in
theorem promise_settle (b : Nat) (l : List Pr) (F : Nat → Prop) (id value : Int) (w : World) (h : PrsQ w b l F) :
    Calls Tryz.prog 57 #[.pointer (some ⟨b, 0, none⟩), .int .i64 id, .int .i64 value] w fun e w' =>
      ToldInts w w' e (settleM l id value).2.1 (settleM l id value).2.2 ∧ PrsQ w' b (settleM l id value).1 F ∧ Tch F w w' := by
  unfold settleM
  cases hp : prOf l id with
  | none =>
    have hid := prOf_none hp
    clear hp
    go_enter Tryz.func57, Tryz.ntmps57
    go_wp2_with fail
    refine (promise_find_no b l F id w h hid).mono ?_
    clear hid
    rintro e w' ⟨rfl, rfl⟩
    go_wp2
    go_ret2
    exact ⟨ToldInts.no _ _ _, h, Tch.refl _ _⟩
  | some x =>
    obtain ⟨i, rfl, hx⟩ := prOf_some hp
    obtain ⟨os, A, cap, G, hP, hF⟩ := h
    obtain ⟨o, ho, hpr⟩ := hP.get hx
    have hc0 := hpr.blk.cellOf 0 _ rfl
    have hc1 := hpr.blk.cellOf 1 _ rfl
    have hc2 := hpr.blk.cellOf 2 _ rfl
    have hf1 := hpr.blk.free 1
    have hf2 := hpr.blk.free 2
    have hfind := promise_find_yes b l os A cap G i o w hP ho
    have HO := Lib.hid ho
    have HF := Lib.hid hF
    have HP := Lib.hid hP
    obtain ⟨told, val, q⟩ := x
    obtain ⟨p, r⟩ := o
    clear hp hx ho hF hP
    dsimp only at *
    cases told with
    | true =>
      clear hpr
      go_enter Tryz.func57, Tryz.ntmps57
      go_wp2_with fail
      refine hfind.mono ?_
      clear hfind
      rintro e w0 ⟨rfl, h0⟩
      subst w0
      go_wp2
      go_ret2
      exact ⟨ToldInts.no _ _ _, ⟨os, A, cap, G, HP.out, HF.out⟩, Tch.refl _ _⟩
    | false =>
      simp only [Bool.false_eq_true, if_false, Int.toNat_natCast]
      have hpn := hpr.ne
      have hql := hpr.ring.le
      have HB : Hid (∀ w2, w2 = (w.setCell ⟨p, 1, none⟩ (.bool true)).setCell ⟨p, 2, none⟩ (.int .i64 value) → Blk w2 p 136 [.pointer (some ⟨r, 0, none⟩), .bool true, .int .i64 value] ∧ RingQ w2 r 256 q ∧ Tch (· = p) w w2) := Lib.hid (by
        rintro w2 rfl
        have hT : Tch (· = p) w ((w.setCell ⟨p, 1, none⟩ (.bool true)).setCell ⟨p, 2, none⟩ (.int .i64 value)) := ((Tch.refl (· = p) w).setCell (p := ⟨p, 1, none⟩) (fun _ => rfl) _).setCell (p := ⟨p, 2, none⟩) (fun _ => rfl) _
        exact ⟨(hpr.blk.set 1 (.bool true)).set 2 (.int .i64 value), hpr.ring.keep hT (Ne.symm hpn), hT⟩)
      have hlr := hpr.ring.lt
      have hlp := hpr.blk.lt
      clear hpr
      go_enter Tryz.func57, Tryz.ntmps57
      go_wp2_with fail
      refine hfind.mono ?_
      clear hfind
      rintro e w0 ⟨rfl, h0⟩
      subst w0
      go_wp2_with fail
      obtain ⟨hb2, hr2, hT2⟩ := HB.out _ rfl
      clear HB hc0 hc1 hc2 hf1 hf2
      refine (ring_take_at r 256 q 0 _ hr2).mono ?_
      rintro e w3 ⟨rfl, hr3, hT3⟩
      have hb3 := hb2.keep hT3 hpn
      have hT03 : Tch (fun k => k = p ∨ k = r) w w3 := (hT2.mono (fun _ _ h => .inl h)).trans (hT3.mono (fun _ _ h => .inr h))
      clear hr2 hT3 hb2 hT2
      go_wp2_with fail
      go_loopw [9, 10, 11] (fun x v t wr => ∃ (k : Nat) (A2 : Option Addr) (c2 : Nat) (G2 : Option Nat) (tt : Bool), x = .slice A2 k c2 ∧ v = .int .i64 (q.getD k 0) ∧ t = .bool tt ∧ tt = decide (k < q.length) ∧ k ≤ q.length ∧ Sl wr 3 1 A2 k c2 (ints (q.take k)) G2 ∧ (∀ g, G2 = some g → w.heap.size ≤ g) ∧
        RingQ wr r 256 (q.drop (k + 1)) ∧ Blk wr p 136 [.pointer (some ⟨r, 0, none⟩), .bool true, .int .i64 value] ∧ Tch (fun k => k = p ∨ k = r) w wr) (fun x _ _ _ => match x with | .slice _ n _ => 256 - n | _ => 0)
      case atStart => exact ⟨0, none, 0, none, _, rfl, rfl, rfl, rfl, Nat.zero_le _, Sl.nil _ _ _, own_none, hr3, hb3, hT03⟩
      case round =>
        clear hr3 hb3 hT03
        obtain ⟨k, A2, c2, G2, tt, rfl, rfl, rfl, htt, hk, hS, hG, hR, hB, hT⟩ := hrel
        have HG := Lib.hid hG
        have HT := Lib.hid hT
        have hc0 := hB.cellOf 0 _ rfl
        clear hG hT
        by_cases hlt : k < q.length
        · obtain rfl : tt = true := by rw [htt]; simp [hlt]
          have HK := Lib.hid (show ints (q.take (k + 1)) = ints (q.take k) ++ [.int .i64 (q.getD k 0)] by rw [take_snoc q k hlt]; simp [ints])
          clear htt
          have hkl : q.length ≤ 256 := hql
          generalize q.getD k 0 = v at *
          have hca := fun o => (hB.alloc o).cellOf 0 _ rfl
          go_wp2_with (at_builtin; refine wpList_app _ rfl (.tmp 47) (.tmp 49) 52 rfl 3 (.int .i64 0) 1 8 Tryz.underlying52 infoInt rfl (by decide) (by decide) _ _ _ _ _ _ _ _ _ rfl rfl (hS.alloc _) (Src.made wr 3 #[.int .i64 v] 1 rfl) (ints_one [v]) (by omega) ?_; intro A3 c3 w4 G3 hs3 ht3 hg3; have HS3 := Lib.hid hs3; have T3 : Hid (Tch (fun k => G2 = some k) wr w4) := Lib.hid (Tch.then ((Tch.refl _ wr).alloc _) ht3 (fun _ _ h => h)); have N3 := Lib.hid (own_from (Nat.le_trans HT.out.size (by simp)) HG.out hg3); have hnp : ∀ k, k < w.heap.size → G2 ≠ some k := (fun k hk e => absurd (HG.out k e) (by omega)); have hB4 := hB.keep T3.out (hnp p hlp); have hR4 := hR.keep T3.out (hnp r hlr); have hc04 := hB4.cellOf 0 _ rfl; have HN := Lib.hid hnp; clear ht3 hg3 hs3 hnp)
          refine (ring_take_at r 256 q (k + 1) _ hR4).mono ?_
          rintro e w5 ⟨rfl, hr5, hT5⟩
          have hB5 := hB4.keep hT5 hpn
          have hG3r : ∀ g, G3 = some g → g ≠ r := fun g hg e => by have := N3.out g hg; omega
          have HS5 := Lib.hid (HS3.out.keep hT5 hG3r)
          have T05 := Lib.hid ((HT.out.then T3.out (fun k hk e => absurd e (HN.out k hk))).trans (hT5.mono (fun _ _ h => .inr h)))
          clear hG3r hT5 hB hB4 hR hR4 hS
          go_wp2
          go_roundw
          case rel => exact ⟨k + 1, A3, c3, G3, _, rfl, rfl, rfl, rfl, by omega, by rw [HK.out]; exact HS5.out, N3.out, hr5, hB5, T05.out⟩
          case measure => simp; omega
        · obtain rfl : tt = false := by rw [htt]; simp; omega
          have HK := Lib.hid (show k = q.length by omega)
          clear htt
          go_wp2
          go_ret2
          have hkq := HK.out
          subst hkq
          rw [List.take_length] at hS
          rw [List.drop_of_length_le (by omega)] at hR
          exact ⟨⟨A2, c2, G2, rfl, hS, HG.out⟩, ⟨os, A, cap, G, HP.out.set i (p, r) HO.out _ ⟨hB, hR, hpn⟩ HT.out, HF.out⟩, HT.out.mono (fun k _ e => (HF.out k).2 (.inr (.inr ⟨i, (p, r), HO.out, e⟩)))⟩

theorem promise_settle_nil (id value : Int) (w : World) :
    Calls Tryz.prog 57 #[.pointer none, .int .i64 id, .int .i64 value] w fun e w' => e = .returned (.tuple #[.slice none 0 0, .int .i64 2]) ∧ w' = w := by
  go_enter Tryz.func57, Tryz.ntmps57
  go_wp2_with fail
  refine (promise_find_nil id w).mono ?_
  rintro e w' ⟨rfl, rfl⟩
  go_wp2
  go_ret2
  exact ⟨rfl, rfl⟩
theorem promise_then_nil (id react : Int) (w : World) :
    Calls Tryz.prog 61 #[.pointer none, .int .i64 id, .int .i64 react] w fun e w' => e = .returned (.tuple #[.int .i64 0, .bool false, .int .i64 2]) ∧ w' = w := by
  go_enter Tryz.func61, Tryz.ntmps61
  go_wp2_with fail
  refine (promise_find_nil id w).mono ?_
  rintro e w' ⟨rfl, rfl⟩
  go_wp2
  go_ret3
  exact ⟨rfl, rfl⟩
theorem promise_value_nil (id : Int) (w : World) :
    Calls Tryz.prog 58 #[.pointer none, .int .i64 id] w fun e w' => e = .returned (.tuple #[.int .i64 0, .bool false, .int .i64 2]) ∧ w' = w := by
  go_enter Tryz.func58, Tryz.ntmps58
  go_wp2_with fail
  refine (promise_find_nil id w).mono ?_
  rintro e w' ⟨rfl, rfl⟩
  go_wp2
  go_ret3
  exact ⟨rfl, rfl⟩
theorem promise_waits_nil (id : Int) (w : World) :
    Calls Tryz.prog 59 #[.pointer none, .int .i64 id] w fun e w' => e = .returned (.int .i64 0) ∧ w' = w := by
  go_enter Tryz.func59, Tryz.ntmps59
  go_wp2_with fail
  refine (promise_find_nil id w).mono ?_
  rintro e w' ⟨rfl, rfl⟩
  go_wp2
  go_ret
  exact ⟨rfl, rfl⟩
theorem promise_make_nil (w : World) :
    Calls Tryz.prog 56 #[.pointer none] w fun e w' => e = .returned (.tuple #[.int .i64 0, .int .i64 2]) ∧ w' = w := by
  go_enter Tryz.func56, Tryz.ntmps56
  go_wp2
  go_ret2
  exact ⟨rfl, rfl⟩
end Go.Proofs.YtipbimbnpikbcaaGreat

/- stream.New; whether two rows of what is told are the same. -/
namespace Go.Proofs.YtipbimbnpikbcaaGreat
open Go.RowKit

theorem gots_get : ∀ (l : List (Int × Int)) (k : Nat), k < l.length → (gots l)[k * 2]? = some (.int .i64 (l.getD k (0, 0)).1) ∧ (gots l)[k * 2 + 1]? = some (.int .i64 (l.getD k (0, 0)).2)
  | [], k, h => absurd h (by simp)
  | p :: r, 0, _ => ⟨rfl, rfl⟩
  | p :: r, k + 1, h => by
    have := gots_get r k (by simpa using h)
    rw [gots_cons, show (k + 1) * 2 = k * 2 + 1 + 1 from by omega]
    exact this

/-- The first k of four rings lie at vs; the others are none. -/
def four (vs : List Nat) : List Value := vs.map (fun v => Value.pointer (some ⟨v, 0, none⟩)) ++ List.replicate (4 - vs.length) (.pointer none)
theorem four_get (vs : List Nat) (h : vs.length < 4) : (four vs)[vs.length]? = some (.pointer none) := by
  unfold four
  rw [List.getElem?_append_right (by simp), List.length_map, Nat.sub_self, List.getElem?_replicate, if_pos (by omega)]
theorem four_set (vs : List Nat) (g : Nat) (h : vs.length < 4) : (four vs).set vs.length (.pointer (some ⟨g, 0, none⟩)) = four (vs ++ [g]) := by
  unfold four
  rw [List.set_append_right _ _ (by simp)]
  simp only [List.length_map, Nat.sub_self, List.map_append, List.map_cons, List.map_nil, List.length_append, List.length_singleton]
  rw [show 4 - vs.length = (4 - (vs.length + 1)) + 1 from by omega, List.replicate_succ, List.set_cons_zero, List.append_assoc]
  rfl

/-- The row of what is made: where each ring goes, how many it may have. -/
def wants (b room : Nat) : List Value := [.pointer (some ⟨b, 0, none⟩), .int .i64 room, .pointer (some ⟨b, 1, none⟩), .int .i64 64, .pointer (some ⟨b, 2, none⟩), .int .i64 64, .pointer (some ⟨b, 3, none⟩), .int .i64 64]
def most (room k : Nat) : Nat := if k = 0 then room else 64
theorem wants_to (b room k : Nat) (h : k < 4) : (wants b room)[k * 2]? = some (.pointer (some ⟨b, k, none⟩)) := by
  match k, h with
  | 0, _ => rfl
  | 1, _ => rfl
  | 2, _ => rfl
  | 3, _ => rfl
theorem wants_most (b room k : Nat) (h : k < 4) : (wants b room)[k * 2 + 1]? = some (.int .i64 (most room k)) := by
  match k, h with
  | 0, _ => rfl
  | 1, _ => rfl
  | 2, _ => rfl
  | 3, _ => rfl

/-- While the rings are made. -/
structure Made (w0 w : World) (b t room : Nat) (vs : List Nat) : Prop where
  blk : Blk w b 139 (four vs)
  row : ∀ i u, (wants b room)[i]? = some u → w.cell? ⟨t, i, none⟩ = some u
  bt : b ≠ t
  nd : vs.Nodup
  ring : ∀ k v, vs[k]? = some v → RingQ w v (most room k) [] ∧ v ≠ b ∧ v ≠ t ∧ w0.heap.size ≤ v
  bb : w0.heap.size ≤ b ∧ t < w.heap.size
  tch : Tch NoBlk w0 w

theorem Made.next {w0 w w1 w2 : World} {b t room g : Nat} {vs : List Nat} (h : Made w0 w b t room vs) (hk : vs.length < 4) (hT : Tch NoBlk w w1) (hg : w.heap.size ≤ g) (hR : RingQ w1 g (most room vs.length) [])
    (he : w2 = w1.setCell ⟨b, vs.length, none⟩ (.pointer (some ⟨g, 0, none⟩))) : Made w0 w2 b t room (vs ++ [g]) := by
  subst he
  have hb1 := h.blk.keep hT (fun h => h)
  have hlb := h.blk.lt
  have hlt : ∀ v ∈ vs, v < w.heap.size := by
    intro v hv
    obtain ⟨k, hk, hkv⟩ := List.mem_iff_getElem.1 hv
    exact (h.ring k v (by rw [List.getElem?_eq_getElem hk, hkv])).1.lt
  have hS : Tch (· = b) w1 (w1.setCell ⟨b, vs.length, none⟩ (.pointer (some ⟨g, 0, none⟩))) := (Tch.refl (· = b) w1).setCell (p := ⟨b, vs.length, none⟩) (fun _ => rfl) _
  have h0 := h.tch.size
  have h1 := hT.size
  refine ⟨?_, fun i u hu => ?_, h.bt, ?_, fun k v hv => ?_, ⟨h.bb.1, by have := h.bb.2; have := hS.size; omega⟩, ?_⟩
  · rw [← four_set _ _ hk]
    exact hb1.set _ _
  · exact hS.cell' (hT.cell' (h.row i u hu) (fun h => h)) (Ne.symm h.bt)
  · rw [List.nodup_append]
    refine ⟨h.nd, by simp, ?_⟩
    intro a ha c hc
    simp at hc
    subst hc
    have := hlt a ha
    omega
  · by_cases hkl : k < vs.length
    · rw [List.getElem?_append_left hkl] at hv
      obtain ⟨r1, r2, r3, r4⟩ := h.ring k v hv
      exact ⟨(r1.keep hT (fun h => h)).keep hS r2, r2, r3, r4⟩
    · rw [List.getElem?_append_right (by omega)] at hv
      have hk0 : k - vs.length = 0 := by
        cases hd : k - vs.length with
        | zero => rfl
        | succ n => rw [hd] at hv; simp at hv
      rw [hk0] at hv
      simp at hv
      subst hv
      have hkk : k = vs.length := by omega
      subst hkk
      have hgb : g ≠ b := by omega
      exact ⟨hR.keep hS hgb, hgb, by have := h.bb.2; omega, by omega⟩
  · exact (h.tch.trans hT).then hS (fun i hi e => by have := h.bb.1; omega)

theorem Made.done {w0 w : World} {b t room : Nat} {vs : List Nat} (h : Made w0 w b t room vs) (hl : vs.length = 4) : ∃ F, StreamQ w b room ⟨[], [], []⟩ F ∧ ∀ i, F i → w0.heap.size ≤ i := by
  obtain ⟨v, r, k, s, rfl⟩ : ∃ v r k s, vs = [v, r, k, s] := by
    match vs, hl with
    | [v, r, k, s], _ => exact ⟨v, r, k, s, rfl⟩
  obtain ⟨a1, a2, _, a4⟩ := h.ring 0 v rfl
  obtain ⟨b1, b2, _, b4⟩ := h.ring 1 r rfl
  obtain ⟨c1, c2, _, c4⟩ := h.ring 2 k rfl
  obtain ⟨d1, d2, _, d4⟩ := h.ring 3 s rfl
  have hn := h.nd
  simp only [List.nodup_cons, List.mem_cons, List.not_mem_nil, or_false, not_or, not_false_eq_true, List.nodup_nil, and_true] at hn
  obtain ⟨⟨m1, m2, m3⟩, ⟨m4, m5⟩, m6⟩ := hn
  refine ⟨fun i => i = b ∨ i = v ∨ i = r ∨ i = k ∨ i = s, ⟨v, r, k, s, ⟨h.blk, a1, b1, c1, d1, Ne.symm a2, Ne.symm b2, Ne.symm c2, Ne.symm d2, m1, m2, m3, m4, m5, m6⟩, fun i => Iff.rfl⟩, fun i hi => ?_⟩
  rcases hi with rfl | rfl | rfl | rfl | rfl
  · exact h.bb.1
  · exact a4
  · exact b4
  · exact c4
  · exact d4

theorem stream_new_no (m : Int) (w : World) (h : m < 1 ∨ 32 < m) :
    Calls Tryz.prog 62 #[.int .i64 m] w fun e w' => e = .returned (.tuple #[.pointer none, .int .i64 1]) ∧ w' = w := by
  by_cases h1 : m < 1
  · go_enter Tryz.func62, Tryz.ntmps62
    go_wp2
    go_ret2
    exact ⟨rfl, rfl⟩
  · have h2 : 32 < m := by omega
    clear h
    go_enter Tryz.func62, Tryz.ntmps62
    go_wp2
    go_ret2
    exact ⟨rfl, rfl⟩

theorem stream_new_yes (room : Nat) (w : World) (h1 : 1 ≤ room) (h2 : room ≤ 32) :
    Calls Tryz.prog 62 #[.int .i64 room] w fun e w' => ∃ b F, e = .returned (.tuple #[.pointer (some ⟨b, 0, none⟩), .int .i64 0]) ∧ StreamQ w' b room ⟨[], [], []⟩ F ∧ (∀ i, F i → w.heap.size ≤ i) ∧ Tch NoBlk w w' := by
  have hd1 : decide ((room : Int) < 1) = false := by simp; omega
  have hd2 : decide ((32 : Int) < (room : Int)) = false := by simp; omega
  go_enter Tryz.func62, Tryz.ntmps62
  go_wp2_with fail
  have hbA : Blk (w.alloc (.cells #[.pointer none, .pointer none, .pointer none, .pointer none] 139)) w.heap.size 139 (four []) := heap_alloc_new w _
  have hTA := (Tch.refl NoBlk w).alloc (.cells #[.pointer none, .pointer none, .pointer none, .pointer none] 139)
  generalize hb : w.heap.size = b at *
  generalize w.alloc (.cells #[.pointer none, .pointer none, .pointer none, .pointer none] 139) = wA at *
  go_region
  have hM : Made w (wA.alloc (.cells #[.pointer (some ⟨b, 0, none⟩), .int .i64 room, .pointer (some ⟨b, 1, none⟩), .int .i64 64, .pointer (some ⟨b, 2, none⟩), .int .i64 64, .pointer (some ⟨b, 3, none⟩), .int .i64 64] 141)).drew b wA.heap.size room [] := by
    have hN := ((Tch.refl NoBlk wA).alloc (.cells #[.pointer (some ⟨b, 0, none⟩), .int .i64 room, .pointer (some ⟨b, 1, none⟩), .int .i64 64, .pointer (some ⟨b, 2, none⟩), .int .i64 64, .pointer (some ⟨b, 3, none⟩), .int .i64 64] 141)).drew
    have hR : Blk (wA.alloc (.cells #[.pointer (some ⟨b, 0, none⟩), .int .i64 room, .pointer (some ⟨b, 1, none⟩), .int .i64 64, .pointer (some ⟨b, 2, none⟩), .int .i64 64, .pointer (some ⟨b, 3, none⟩), .int .i64 64] 141)).drew wA.heap.size 141 (wants b room) := heap_alloc_new wA _
    have hl := hbA.lt
    refine ⟨hbA.keep hN (fun h => h), fun i u hu => hR.cellOf i u hu, by omega, List.nodup_nil, fun k v hv => by simp at hv, ⟨by omega, hR.lt⟩, hTA.trans hN⟩
  go_wp2_with fail
  generalize (wA.alloc (.cells #[.pointer (some ⟨b, 0, none⟩), .int .i64 room, .pointer (some ⟨b, 1, none⟩), .int .i64 64, .pointer (some ⟨b, 2, none⟩), .int .i64 64, .pointer (some ⟨b, 3, none⟩), .int .i64 64] 141)).drew = wB at *
  generalize wA.heap.size = t at *
  clear hTA hbA hb
  go_loopw [36] (fun i wr => ∃ (k : Nat) (vs : List Nat), i = .int .i64 k ∧ k ≤ 4 ∧ vs.length = k ∧ Made w wr b t room vs) (fun i _ => 4 - (intOf i).toNat)
  case atStart => exact ⟨0, [], rfl, by omega, rfl, hM⟩
  case round =>
    clear hM
    obtain ⟨k, vs, rfl, hk, hl, hM⟩ := hrel
    have HL := Lib.hid hl
    by_cases hlt : k < 4
    · have hc1 := hM.row (k * 2) _ (wants_to b room k hlt)
      have hc2 := hM.row (k * 2 + 1) _ (wants_most b room k hlt)
      have hm1 : 1 ≤ most room k ∧ most room k ≤ 256 := by unfold most; split <;> omega
      go_wp2_with fail
      refine (ring_new_yes (most room k) _ hm1.1 hm1.2).mono ?_
      rintro e w5 ⟨g, rfl, hg, hR, hT⟩
      have hx := Blk.new wr 141 [.pointer (some ⟨b, k, none⟩), .int .i64 (most room k)]
      have hx5 := (hx.keep hT (fun h => h)).cellOf 0 _ rfl
      have hT5 : Tch NoBlk wr w5 := ((Tch.refl NoBlk wr).alloc _).trans hT
      have hb5 := hM.blk.keep hT5 (fun h => h)
      have hf5 := hb5.free k
      have hc5 : w5.cell? ⟨b, k, none⟩ = some (.pointer none) := hb5.cellOf k _ (hl ▸ four_get vs (by omega))
      simp only [World.size_alloc] at hg
      have HN : Hid (Made w (w5.setCell ⟨b, k, none⟩ (.pointer (some ⟨g, 0, none⟩))) b t room (vs ++ [g])) := Lib.hid (hM.next (by omega) hT5 (by omega) (by rw [hl]; exact hR) (by rw [hl]))
      clear hM hc1 hc2 hx hT hb5 hT5 hR
      go_wp2
      go_roundw
      case rel => exact ⟨k + 1, vs ++ [g], num (by omega), by omega, by simp [HL.out], HN.out⟩
      case measure => simp [intOf]; omega
    · have hk4 : k = 4 := by omega
      obtain ⟨F, h1, h2⟩ := hM.done (by omega)
      have hT := Lib.hid hM.tch
      have H1 := Lib.hid h1
      have H2 := Lib.hid h2
      clear hM h1 h2 hl HL
      go_wp2
      go_ret2
      exact ⟨b, F, rfl, H1.out, H2.out, hT.out⟩
end Go.Proofs.YtipbimbnpikbcaaGreat
