/- LoopOrder's closure: a turn, and what is to come. -/
import Derived.Test.YtipbimbnpikbcaaLoopOrd
namespace Go.Proofs.Ytipbimbnpikbcaa
open Go.RowKit
set_option linter.unusedSimpArgs false

/-- What the law knows: t micro tasks were told; ma and mi are to come; N tokens. -/
def OrdI (w0 w : World) (b zx zM zm zs zn n t : Nat) (ma mi : List Int) (N : Nat) : Prop :=
  ∃ s A1 c1 G1 A2 c2 G2, OrdAt w0 w b zx zM zm zs zn n t ma mi s A1 c1 G1 A2 c2 G2 ∧ QS s n t ma mi N ∧ t ≤ n


section
variable {w0 w : World} {b zx zM zm zs zn n t N : Nat} {ma mi : List Int}
set_option maxHeartbeats 8000000 in
set_option maxRecDepth 100000 in
theorem ord_turn (h : OrdI w0 w b zx zM zm zs zn n t ma mi N) (hn : 1 ≤ n ∧ n ≤ 64) (h1 : ma.length ≤ 1024) (h2 : mi.length ≤ 1024) :
    Calls Try.prog 28 #[.pointer (some ⟨zx, 0, none⟩), .pointer (some ⟨zM, 0, none⟩), .pointer (some ⟨zm, 0, none⟩), .pointer (some ⟨zs, 0, none⟩), .pointer (some ⟨zn, 0, none⟩)] w fun e w' =>
      e = .returned (.bool true) ∧ OrdI w0 w' b zx zM zm zs zn n (nextQ n t ma mi).1 (nextQ n t ma mi).2.1 (nextQ n t ma mi).2.2.1 N := by
  obtain ⟨s, A1, c1, G1, A2, c2, G2, hO, hQ, ht⟩ := h
  obtain ⟨s', k, e1, hQ', hk⟩ := hQ.next
  have cx := hO.x.cellOf 0 _ rfl
  obtain ⟨rr, hrr⟩ : ∃ rr, nextQ n t ma mi = rr := ⟨_, rfl⟩
  rw [hrr]
  have HRR := Lib.hid hrr
  clear hrr
  have HO := Lib.hid hO
  have HQ' := Lib.hid hQ'
  have HE1 := Lib.hid e1
  have HK := Lib.hid hk
  have HT := Lib.hid ht
  clear hO hQ' e1 hk hQ ht
  go_enter Try.func28, Try.ntmps28
  go_wp2_with fail
  refine (lpi_next HO.out.lp HE1.out).mono ?_
  rintro e w2 ⟨rfl, hI2, T2⟩
  have hO2 := HO.out.did hI2 T2
  clear hI2 T2 cx
  cases mi with
  | nil =>
    cases ma with
    | nil =>
      obtain rfl : k = none := by have := HK.out; simpa [nextQ] using this
      simp only [Option.getD_none, Option.isSome_none, tkv, tk0]
      have hO3 := hO2.nothing ((Tch.refl NoBlk w2).alloc (.cells #[.int .i64 0, .int .i64 0, .int .i64 0, .int .i64 0] 31))
      have kM := hO3.M.cellOf 0 _ rfl
      have km := hO3.m.cellOf 0 _ rfl
      have ks := hO3.sn.cellOf 0 _ rfl
      have fs := hO3.sn.free 0
      have HE := Lib.hid (hO3.since 0)
      clear hO2 hO3
      simp only [List.length_nil] at kM km
      go_wp2
      go_ret
      rw [← HRR.out]
      exact ⟨rfl, s', _, _, _, _, _, _, HE.out, HQ'.out, Nat.zero_le _⟩
    | cons g q =>
      -- a macro task is told; of micro ones [] are to come
      have hnq : nextQ n t (g :: q) ([]) = (0, q, [], some (1, g)) := rfl
      have hk1 := HK.out
      have hq1 := HQ'.out
      rw [hnq] at hk1 hq1
      have HQ1 := Lib.hid hq1
      have HNQ := Lib.hid hnq
      clear hq1 hnq HQ'
      cases k with
      | none => simp at hk1
      | some k =>
        obtain ⟨kd, fn, arg, tok⟩ := k
        simp only [Option.map_some, Option.some.injEq, Prod.mk.injEq] at hk1
        obtain ⟨rfl, rfl⟩ := hk1
        simp only [Option.getD_some, Option.isSome_some, tkv]
        have hO3 := hO2.nothing ((Tch.refl NoBlk w2).alloc (.cells #[.int .i64 1, .int .i64 fn, .int .i64 arg, .int .i64 tok] 31))
        have hbt : Blk (w2.alloc (.cells #[.int .i64 1, .int .i64 fn, .int .i64 arg, .int .i64 tok] 31)) w2.heap.size 31 [.int .i64 1, .int .i64 fn, .int .i64 arg, .int .i64 tok] := heap_alloc_new w2 _
        have p0 := hbt.cellOf 0 _ rfl
        have p1 := hbt.cellOf 1 _ rfl
        clear hO2 hbt
        have hA : ∃ g' off, A1 = some ⟨g', off, none⟩ ∧ G1 = some g' ∧ ∀ j u, (ints (fn :: q))[j]? = some u → (w2.alloc (.cells #[.int .i64 1, .int .i64 fn, .int .i64 arg, .int .i64 tok] 31)).cell? ⟨g', off + j, none⟩ = some u := hO3.r1.cells (by simp)
        obtain ⟨g', off, rfl, rfl, hc⟩ := hA
        have c0 := hc 0 _ rfl
        have kM := hO3.M.cellOf 0 _ rfl
        have km := hO3.m.cellOf 0 _ rfl
        have ks := hO3.sn.cellOf 0 _ rfl
        have kn := hO3.bn.cellOf 0 _ rfl
        have hcap := hO3.r1.cap_le
        have HO3 := Lib.hid hO3
        simp only [List.length_nil, List.length_cons, Nat.add_zero] at kM km hcap c0
        clear hO3 hc
        have i1 : (1 : Int) ≤ (q.length : Int) + 1 := by omega
        have hl1 := h1
        have hl2 := h2
        simp only [List.length_cons, List.length_nil] at hl1 hl2
        have nz : ¬ ((q.length : Int) + 1 = 0) := by omega
        have nzd : decide ((q.length : Int) + 1 = 0) = false := decide_eq_false (by omega)
        have sw : IntKind.i64.wrap (((q.length : Int) + 1)) = ((q.length : Int) + 1) := by rw [IntKind.wrap_i64]; omega
        have sp : (0 : Int) < ((q.length : Int) + 1) := by omega
        have spd : decide ((0 : Int) < ((q.length : Int) + 1)) = true := decide_eq_true (by omega)
        go_wp2_with fail
        go_quiet (fail)
        have hO4 := HO3.out.nothing ((Tch.refl NoBlk (w2.alloc (.cells #[.int .i64 1, .int .i64 fn, .int .i64 arg, .int .i64 tok] 31))).drewN nq)
        clear p0 p1 c0 kM km ks kn HO3
        generalize (w2.alloc (.cells #[.int .i64 1, .int .i64 fn, .int .i64 arg, .int .i64 tok] 31)).drewN nq = w4 at *
        have kM := hO4.M.cellOf 0 _ rfl
        have fM := hO4.M.free 0
        simp only [List.length_nil, List.length_cons, Nat.add_zero] at kM
        have HC := Lib.hid hO4.cutM
        by_cases ec : c1 = 1
        · subst ec
          obtain rfl : q = [] := List.eq_nil_of_length_eq_zero (by omega)
          have HC1 : Hid (OrdAt w0 (w4.setCell ⟨zM, 0, none⟩ (.slice (some ⟨g', off, none⟩) 0 0)) b zx zM zm zs zn n t [] ([]) s' (some ⟨g', off, none⟩) 0 (some g') A2 c2 G2) := Lib.hid HC.out
          have ks := HC1.out.sn.cellOf 0 _ rfl
          have fs := HC1.out.sn.free 0
          have HE := Lib.hid (HC1.out.since 0)
          clear HC hO4 HC1
          simp only [List.length_nil] at *
          go_wp2
          go_ret
          rw [← HRR.out, HNQ.out]
          exact ⟨rfl, s', _, _, _, _, _, _, HE.out, HQ1.out, Nat.zero_le _⟩
        · have HC1 : Hid (OrdAt w0 (w4.setCell ⟨zM, 0, none⟩ (.slice (some ⟨g', off + 1, none⟩) q.length (c1 - 1))) b zx zM zm zs zn n t q ([]) s' (some ⟨g', off + 1, none⟩) (c1 - 1) (some g') A2 c2 G2) := Lib.hid (by have := HC.out; rw [if_neg ec] at this; exact this)
          have ks := HC1.out.sn.cellOf 0 _ rfl
          have fs := HC1.out.sn.free 0
          have HE := Lib.hid (HC1.out.since 0)
          clear HC hO4 HC1
          go_wp2
          go_ret
          rw [← HRR.out, HNQ.out]
          exact ⟨rfl, s', _, _, _, _, _, _, HE.out, HQ1.out, Nat.zero_le _⟩
  | cons f r =>
    by_cases hlt : t < n
    · have hge : ¬ ((n : Int) ≤ (t : Int)) := by omega
      have hged : decide ((n : Int) ≤ (t : Int)) = false := decide_eq_false hge
      have hgn : ¬ (n ≤ t) := by omega
      have hw1 : IntKind.i64.wrap ((t : Int) + 1) = (t : Int) + 1 := by rw [IntKind.wrap_i64]; omega
      -- a micro task is told; of macro ones ma are to come
      have hnq : nextQ n t (ma) (f :: r) = (t + 1, ma, r, some (2, f)) := (by simp [nextQ, hlt])
      have hk1 := HK.out
      have hq1 := HQ'.out
      rw [hnq] at hk1 hq1
      have HQ1 := Lib.hid hq1
      have HNQ := Lib.hid hnq
      clear hq1 hnq HQ'
      cases k with
      | none => simp at hk1
      | some k =>
        obtain ⟨kd, fn, arg, tok⟩ := k
        simp only [Option.map_some, Option.some.injEq, Prod.mk.injEq] at hk1
        obtain ⟨rfl, rfl⟩ := hk1
        simp only [Option.getD_some, Option.isSome_some, tkv]
        have hO3 := hO2.nothing ((Tch.refl NoBlk w2).alloc (.cells #[.int .i64 2, .int .i64 fn, .int .i64 arg, .int .i64 tok] 31))
        have hbt : Blk (w2.alloc (.cells #[.int .i64 2, .int .i64 fn, .int .i64 arg, .int .i64 tok] 31)) w2.heap.size 31 [.int .i64 2, .int .i64 fn, .int .i64 arg, .int .i64 tok] := heap_alloc_new w2 _
        have p0 := hbt.cellOf 0 _ rfl
        have p1 := hbt.cellOf 1 _ rfl
        clear hO2 hbt
        have hA : ∃ g' off, A2 = some ⟨g', off, none⟩ ∧ G2 = some g' ∧ ∀ j u, (ints (fn :: r))[j]? = some u → (w2.alloc (.cells #[.int .i64 2, .int .i64 fn, .int .i64 arg, .int .i64 tok] 31)).cell? ⟨g', off + j, none⟩ = some u := hO3.r2.cells (by simp)
        obtain ⟨g', off, rfl, rfl, hc⟩ := hA
        have c0 := hc 0 _ rfl
        have kM := hO3.M.cellOf 0 _ rfl
        have km := hO3.m.cellOf 0 _ rfl
        have ks := hO3.sn.cellOf 0 _ rfl
        have kn := hO3.bn.cellOf 0 _ rfl
        have hcap := hO3.r2.cap_le
        have HO3 := Lib.hid hO3
        simp only [List.length_nil, List.length_cons, Nat.add_zero] at kM km hcap c0
        clear hO3 hc
        have i1 : (1 : Int) ≤ (r.length : Int) + 1 := by omega
        have hl1 := h1
        have hl2 := h2
        simp only [List.length_cons, List.length_nil] at hl1 hl2
        have nz : ¬ ((r.length : Int) + 1 = 0) := by omega
        have nzd : decide ((r.length : Int) + 1 = 0) = false := decide_eq_false (by omega)
        have sw : IntKind.i64.wrap (((ma.length : Int) + ((r.length : Int) + 1))) = ((ma.length : Int) + ((r.length : Int) + 1)) := by rw [IntKind.wrap_i64]; omega
        have sp : (0 : Int) < ((ma.length : Int) + ((r.length : Int) + 1)) := by omega
        have spd : decide ((0 : Int) < ((ma.length : Int) + ((r.length : Int) + 1))) = true := decide_eq_true (by omega)
        go_wp2_with fail
        go_quiet (fail)
        have hO4 := HO3.out.nothing ((Tch.refl NoBlk (w2.alloc (.cells #[.int .i64 2, .int .i64 fn, .int .i64 arg, .int .i64 tok] 31))).drewN nq)
        clear p0 p1 c0 kM km ks kn HO3
        generalize (w2.alloc (.cells #[.int .i64 2, .int .i64 fn, .int .i64 arg, .int .i64 tok] 31)).drewN nq = w4 at *
        have kM := hO4.m.cellOf 0 _ rfl
        have fM := hO4.m.free 0
        simp only [List.length_nil, List.length_cons, Nat.add_zero] at kM
        have HC := Lib.hid hO4.cutm
        by_cases ec : c2 = 1
        · subst ec
          obtain rfl : r = [] := List.eq_nil_of_length_eq_zero (by omega)
          have HC1 : Hid (OrdAt w0 (w4.setCell ⟨zm, 0, none⟩ (.slice (some ⟨g', off, none⟩) 0 0)) b zx zM zm zs zn n t (ma) [] s' A1 c1 G1 (some ⟨g', off, none⟩) 0 (some g')) := Lib.hid HC.out
          have ks := HC1.out.sn.cellOf 0 _ rfl; have kn := HC1.out.bn.cellOf 0 _ rfl; have fs := HC1.out.sn.free 0; have HE : Hid (OrdAt _ _ _ _ _ _ _ _ _ ((t : Int) + 1) _ _ _ _ _ _ _ _ _) := Lib.hid (HC1.out.since ((t : Int) + 1))
          clear HC hO4 HC1
          simp only [List.length_nil] at *
          go_wp2
          go_ret
          rw [← HRR.out, HNQ.out]
          exact ⟨rfl, s', _, _, _, _, _, _, HE.out, HQ1.out, by have := hn; have := HT.out; simp only; omega⟩
        · have HC1 : Hid (OrdAt w0 (w4.setCell ⟨zm, 0, none⟩ (.slice (some ⟨g', off + 1, none⟩) r.length (c2 - 1))) b zx zM zm zs zn n t (ma) r s' A1 c1 G1 (some ⟨g', off + 1, none⟩) (c2 - 1) (some g')) := Lib.hid (by have := HC.out; rw [if_neg ec] at this; exact this)
          have ks := HC1.out.sn.cellOf 0 _ rfl; have kn := HC1.out.bn.cellOf 0 _ rfl; have fs := HC1.out.sn.free 0; have HE : Hid (OrdAt _ _ _ _ _ _ _ _ _ ((t : Int) + 1) _ _ _ _ _ _ _ _ _) := Lib.hid (HC1.out.since ((t : Int) + 1))
          clear HC hO4 HC1
          go_wp2
          go_ret
          rw [← HRR.out, HNQ.out]
          exact ⟨rfl, s', _, _, _, _, _, _, HE.out, HQ1.out, by have := hn; have := HT.out; simp only; omega⟩
    · have hge : (n : Int) ≤ (t : Int) := by omega
      have hged : decide ((n : Int) ≤ (t : Int)) = true := decide_eq_true hge
      have hgn : n ≤ t := by omega
      cases ma with
      | nil =>
        -- a micro task is told; of macro ones [] are to come
        have hnq : nextQ n t ([]) (f :: r) = (1, [], r, some (2, f)) := (by simp [nextQ, hlt])
        have hk1 := HK.out
        have hq1 := HQ'.out
        rw [hnq] at hk1 hq1
        have HQ1 := Lib.hid hq1
        have HNQ := Lib.hid hnq
        clear hq1 hnq HQ'
        cases k with
        | none => simp at hk1
        | some k =>
          obtain ⟨kd, fn, arg, tok⟩ := k
          simp only [Option.map_some, Option.some.injEq, Prod.mk.injEq] at hk1
          obtain ⟨rfl, rfl⟩ := hk1
          simp only [Option.getD_some, Option.isSome_some, tkv]
          have hO3 := hO2.nothing ((Tch.refl NoBlk w2).alloc (.cells #[.int .i64 2, .int .i64 fn, .int .i64 arg, .int .i64 tok] 31))
          have hbt : Blk (w2.alloc (.cells #[.int .i64 2, .int .i64 fn, .int .i64 arg, .int .i64 tok] 31)) w2.heap.size 31 [.int .i64 2, .int .i64 fn, .int .i64 arg, .int .i64 tok] := heap_alloc_new w2 _
          have p0 := hbt.cellOf 0 _ rfl
          have p1 := hbt.cellOf 1 _ rfl
          clear hO2 hbt
          have hA : ∃ g' off, A2 = some ⟨g', off, none⟩ ∧ G2 = some g' ∧ ∀ j u, (ints (fn :: r))[j]? = some u → (w2.alloc (.cells #[.int .i64 2, .int .i64 fn, .int .i64 arg, .int .i64 tok] 31)).cell? ⟨g', off + j, none⟩ = some u := hO3.r2.cells (by simp)
          obtain ⟨g', off, rfl, rfl, hc⟩ := hA
          have c0 := hc 0 _ rfl
          have kM := hO3.M.cellOf 0 _ rfl
          have km := hO3.m.cellOf 0 _ rfl
          have ks := hO3.sn.cellOf 0 _ rfl
          have kn := hO3.bn.cellOf 0 _ rfl
          have hcap := hO3.r2.cap_le
          have HO3 := Lib.hid hO3
          simp only [List.length_nil, List.length_cons, Nat.add_zero] at kM km hcap c0
          clear hO3 hc
          have i1 : (1 : Int) ≤ (r.length : Int) + 1 := by omega
          have hl1 := h1
          have hl2 := h2
          simp only [List.length_cons, List.length_nil] at hl1 hl2
          have nz : ¬ ((r.length : Int) + 1 = 0) := by omega
          have nzd : decide ((r.length : Int) + 1 = 0) = false := decide_eq_false (by omega)
          have sw : IntKind.i64.wrap (((r.length : Int) + 1)) = ((r.length : Int) + 1) := by rw [IntKind.wrap_i64]; omega
          have sp : (0 : Int) < ((r.length : Int) + 1) := by omega
          have spd : decide ((0 : Int) < ((r.length : Int) + 1)) = true := decide_eq_true (by omega)
          go_wp2_with fail
          go_quiet (fail)
          have hO4 := HO3.out.nothing ((Tch.refl NoBlk (w2.alloc (.cells #[.int .i64 2, .int .i64 fn, .int .i64 arg, .int .i64 tok] 31))).drewN nq)
          clear p0 p1 c0 kM km ks kn HO3
          generalize (w2.alloc (.cells #[.int .i64 2, .int .i64 fn, .int .i64 arg, .int .i64 tok] 31)).drewN nq = w4 at *
          have kM := hO4.m.cellOf 0 _ rfl
          have fM := hO4.m.free 0
          simp only [List.length_nil, List.length_cons, Nat.add_zero] at kM
          have HC := Lib.hid hO4.cutm
          by_cases ec : c2 = 1
          · subst ec
            obtain rfl : r = [] := List.eq_nil_of_length_eq_zero (by omega)
            have HC1 : Hid (OrdAt w0 (w4.setCell ⟨zm, 0, none⟩ (.slice (some ⟨g', off, none⟩) 0 0)) b zx zM zm zs zn n t ([]) [] s' A1 c1 G1 (some ⟨g', off, none⟩) 0 (some g')) := Lib.hid HC.out
            have ks := HC1.out.sn.cellOf 0 _ rfl; have kn := HC1.out.bn.cellOf 0 _ rfl; have fs := HC1.out.sn.free 0; have HE0 := HC1.out.since 0; have ks0 := HE0.sn.cellOf 0 _ rfl; have fs0 := HE0.sn.free 0; have HE := Lib.hid (HE0.since 1); clear HE0
            clear HC hO4 HC1
            simp only [List.length_nil] at *
            go_wp2
            go_ret
            rw [← HRR.out, HNQ.out]
            exact ⟨rfl, s', _, _, _, _, _, _, HE.out, HQ1.out, by have := hn; have := HT.out; simp only; omega⟩
          · have HC1 : Hid (OrdAt w0 (w4.setCell ⟨zm, 0, none⟩ (.slice (some ⟨g', off + 1, none⟩) r.length (c2 - 1))) b zx zM zm zs zn n t ([]) r s' A1 c1 G1 (some ⟨g', off + 1, none⟩) (c2 - 1) (some g')) := Lib.hid (by have := HC.out; rw [if_neg ec] at this; exact this)
            have ks := HC1.out.sn.cellOf 0 _ rfl; have kn := HC1.out.bn.cellOf 0 _ rfl; have fs := HC1.out.sn.free 0; have HE0 := HC1.out.since 0; have ks0 := HE0.sn.cellOf 0 _ rfl; have fs0 := HE0.sn.free 0; have HE := Lib.hid (HE0.since 1); clear HE0
            clear HC hO4 HC1
            go_wp2
            go_ret
            rw [← HRR.out, HNQ.out]
            exact ⟨rfl, s', _, _, _, _, _, _, HE.out, HQ1.out, by have := hn; have := HT.out; simp only; omega⟩
      | cons g q =>
        have htn : ¬ ((t : Int) < (n : Int)) := by omega
        -- a macro task is told; of micro ones f :: r are to come
        have hnq : nextQ n t (g :: q) (f :: r) = (0, q, f :: r, some (1, g)) := (by simp [nextQ, hlt])
        have hk1 := HK.out
        have hq1 := HQ'.out
        rw [hnq] at hk1 hq1
        have HQ1 := Lib.hid hq1
        have HNQ := Lib.hid hnq
        clear hq1 hnq HQ'
        cases k with
        | none => simp at hk1
        | some k =>
          obtain ⟨kd, fn, arg, tok⟩ := k
          simp only [Option.map_some, Option.some.injEq, Prod.mk.injEq] at hk1
          obtain ⟨rfl, rfl⟩ := hk1
          simp only [Option.getD_some, Option.isSome_some, tkv]
          have hO3 := hO2.nothing ((Tch.refl NoBlk w2).alloc (.cells #[.int .i64 1, .int .i64 fn, .int .i64 arg, .int .i64 tok] 31))
          have hbt : Blk (w2.alloc (.cells #[.int .i64 1, .int .i64 fn, .int .i64 arg, .int .i64 tok] 31)) w2.heap.size 31 [.int .i64 1, .int .i64 fn, .int .i64 arg, .int .i64 tok] := heap_alloc_new w2 _
          have p0 := hbt.cellOf 0 _ rfl
          have p1 := hbt.cellOf 1 _ rfl
          clear hO2 hbt
          have hA : ∃ g' off, A1 = some ⟨g', off, none⟩ ∧ G1 = some g' ∧ ∀ j u, (ints (fn :: q))[j]? = some u → (w2.alloc (.cells #[.int .i64 1, .int .i64 fn, .int .i64 arg, .int .i64 tok] 31)).cell? ⟨g', off + j, none⟩ = some u := hO3.r1.cells (by simp)
          obtain ⟨g', off, rfl, rfl, hc⟩ := hA
          have c0 := hc 0 _ rfl
          have kM := hO3.M.cellOf 0 _ rfl
          have km := hO3.m.cellOf 0 _ rfl
          have ks := hO3.sn.cellOf 0 _ rfl
          have kn := hO3.bn.cellOf 0 _ rfl
          have hcap := hO3.r1.cap_le
          have HO3 := Lib.hid hO3
          simp only [List.length_nil, List.length_cons, Nat.add_zero] at kM km hcap c0
          clear hO3 hc
          have i1 : (1 : Int) ≤ (q.length : Int) + 1 := by omega
          have hl1 := h1
          have hl2 := h2
          simp only [List.length_cons, List.length_nil] at hl1 hl2
          have nz : ¬ ((q.length : Int) + 1 = 0) := by omega
          have nzd : decide ((q.length : Int) + 1 = 0) = false := decide_eq_false (by omega)
          have sw : IntKind.i64.wrap (((q.length : Int) + 1 + ((r.length : Int) + 1))) = ((q.length : Int) + 1 + ((r.length : Int) + 1)) := by rw [IntKind.wrap_i64]; omega
          have sp : (0 : Int) < ((q.length : Int) + 1 + ((r.length : Int) + 1)) := by omega
          have spd : decide ((0 : Int) < ((q.length : Int) + 1 + ((r.length : Int) + 1))) = true := decide_eq_true (by omega)
          go_wp2_with fail
          go_quiet (fail)
          have hO4 := HO3.out.nothing ((Tch.refl NoBlk (w2.alloc (.cells #[.int .i64 1, .int .i64 fn, .int .i64 arg, .int .i64 tok] 31))).drewN nq)
          clear p0 p1 c0 kM km ks kn HO3
          generalize (w2.alloc (.cells #[.int .i64 1, .int .i64 fn, .int .i64 arg, .int .i64 tok] 31)).drewN nq = w4 at *
          have kM := hO4.M.cellOf 0 _ rfl
          have fM := hO4.M.free 0
          simp only [List.length_nil, List.length_cons, Nat.add_zero] at kM
          have HC := Lib.hid hO4.cutM
          by_cases ec : c1 = 1
          · subst ec
            obtain rfl : q = [] := List.eq_nil_of_length_eq_zero (by omega)
            have HC1 : Hid (OrdAt w0 (w4.setCell ⟨zM, 0, none⟩ (.slice (some ⟨g', off, none⟩) 0 0)) b zx zM zm zs zn n t [] (f :: r) s' (some ⟨g', off, none⟩) 0 (some g') A2 c2 G2) := Lib.hid HC.out
            have ks := HC1.out.sn.cellOf 0 _ rfl
            have fs := HC1.out.sn.free 0
            have HE := Lib.hid (HC1.out.since 0)
            clear HC hO4 HC1
            simp only [List.length_nil] at *
            go_wp2
            go_ret
            rw [← HRR.out, HNQ.out]
            exact ⟨rfl, s', _, _, _, _, _, _, HE.out, HQ1.out, Nat.zero_le _⟩
          · have HC1 : Hid (OrdAt w0 (w4.setCell ⟨zM, 0, none⟩ (.slice (some ⟨g', off + 1, none⟩) q.length (c1 - 1))) b zx zM zm zs zn n t q (f :: r) s' (some ⟨g', off + 1, none⟩) (c1 - 1) (some g') A2 c2 G2) := Lib.hid (by have := HC.out; rw [if_neg ec] at this; exact this)
            have ks := HC1.out.sn.cellOf 0 _ rfl
            have fs := HC1.out.sn.free 0
            have HE := Lib.hid (HC1.out.since 0)
            clear HC hO4 HC1
            go_wp2
            go_ret
            rw [← HRR.out, HNQ.out]
            exact ⟨rfl, s', _, _, _, _, _, _, HE.out, HQ1.out, Nat.zero_le _⟩
end
end Go.Proofs.Ytipbimbnpikbcaa
