import Derived.Deep.RegionHeld3
import Derived.Test.YtipbimbnpikbcaaGreatMg31
import Derived.Deep.CutRange
import Derived.Test.YtipbimbnpikbcaaGreatMg35
import Derived.Test.YtipbimbnpikbcaaGreatMg19
/- Then, of the document's promises. -/
namespace Go.Proofs.YtipbimbnpikbcaaGreat
open Go.RowKit

theorem Src.alloc1 {w : World} {r : Int} {g : Nat} {ob : Obj} (h : Src w 1 (some ⟨g, 0, none⟩) 1 [.int .i64 r]) : Src (w.alloc ob) 1 (some ⟨g, 0, none⟩) 1 [.int .i64 r] := Src.keep h ((Tch.refl NoBlk w).alloc ob) (fun _ _ h => h)

/-- 'step_app', where one more operand tells which order it is. -/
theorem step_app2 {P : Program} {w : World} {ops : Array Oper} {o : Oper} {a : Act} {K : Act → World → Prop} {Q : Exit → Act → World → Prop} {E : Prop} (y : Operand) (vy : Value) (_hy : a.eval y = vy) (hgd : o.guard = none) (s x : Operand) (t : TypeId)
    (ho : o.op = .call { callee := .builtin .append, args := #[s, x], argTypes := #[t, t] })
    (e : TypeId) (z : Value) (sz bytes : Nat) (ht : P.underlying t = some (.slice e)) (hinfo : (P.info? e).map (fun i => (i.zero, i.size, i.bytes)) = some (some z, sz, bytes)) (hzs : z.cells.size = sz) (hsz : 0 < sz) (hb0 : 0 < bytes)
    (A : Option Addr) (n cap : Nat) (xs : List Value) (G : Option Nat) (B : Option Addr) (m c : Nat) (news : List Value)
    (hv : a.eval s = .slice A n cap) (hx : a.eval x = .slice B m c)
    (h : Sl w e sz A n cap xs G) (hs : Src w sz B m news) (h1 : ∀ u ∈ news, u.oneCell' = true) (hbytes : (n + m) * bytes ≤ 140737488355328)
    (hk : ∀ A' cap' w' G', Sl w' e sz A' (n + m) cap' (xs ++ news) G' → Tch (fun k => G = some k) w w' → (G' = G ∨ ∃ g, G' = some g ∧ w.heap.size ≤ g) → K (a.put o.dst (.slice A' (n + m) cap')) w') :
    if Region.wanted o (yielded ops a.tmps) = true then Oper.wp P o a w K Q else E :=
  step_app _ hgd s x t ho e z sz bytes ht hinfo hzs hsz hb0 A n cap xs G B m c news hv hx h hs h1 hbytes hk

theorem RefPrsAt.thenDone {w w6 : World} {b o g i : Nat} {ty : TypeId} {cs : List Value} {vs : List Pv} {c : Nat} {x : Pv} {F : Nat → Prop} {A6 : Option Addr} {c6 : Nat} {G6 : Option Nat} {r : Int}
    (h : RefPrsAt w b ty cs o vs (some ⟨g, 0, none⟩) c (some g)) (hx : vs[i]? = some x) (_ht : x.pr.told = false) (hl : x.pr.q.length < 256) (HT : Tch NoBlk w w6)
    (HS : Sl w6 3 1 A6 (x.pr.q.length + 1) c6 (ints x.pr.q ++ [.int .i64 r]) G6) (HN : ∀ k, G6 = some k → w.heap.size ≤ k) (hF : ∀ k, F k ↔ PrF b vs (some g) k) :
    PrsLeft w (w6.setCell ⟨g, i * 3 + 2, none⟩ (.slice A6 (x.pr.q.length + 1) c6)) b ty cs o F ((vs.map (·.pr)).set (i : Int).toNat ⟨x.pr.told, x.pr.value, x.pr.q ++ [r]⟩) := by
  have hil : i < vs.length := (List.getElem?_eq_some_iff.1 hx).1
  have hlg := h.sl.lt g rfl
  obtain ⟨g0, g1, g2⟩ := pcells_get vs i x hx
  have e1 : (x.pr.q ++ [r]).length = x.pr.q.length + 1 := by simp
  have hs8 := (h.sl.keep HT (fun _ _ h => h)).set (i * 3 + 2) (.slice A6 (x.pr.q.length + 1) c6)
  have hT8 := (HT.mono (T := (· = g)) (fun _ _ h => h.elim)).trans ((h.sl.keep HT (fun _ _ h => h)).setT (i * 3 + 2) (.slice A6 (x.pr.q.length + 1) c6))
  have hcells := pcells_set vs i ⟨⟨x.pr.told, x.pr.value, x.pr.q ++ [r]⟩, A6, c6, G6⟩ hil
  dsimp only at hcells
  rw [set_self g0, set_self g1, e1] at hcells
  rw [hcells] at hs8
  have hy : Sl (w6.setCell ⟨g, i * 3 + 2, none⟩ (.slice A6 (x.pr.q.length + 1) c6)) 3 1 A6 (x.pr.q ++ [r]).length c6 (ints (x.pr.q ++ [r])) G6 := by
    rw [e1, ints, List.map_append]
    exact HS.keep ((h.sl.keep HT (fun _ _ h => h)).setT (i * 3 + 2) (.slice A6 (x.pr.q.length + 1) c6)) (fun k hk e => by have := HN k hk; omega)
  obtain ⟨h10, hF10⟩ := h.put i x ⟨⟨x.pr.told, x.pr.value, x.pr.q ++ [r]⟩, A6, c6, G6⟩ hx hT8 hs8 hy (fun k hk => .inr (HN k hk)) (by rw [e1]; omega)
  refine ⟨hT8.mono (fun k _ e => (hF k).2 (.inr (.inl (by rw [e])))), .slice (some ⟨g, 0, none⟩) vs.length c, PrF b (vs.set i ⟨⟨x.pr.told, x.pr.value, x.pr.q ++ [r]⟩, A6, c6, G6⟩) (some g), ⟨vs.set i ⟨⟨x.pr.told, x.pr.value, x.pr.q ++ [r]⟩, A6, c6, G6⟩, some ⟨g, 0, none⟩, c, some g, ?_, ?_, fun _ => Iff.rfl⟩, fun k hk => ?_⟩
  · rw [set_self h.at_]
    exact h10
  · simp [List.map_set]
  · rcases hF10 k hk with e | e
    · exact .inl ((hF k).2 e)
    · exact .inr e

/-- The load of who waits, behind a name: the walk takes it where it comes. -/
def loadWho : Op := .load 52 (.tmp 51)
theorem loadWho_eq : loadWho = .load 52 (.tmp 51) := rfl
attribute [local go_sem] loadWho_eq
set_option maxHeartbeats 20000000 in
set_option maxRecDepth 100000 in
theorem refprs_then (b o : Nat) (ty : TypeId) (cs : List Value) (l : List Pr) (F : Nat → Prop) (id r : Int) (w : World) (h : RefPrsQ w b ty cs o l F) :
    Calls Tryz.prog 75 #[.pointer (some ⟨b, o, none⟩), .int .i64 id, .int .i64 r] w fun e w' => e = .returned (.tuple #[.int .i64 (thenM l id r).2.1, .bool (thenM l id r).2.2.1, .int .i64 (thenM l id r).2.2.2]) ∧ PrsLeft w w' b ty cs o F (thenM l id r).1 := by
  have HQ := Lib.hid h
  obtain ⟨vs, A, c, G, h, rfl, hF⟩ := h
  have HF := Lib.hid hF
  unfold thenM
  have HH := Lib.hid h
  clear hF
  cases hp : prOf (vs.map (·.pr)) id with
  | none =>
    have hid := prOf_map vs id hp
    clear hp h
    go_enter Tryz.func75, Tryz.ntmps75
    go_wp2_with fail
    refine (refprs_is_no id w HH.out hid).mono ?_
    rintro e w0 ⟨rfl, h0⟩; subst w0
    go_wp2
    go_ret3
    exact ⟨rfl, PrsLeft.same HQ.out (Tch.refl _ w)⟩
  | some p =>
    obtain ⟨i, x, rfl, hx, rfl⟩ := prOf_map_some vs id p hp
    have hil : i < vs.length := (List.getElem?_eq_some_iff.1 hx).1
    have hc := h.blk.cellOf o _ h.at_
    obtain ⟨g, rfl, rfl, hcl⟩ := h.sl.cells (by omega)
    obtain ⟨g0, g1, g2⟩ := pcells_get vs i x hx
    have c0 := hcl _ _ g0
    have c1 := hcl _ _ g1
    have c2 := hcl _ _ g2
    have hcap := h.sl.cap_le
    have h512 := h.le
    have hq := h.qle i x hx
    clear hp hcl g0 g1
    dsimp only
    by_cases ht : x.pr.told = true
    · rw [if_pos ht]
      rw [ht] at c0
      clear h g2
      go_enter Tryz.func75, Tryz.ntmps75
      go_wp2_with fail
      refine (refprs_is_yes i w HH.out hil).mono ?_
      rintro e w0 ⟨rfl, h0⟩; subst w0
      go_wp2
      go_ret3
      exact ⟨rfl, PrsLeft.same HQ.out (Tch.refl _ w)⟩
    · have ht2 : x.pr.told = false := by simpa using ht
      rw [if_neg ht]
      rw [ht2] at c0
      by_cases hl : x.pr.q.length < 256
      · rw [if_pos hl]
        have hsl := h.sl
        have hsx := h.each i x hx
        have hg := h.sl.free (i * 3 + 2)
        have hbg : ¬ b = g := fun e => h.nb (by rw [e])
        clear h
        go_enter Tryz.func75, Tryz.ntmps75
        go_wp2_with fail
        refine (refprs_is_yes i w HH.out hil).mono ?_
        rintro e w0 ⟨rfl, h0⟩; subst w0
        have hxD := hsx.keep (Tch.refl NoBlk w).drew (fun _ _ h => h)
        have hcD : ∀ ob, (w.alloc ob).cell? ⟨b, o, none⟩ = some (.slice (some ⟨g, 0, none⟩) vs.length c) := fun ob => ((Tch.refl NoBlk w).alloc ob).cell' hc (fun h => h)
        have hcE : ∀ ob, (w.alloc ob).cell? ⟨g, i * 3 + 2, none⟩ = some (.slice x.A x.pr.q.length x.c) := fun ob => ((Tch.refl NoBlk w).alloc ob).cell' c2 (fun h => h)
        have hcD2 : ∀ ob oc, ((w.alloc ob).alloc oc).cell? ⟨b, o, none⟩ = some (.slice (some ⟨g, 0, none⟩) vs.length c) := fun ob oc => (((Tch.refl NoBlk w).alloc ob).alloc oc).cell' hc (fun h => h)
        have hcE2 : ∀ ob oc, ((w.alloc ob).alloc oc).cell? ⟨g, i * 3 + 2, none⟩ = some (.slice x.A x.pr.q.length x.c) := fun ob oc => (((Tch.refl NoBlk w).alloc ob).alloc oc).cell' c2 (fun h => h)
        go_upto_region 7 with fail
        go_cut [56] from 39 to 39 (fun _ wx => PrsLeft w wx b ty cs o F ((vs.map (·.pr)).set (i : Int).toNat ⟨x.pr.told, x.pr.value, x.pr.q ++ [r]⟩))
        case first =>
          go_wp2_with fail
          rw [← loadWho_eq]
          go_region_held3 (fun w' => w'.cell? ⟨b, o, none⟩ = some (.slice (some ⟨g, 0, none⟩) vs.length c)) (first | go_keep | exact hc5 | exact hc5A _ | exact hc8 | exact hc9 _ | exact hcD _ | exact hcD2 _ _) (first
            | (refine step_app2 (.tmp 55) (undef) (by simp [Act.eval]) rfl (.tmp 44) (.tmp 52) 52 rfl 3 (.int .i64 0) 1 8 Tryz.underlying52 infoInt rfl (by decide) (by decide) (some ⟨w.heap.size, 0, none⟩) 0 0 [] (some (w.heap.size)) x.A x.pr.q.length x.c (ints x.pr.q) (by simp [Act.eval]) (by simp [Act.eval]) (by exact (Sl.made w 3 #[] 0 rfl (by decide)).drew1) (by exact (hsx.keep ((Tch.refl NoBlk w).alloc (.cells #[] 3)).drew (fun _ _ h => h)).src) (ints_one x.pr.q) (by omega) ?_; intro A5 c5 w5 G5 hs5 ht5 hg5; simp only [Nat.zero_add, List.nil_append] at hs5; have HS5 := Lib.hid hs5; have HT5 : Hid (Tch NoBlk w w5) := Lib.hid (tch_own ((Tch.refl NoBlk w).alloc (.cells #[] 3)).drew ht5 (own_some (by omega))); have HN5 : Hid (∀ k, G5 = some k → w.heap.size ≤ k) := Lib.hid (own_from (Tch.size ((Tch.refl NoBlk w).alloc (.cells #[] 3)).drew) (own_some (by omega)) hg5); have hc5 : w5.cell? ⟨b, o, none⟩ = some (.slice (some ⟨g, 0, none⟩) vs.length c) := HT5.out.cell' hc (fun h => h); have hc5L : w5.cell? ⟨g, i * 3 + 2, none⟩ = some (.slice x.A x.pr.q.length x.c) := HT5.out.cell' c2 (fun h => h); have hc5LA : ∀ ob, (w5.alloc ob).cell? ⟨g, i * 3 + 2, none⟩ = some (.slice x.A x.pr.q.length x.c) := fun ob => (HT5.out.alloc ob).cell' c2 (fun h => h); have hc5A : ∀ ob, (w5.alloc ob).cell? ⟨b, o, none⟩ = some (.slice (some ⟨g, 0, none⟩) vs.length c) := fun ob => (HT5.out.alloc ob).cell' hc (fun h => h); clear hs5 ht5 hg5)
            | (refine step_app2 (.tmp 55) (.slice (some ⟨w.heap.size + 1, 0, none⟩) 1 1) (by simp [Act.eval]) rfl (.tmp 44) (.tmp 52) 52 rfl 3 (.int .i64 0) 1 8 Tryz.underlying52 infoInt rfl (by decide) (by decide) (some ⟨w.heap.size, 0, none⟩) 0 0 [] (some (w.heap.size)) x.A x.pr.q.length x.c (ints x.pr.q) (by simp [Act.eval]) (by simp [Act.eval]) (by exact ((Sl.made w 3 #[] 0 rfl (by decide)).alloc _).drew1) (by exact (hsx.keep (((Tch.refl NoBlk w).alloc (.cells #[] 3)).alloc (.cells #[.int .i64 r] 3)).drew (fun _ _ h => h)).src) (ints_one x.pr.q) (by omega) ?_; intro A5 c5 w5 G5 hs5 ht5 hg5; simp only [Nat.zero_add, List.nil_append] at hs5; have HR := Lib.hid (Src.keep (Src.drew1 (Src.madeAt1 (w := w.alloc (.cells #[] 3)) (r := r) (World.size_alloc _ _))) ht5 (fun a e h => by injection e with e; subst e; injection h with h; simp at h)); have HS5 := Lib.hid hs5; have HT5 : Hid (Tch NoBlk w w5) := Lib.hid (tch_own (((Tch.refl NoBlk w).alloc (.cells #[] 3)).alloc (.cells #[.int .i64 r] 3)).drew ht5 (own_some (by omega))); have HN5 : Hid (∀ k, G5 = some k → w.heap.size ≤ k) := Lib.hid (own_from (Tch.size (((Tch.refl NoBlk w).alloc (.cells #[] 3)).alloc (.cells #[.int .i64 r] 3)).drew) (own_some (by omega)) hg5); have hc5 : w5.cell? ⟨b, o, none⟩ = some (.slice (some ⟨g, 0, none⟩) vs.length c) := HT5.out.cell' hc (fun h => h); have hc5L : w5.cell? ⟨g, i * 3 + 2, none⟩ = some (.slice x.A x.pr.q.length x.c) := HT5.out.cell' c2 (fun h => h); have hc5LA : ∀ ob, (w5.alloc ob).cell? ⟨g, i * 3 + 2, none⟩ = some (.slice x.A x.pr.q.length x.c) := fun ob => (HT5.out.alloc ob).cell' c2 (fun h => h); have hc5A : ∀ ob, (w5.alloc ob).cell? ⟨b, o, none⟩ = some (.slice (some ⟨g, 0, none⟩) vs.length c) := fun ob => (HT5.out.alloc ob).cell' hc (fun h => h); clear hs5 ht5 hg5)
            | (refine step_app2 (.tmp 55) (.slice (some ⟨w.heap.size, 0, none⟩) 1 1) (by simp [Act.eval]) rfl (.tmp 44) (.tmp 52) 52 rfl 3 (.int .i64 0) 1 8 Tryz.underlying52 infoInt rfl (by decide) (by decide) (some ⟨w.heap.size + 1, 0, none⟩) 0 0 [] (some (w.heap.size + 1)) x.A x.pr.q.length x.c (ints x.pr.q) (by simp [Act.eval]) (by simp [Act.eval]) (by exact (Sl.madeAt (w.alloc (.cells #[.int .i64 r] 3)) 3 #[] 0 (w.heap.size + 1) (World.size_alloc _ _) rfl (by decide)).drew1) (by exact (hsx.keep (((Tch.refl NoBlk w).alloc (.cells #[.int .i64 r] 3)).alloc (.cells #[] 3)).drew (fun _ _ h => h)).src) (ints_one x.pr.q) (by omega) ?_; intro A5 c5 w5 G5 hs5 ht5 hg5; simp only [Nat.zero_add, List.nil_append] at hs5; have HR := Lib.hid (Src.keep (Src.drew1 (Src.alloc1 (ob := .cells #[] 3) (Src.madeAt1 (w := w) (r := r) rfl))) ht5 (fun a e h => by injection e with e; subst e; injection h with h; simp at h)); have HS5 := Lib.hid hs5; have HT5 : Hid (Tch NoBlk w w5) := Lib.hid (tch_own (((Tch.refl NoBlk w).alloc (.cells #[.int .i64 r] 3)).alloc (.cells #[] 3)).drew ht5 (own_some (by omega))); have HN5 : Hid (∀ k, G5 = some k → w.heap.size ≤ k) := Lib.hid (own_from (Tch.size (((Tch.refl NoBlk w).alloc (.cells #[.int .i64 r] 3)).alloc (.cells #[] 3)).drew) (own_some (by omega)) hg5); have hc5 : w5.cell? ⟨b, o, none⟩ = some (.slice (some ⟨g, 0, none⟩) vs.length c) := HT5.out.cell' hc (fun h => h); have hc5L : w5.cell? ⟨g, i * 3 + 2, none⟩ = some (.slice x.A x.pr.q.length x.c) := HT5.out.cell' c2 (fun h => h); have hc5LA : ∀ ob, (w5.alloc ob).cell? ⟨g, i * 3 + 2, none⟩ = some (.slice x.A x.pr.q.length x.c) := fun ob => (HT5.out.alloc ob).cell' c2 (fun h => h); have hc5A : ∀ ob, (w5.alloc ob).cell? ⟨b, o, none⟩ = some (.slice (some ⟨g, 0, none⟩) vs.length c) := fun ob => (HT5.out.alloc ob).cell' hc (fun h => h); clear hs5 ht5 hg5)
            | (refine step_app _ rfl (.tmp 53) (.tmp 55) 52 rfl 3 (.int .i64 0) 1 8 Tryz.underlying52 infoInt rfl (by decide) (by decide) A5 x.pr.q.length c5 (ints x.pr.q) G5 (some ⟨w5.heap.size, 0, none⟩) 1 1 [.int .i64 r] (by simp [Act.eval]) (by simp [Act.eval]) (by exact HS5.out.alloc _) (by exact Src.madeAt1 rfl) (ints_one [r]) (by omega) ?_; intro A6 c6 w6 G6 hs6 ht6 hg6; have HS6 := Lib.hid hs6; have HT6 : Hid (Tch NoBlk w w6) := Lib.hid (tch_own (HT5.out.alloc (.cells #[.int .i64 r] 3)) ht6 HN5.out); have HN6 : Hid (∀ k, G6 = some k → w.heap.size ≤ k) := Lib.hid (own_from (Tch.size (HT5.out.alloc (.cells #[.int .i64 r] 3))) HN5.out hg6); have hs7 := hsl.keep HT6.out (fun _ _ h => h); have hc7 : w6.cell? ⟨g, i * 3 + 2, none⟩ = some (.slice x.A x.pr.q.length x.c) := HT6.out.cell' c2 (fun h => h); have hf7 := hs7.free (i * 3 + 2); have hc8 : w6.cell? ⟨b, o, none⟩ = some (.slice (some ⟨g, 0, none⟩) vs.length c) := HT6.out.cell' hc (fun h => h); have hc9 : ∀ u, (w6.setCell ⟨g, i * 3 + 2, none⟩ u).cell? ⟨b, o, none⟩ = some (.slice (some ⟨g, 0, none⟩) vs.length c) := fun u => ((Tch.refl (· = g) w6).setCell (p := ⟨g, i * 3 + 2, none⟩) (fun _ => rfl) u).cell' hc8 hbg; clear hs6 ht6 hg6 hs7)
            | (refine step_app _ rfl (.tmp 53) (.tmp 55) 52 rfl 3 (.int .i64 0) 1 8 Tryz.underlying52 infoInt rfl (by decide) (by decide) A5 x.pr.q.length c5 (ints x.pr.q) G5 (some ⟨w.heap.size + 1, 0, none⟩) 1 1 [.int .i64 r] (by simp [Act.eval]) (by simp [Act.eval]) (by exact HS5.out) (by exact HR.out) (ints_one [r]) (by omega) ?_; intro A6 c6 w6 G6 hs6 ht6 hg6; have HS6 := Lib.hid hs6; have HT6 : Hid (Tch NoBlk w w6) := Lib.hid (tch_own HT5.out ht6 HN5.out); have HN6 : Hid (∀ k, G6 = some k → w.heap.size ≤ k) := Lib.hid (own_from (Tch.size HT5.out) HN5.out hg6); have hs7 := hsl.keep HT6.out (fun _ _ h => h); have hc7 : w6.cell? ⟨g, i * 3 + 2, none⟩ = some (.slice x.A x.pr.q.length x.c) := HT6.out.cell' c2 (fun h => h); have hf7 := hs7.free (i * 3 + 2); have hc8 : w6.cell? ⟨b, o, none⟩ = some (.slice (some ⟨g, 0, none⟩) vs.length c) := HT6.out.cell' hc (fun h => h); have hc9 : ∀ u, (w6.setCell ⟨g, i * 3 + 2, none⟩ u).cell? ⟨b, o, none⟩ = some (.slice (some ⟨g, 0, none⟩) vs.length c) := fun u => ((Tch.refl (· = g) w6).setCell (p := ⟨g, i * 3 + 2, none⟩) (fun _ => rfl) u).cell' hc8 hbg; clear hs6 ht6 hg6 hs7)
            | (refine step_app _ rfl (.tmp 53) (.tmp 55) 52 rfl 3 (.int .i64 0) 1 8 Tryz.underlying52 infoInt rfl (by decide) (by decide) A5 x.pr.q.length c5 (ints x.pr.q) G5 (some ⟨w.heap.size, 0, none⟩) 1 1 [.int .i64 r] (by simp [Act.eval]) (by simp [Act.eval]) (by exact HS5.out) (by exact HR.out) (ints_one [r]) (by omega) ?_; intro A6 c6 w6 G6 hs6 ht6 hg6; have HS6 := Lib.hid hs6; have HT6 : Hid (Tch NoBlk w w6) := Lib.hid (tch_own HT5.out ht6 HN5.out); have HN6 : Hid (∀ k, G6 = some k → w.heap.size ≤ k) := Lib.hid (own_from (Tch.size HT5.out) HN5.out hg6); have hs7 := hsl.keep HT6.out (fun _ _ h => h); have hc7 : w6.cell? ⟨g, i * 3 + 2, none⟩ = some (.slice x.A x.pr.q.length x.c) := HT6.out.cell' c2 (fun h => h); have hf7 := hs7.free (i * 3 + 2); have hc8 : w6.cell? ⟨b, o, none⟩ = some (.slice (some ⟨g, 0, none⟩) vs.length c) := HT6.out.cell' hc (fun h => h); have hc9 : ∀ u, (w6.setCell ⟨g, i * 3 + 2, none⟩ u).cell? ⟨b, o, none⟩ = some (.slice (some ⟨g, 0, none⟩) vs.length c) := fun u => ((Tch.refl (· = g) w6).setCell (p := ⟨g, i * 3 + 2, none⟩) (fun _ => rfl) u).cell' hc8 hbg; clear hs6 ht6 hg6 hs7))
          all_goals
            have HD := Lib.hid (HH.out.thenDone hx ht2 hl HT6.out HS6.out HN6.out HF.out)
            clear HS6 HT6 HN6 HS5 HT5 HN5 hc7 hf7 hc8 hc5 hc5A hc5L hc5LA hc9
            go_wp2
            go_meet
            exact HD.out
        case rest =>
        have HD := Lib.hid hcut
        clear hcut
        go_wp2
        go_ret3
        exact ⟨rfl, HD.out⟩
      · rw [if_neg hl]
        have hq2 : x.pr.q.length = 256 := by omega
        rw [hq2] at c2
        clear h g2 hl hq hq2
        go_enter Tryz.func75, Tryz.ntmps75
        go_wp2_with fail
        refine (refprs_is_yes i w HH.out hil).mono ?_
        rintro e w0 ⟨rfl, h0⟩; subst w0
        go_wp2
        go_ret3
        exact ⟨rfl, PrsLeft.same HQ.out (Tch.refl _ w)⟩

end Go.Proofs.YtipbimbnpikbcaaGreat

/- The document's loop: Then. -/
namespace Go.Proofs.YtipbimbnpikbcaaGreat
open Go.RowKit

section
variable {w : World} {b : Nat} {s : Lp} {F : Nat → Prop}
theorem rl_pthen (h : RLoopQ w b s F) (id : Int) {k : Int} (hk : 0 ≤ k ∧ k < (s.wai.length : Int)) : Calls Tryz.prog 75 #[.pointer (some ⟨b, 8, none⟩), .int .i64 id, .int .i64 k] w fun e w' =>
    e = .returned (.tuple #[.int .i64 (thenM s.prs id k).2.1, .bool (thenM s.prs id k).2.2.1, .int .i64 (thenM s.prs id k).2.2.2]) ∧ RLeft w w' b F { s with prs := (thenM s.prs id k).1 } := by
  obtain ⟨o, P, H, hF⟩ := h
  refine (refprs_then b 8 58 (rcells s o) s.prs _ id k w H.prs).mono ?_
  rintro e w' ⟨rfl, T, v, F', hq, hF'⟩
  obtain ⟨t2, F2, q2, l2⟩ := H.prsLeft hF T hq hF' (H.ok.thenP id hk)
  exact ⟨rfl, t2, F2, q2, fun k hk => (l2 k hk).1⟩
set_option maxHeartbeats 4000000 in
set_option maxRecDepth 100000 in
theorem rl_then (h : RLoopQ w b s F) (id fn : Int) (hn : s.mic.length < 1000000) :
    Calls Tryz.prog 42 #[.pointer (some ⟨b, 0, none⟩), .int .i64 id, .int .i64 fn] w fun e w' => e = .returned (.tuple #[.int .i64 (thenL s id fn).2.1, .int .i64 (thenL s id fn).2.2]) ∧ RLeft w w' b F (thenL s id fn).1 := by
  have hv := rl_pvalue h id
  have her := valueM_err s.prs id
  have hwl := h.ok.waiLe
  obtain ⟨r, hr⟩ : ∃ r, thenL s id fn = r := ⟨_, rfl⟩
  rw [hr]
  have HR := Lib.hid hr
  clear hr
  unfold thenL at HR
  obtain ⟨vt, hvt⟩ : ∃ vt, valueM s.prs id = vt := ⟨_, rfl⟩
  rw [hvt] at hv HR her
  obtain ⟨val, told, en⟩ := vt
  dsimp only at hv HR her
  have HVT := Lib.hid hvt
  have HV := Lib.hid hv
  have HQ := Lib.hid h
  have HN := Lib.hid hn
  have HWL := Lib.hid hwl
  clear hvt hv h hn hwl
  go_enter Tryz.func42, Tryz.ntmps42
  go_wp2_with fail
  refine HV.out.mono ?_
  rintro e w2 ⟨rfl, n2, rfl⟩
  have T2 := (Tch.refl NoBlk w).drewN n2
  have hq2 := HQ.out.keep T2 (fun _ _ h => h)
  have HT2 := Lib.hid T2
  clear HV T2
  generalize w.drewN n2 = w2 at *
  have HQ2 := Lib.hid hq2
  have c2 := hq2.token
  have hd := hq2.keep (Tch.refl NoBlk w2).drew (fun _ _ h => h)
  have HD := Lib.hid hd
  clear hq2 hd
  rcases her with rfl | rfl
  · cases told with
    | true =>
      by_cases ha : 1024 ≤ s.ab.length
      · have HM := Lib.hid (rl_make HD.out (tmakeM_full HQ2.out.ok ha) HQ2.out.ok)
        have E1 := Lib.hid (show (s, 0, 3) = r by have := HR.out; simpa [ha] using this)
        clear HR ha
        go_wp2_with fail
        go_region_law (go_simp; go_at_call 68; refine HM.out.mono ?_; rintro e w3 ⟨rfl, h3⟩; have H3 : Hid (RLeft w2.drew w3 b F s) := Lib.hid h3; clear h3)
        all_goals
          go_wp2
          go_ret2
          rw [← E1.out]
          exact ⟨rfl, (H3.out.ahead (Tch.refl NoBlk w2).drew).ahead HT2.out⟩
      · have hA : s.ab.length < 1024 := by omega
        have HM := Lib.hid (rl_make HD.out (tmakeM_tok HQ2.out.ok hA) (HQ2.out.ok.more hA))
        have HOK1 := Lib.hid (HQ2.out.ok.more hA)
        have E1 := Lib.hid (show (micL (moreL s) ⟨4, fn, val, s.ab.length⟩, s.ab.length, 0) = r by have := HR.out; simpa [ha] using this)
        clear HR ha hA
        generalize hN : (s.ab.length : Int) = Nn at *
        have HNN := Lib.hid hN
        clear hN
        go_wp2_with fail
        go_region_law (go_simp; go_at_call 68; refine HM.out.mono ?_; rintro e w3 ⟨rfl, h3⟩; have H3 : Hid (RLeft w2.drew w3 b F (moreL s)) := Lib.hid h3; clear h3)
        all_goals
          obtain ⟨t3, F3, ⟨o, P, H, hF⟩, l3⟩ := H3.out
          have TB := (Tch.refl NoBlk w3).alloc (.cells #[.int .i64 4, .int .i64 fn, .int .i64 val, .int .i64 Nn] 35)
          have hbz : Blk (w3.alloc (.cells #[.int .i64 4, .int .i64 fn, .int .i64 val, .int .i64 Nn] 35)) w3.heap.size 35 [.int .i64 4, .int .i64 fn, .int .i64 val, .int .i64 Nn] := heap_alloc_new w3 _
          have H5 := H.keep TB (fun _ _ _ h => h)
          have HTB := Lib.hid TB
          have T3 := Lib.hid t3
          have L3 := Lib.hid l3
          have HF := Lib.hid hF
          clear TB t3 l3 hF H H3 HM HD c2
          go_upto_region 12 with fail
          generalize w3.alloc (.cells #[.int .i64 4, .int .i64 fn, .int .i64 val, .int .i64 Nn] 35) = w5 at *
          generalize w3.heap.size = z at *
          have hb5 := (H5.part 0).1
          have hr5 : Rw w5 35 4 o.A2 s.mic.length o.c2 (tks s.mic) o.G2 := (H5.part 2).1
          have hnb : o.G2 ≠ some b := fun e => H5.nb (by decide) (((H5.part 2).2 b).2 e)
          have p0 := hbz.cellOf 0 _ rfl
          have p1 := hbz.cellOf 1 _ rfl
          have p2 := hbz.cellOf 2 _ rfl
          have p3 := hbz.cellOf 3 _ rfl
          have c4 : w5.cell? ⟨b, 4, none⟩ = some (.slice o.A2 s.mic.length o.c2) := hb5.cellOf 4 _ rfl
          have c4A : ∀ ob, (w5.alloc ob).cell? ⟨b, 4, none⟩ = some (.slice o.A2 s.mic.length o.c2) := fun ob => ((Tch.refl NoBlk w5).alloc ob).cell' c4 (fun h => h)
          have HR5 := Lib.hid hr5
          have HB5 := Lib.hid hb5
          have HNB := Lib.hid hnb
          have HH5 := Lib.hid H5
          have HOK : Hid (LOk (micL (moreL s) ⟨4, fn, val, Nn⟩)) := Lib.hid (HOK1.out.putMic (by rw [← HNN.out]; exact tokOk_more))
          have HMI : Hid ((s.mic.length + 1) * 32 ≤ 140737488355328) := Lib.hid (by have := HN.out; omega)
          clear hr5 hb5 hnb H5 hbz
          go_wp2_with fail
          go_region_law (refine step_rw_app _ rfl (.tmp 60) (.tmp 62) 45 rfl 35 (.agg #[.int .i64 0, .int .i64 0, .int .i64 0, .int .i64 0]) 4 32 Tryz.underlying45 infoTk rfl (by decide) (by decide) o.A2 s.mic.length o.c2 (tks s.mic) o.G2 (some ⟨w5.heap.size, 0, none⟩) 1 1 [.int .i64 4, .int .i64 fn, .int .i64 val, .int .i64 Nn] (by simp [Act.eval]) (by simp [Act.eval]) (by decide) (by exact (HR5.out.alloc _).drew1) (by exact (Src.made (sz := 4) w5 35 #[.int .i64 4, .int .i64 fn, .int .i64 val, .int .i64 Nn] 1 rfl).keep (Tch.refl NoBlk _).drew (fun _ _ h => h)) (tkl_one ⟨4, fn, val, Nn⟩) HMI.out ?_; intro A6 c6 w6 G6 hs6 ht6 hg6; have HS6 := Lib.hid hs6; have HT7 : Hid (Tch (fun k => o.G2 = some k) w5 w6) := Lib.hid (Tch.then ((Tch.refl _ w5).alloc _).drew ht6 (fun _ _ h => h)); have HG6 := Lib.hid hg6; have hb6 := HB5.out.keep HT7.out HNB.out; have hc6 := hb6.cellOf 4 _ rfl; have hf6 := hb6.free 4; clear hs6 ht6 hg6 hb6)
          all_goals
            have hp := HH5.out.put_mic HF.out ⟨4, fn, val, Nn⟩ HOK.out HT7.out HS6.out (HG6.out.elim .inl (fun ⟨g, h1, h2⟩ => .inr ⟨g, h1, by simp at h2; omega⟩))
            have HP : Hid (RLeft w5 (w6.setCell ⟨b, 4, none⟩ (.slice A6 (s.mic.length + 1) c6)) b F3 (micL (moreL s) ⟨4, fn, val, Nn⟩)) := Lib.hid hp
            clear hp HS6 HT7 HG6 p0 p1 p2 p3 c4 c4A
            go_wp2
            go_ret2
            rw [← E1.out, HNN.out]
            exact ⟨rfl, ((RLeft.comp T3.out L3.out (HP.out.ahead HTB.out)).ahead (Tch.refl NoBlk w2).drew).ahead HT2.out⟩
    | false =>
      have HWT := Lib.hid (rl_pwaits HQ2.out id)
      by_cases hg : 256 ≤ waitsM s.prs id
      · have hgI : (256 : Int) ≤ ((waitsM s.prs id : Nat) : Int) := by omega
        have E1 := Lib.hid (show (s, 0, 140) = r by have := HR.out; simpa [hg] using this)
        clear HR
        go_wp2_with fail
        refine HWT.out.mono ?_
        rintro e w0 ⟨rfl, h0⟩; subst w0
        go_wp2
        go_ret2
        rw [← E1.out]
        exact ⟨rfl, (RLeft.same HQ2.out).ahead HT2.out⟩
      · have hgI : ¬ ((256 : Int) ≤ ((waitsM s.prs id : Nat) : Int)) := by omega
        by_cases ha : 1024 ≤ s.ab.length
        · have HM := Lib.hid (rl_make HD.out (tmakeM_full HQ2.out.ok ha) HQ2.out.ok)
          have E1 := Lib.hid (show (s, 0, 3) = r by have := HR.out; simpa [ha, hg] using this)
          clear HR ha
          go_wp2_with fail
          refine HWT.out.mono ?_
          rintro e w0 ⟨rfl, h0⟩; subst w0
          go_wp2_with fail
          go_region_law (go_simp; go_at_call 68; refine HM.out.mono ?_; rintro e w3 ⟨rfl, h3⟩; have H3 : Hid (RLeft w2.drew w3 b F s) := Lib.hid h3; clear h3)
          all_goals
            go_wp2
            go_ret2
            rw [← E1.out]
            exact ⟨rfl, (H3.out.ahead (Tch.refl NoBlk w2).drew).ahead HT2.out⟩
        · have hA : s.ab.length < 1024 := by omega
          have hok1 := HQ2.out.ok.more hA
          have HM := Lib.hid (rl_make HD.out (tmakeM_tok HQ2.out.ok hA) hok1)
          have E1 := Lib.hid (show ({ waiL (moreL s) ⟨4, fn, 0, s.ab.length⟩ with prs := (thenM s.prs id s.wai.length).1 }, s.ab.length, 0) = r by have := HR.out; simpa [ha, hg] using this)
          have HTE := Lib.hid (thenM_err HVT.out hg (s.wai.length : Int))
          have HOKW : Hid (LOk (waiL (moreL s) ⟨4, fn, 0, s.ab.length⟩)) := Lib.hid (hok1.putWai tokOk_more (by have := HWL.out; simp [moreL]; omega))
          clear HR ha hA hok1
          generalize hN : (s.ab.length : Int) = Nn at *
          have HNN := Lib.hid hN
          clear hN
          go_wp2_with fail
          refine HWT.out.mono ?_
          rintro e w0 ⟨rfl, h0⟩; subst w0
          go_wp2_with fail
          go_region_law (go_simp; go_at_call 68; refine HM.out.mono ?_; rintro e w3 ⟨rfl, h3⟩; have H3 : Hid (RLeft w2.drew w3 b F (moreL s)) := Lib.hid h3; clear h3)
          all_goals
            obtain ⟨t3, F3, q3, l3⟩ := H3.out
            have TB := (Tch.refl NoBlk w3).alloc (.cells #[.int .i64 4, .int .i64 fn, .int .i64 0, .int .i64 Nn] 35)
            have hbz : Blk (w3.alloc (.cells #[.int .i64 4, .int .i64 fn, .int .i64 0, .int .i64 Nn] 35)) w3.heap.size 35 [.int .i64 4, .int .i64 fn, .int .i64 0, .int .i64 Nn] := heap_alloc_new w3 _
            have q5 := q3.keep TB (fun _ _ h => h)
            have HTB := Lib.hid TB
            have T3 := Lib.hid t3
            have L3 := Lib.hid l3
            clear TB t3 l3 q3 H3 HM HD c2
            go_upto_region 14 with fail
            generalize w3.alloc (.cells #[.int .i64 4, .int .i64 fn, .int .i64 0, .int .i64 Nn] 35) = w5 at *
            generalize w3.heap.size = z at *
            have p0 := hbz.cellOf 0 _ rfl
            have p1 := hbz.cellOf 1 _ rfl
            have p2 := hbz.cellOf 2 _ rfl
            have p3 := hbz.cellOf 3 _ rfl
            have hwt := rl_wait (q5.keep (Tch.refl NoBlk w5).drew (fun _ _ h => h)) ⟨4, fn, 0, Nn⟩ HOKW.out
            unfold tkv at hwt
            have HWT2 : Hid (Calls Tryz.prog 70 #[.pointer (some ⟨b, 0, none⟩), .agg #[.int .i64 4, .int .i64 fn, .int .i64 0, .int .i64 Nn]] w5.drew fun e w' => e = .returned (.int .i64 s.wai.length) ∧ RLeft w5.drew w' b F3 (waiL (moreL s) ⟨4, fn, 0, Nn⟩)) := Lib.hid hwt
            clear hwt hbz q5 HWT
            go_wp2_with fail
            go_region_law (first | (go_simp; go_at_call 70; refine HWT2.out.mono ?_; rintro e w6 ⟨rfl, ⟨t6, F6, q6, l6⟩⟩; have hth := rl_pthen q6 id (k := (s.wai.length : Int)) ⟨by omega, by simp [waiL, moreL]; omega⟩; have hth2 : Calls Tryz.prog 75 #[.pointer (some ⟨b, 8, none⟩), .int .i64 id, .int .i64 (s.wai.length : Int)] w6 fun e w' => e = .returned (.tuple #[.int .i64 (thenM s.prs id s.wai.length).2.1, .bool (thenM s.prs id s.wai.length).2.2.1, .int .i64 (thenM s.prs id s.wai.length).2.2.2]) ∧ RLeft w6 w' b F6 { waiL (moreL s) ⟨4, fn, 0, Nn⟩ with prs := (thenM s.prs id s.wai.length).1 } := hth; rw [HTE.out] at hth2; have HTH := Lib.hid hth2; have HT6 := Lib.hid t6; have HL6 := Lib.hid l6; clear t6 l6 q6 hth hth2) | (go_simp; go_at_call 75; refine HTH.out.mono ?_; rintro e w8 ⟨rfl, h8⟩; have H8 := Lib.hid h8; clear h8))
            all_goals
              clear p0 p1 p2 p3
              go_wp2
              go_ret2
              rw [← E1.out, HNN.out]
              exact ⟨rfl, ((RLeft.comp T3.out L3.out ((RLeft.comp HT6.out HL6.out H8.out).ahead (HTB.out.trans (Tch.refl NoBlk w5).drew))).ahead (Tch.refl NoBlk w2).drew).ahead HT2.out⟩
  · have E1 := Lib.hid (show (s, 0, 2) = r by have := HR.out; simpa using this)
    clear HR
    go_wp2
    go_ret2
    rw [← E1.out]
    exact ⟨rfl, (RLeft.same HQ2.out).ahead HT2.out⟩
end
end Go.Proofs.YtipbimbnpikbcaaGreat
