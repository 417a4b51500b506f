/- What the document's promises do. -/
import Derived.Test.YtfmkjnlelijnoaaRefPrs
import Derived.Deep.RegionLaw
import Derived.BigRegion
namespace Go.Proofs.Ytfmkjnlelijnoaa
open Go.RowKit

section
variable {b o : Nat} {ty : TypeId} {cs : List Value} {vs : List Pv} {A : Option Addr} {c : Nat} {G : Option Nat}
theorem refprs_is_no (id : Int) (w : World) (h : RefPrsAt w b ty cs o vs A c G) (hid : id < 0 ∨ (vs.length : Int) ≤ id) :
    Calls Try.prog 27 #[.pointer (some ⟨b, o, none⟩), .int .i64 id] w fun e w' => e = .returned (.bool false) ∧ w' = w := by
  have hc := h.blk.cellOf o _ h.at_
  clear h
  rcases Int.lt_or_le id 0 with g | g
  · have d : decide ((0 : Int) ≤ id) = false := by simp; omega
    clear hid g
    go_enter Try.func27, Try.ntmps27
    go_wp2
    go_ret
    exact ⟨rfl, rfl⟩
  · have d : decide ((0 : Int) ≤ id) = true := by simp; omega
    have d2 : decide (id < (vs.length : Int)) = false := by simp; omega
    clear hid g
    go_enter Try.func27, Try.ntmps27
    go_wp2
    go_ret
    exact ⟨rfl, rfl⟩
theorem refprs_is_yes (i : Nat) (w : World) (h : RefPrsAt w b ty cs o vs A c G) (hi : i < vs.length) :
    Calls Try.prog 27 #[.pointer (some ⟨b, o, none⟩), .int .i64 i] w fun e w' => e = .returned (.bool true) ∧ w' = w := by
  have hc := h.blk.cellOf o _ h.at_
  clear h
  have d : decide ((0 : Int) ≤ (i : Int)) = true := by simp
  have d2 : decide ((i : Int) < (vs.length : Int)) = true := by simp; omega
  have d3 : decide (i < vs.length) = true := by simp; omega
  go_enter Try.func27, Try.ntmps27
  go_wp2
  go_ret
  exact ⟨rfl, rfl⟩
end

theorem prOf_map (vs : List Pv) (id : Int) (h : prOf (vs.map (·.pr)) id = none) : id < 0 ∨ (vs.length : Int) ≤ id := by
  have := prOf_none h
  rwa [List.length_map] at this
theorem prOf_map_some (vs : List Pv) (id : Int) (p : Pr) (h : prOf (vs.map (·.pr)) id = some p) : ∃ (i : Nat) (x : Pv), id = i ∧ vs[i]? = some x ∧ x.pr = p := by
  obtain ⟨i, rfl, h2⟩ := prOf_some h
  rw [List.getElem?_map] at h2
  cases hx : vs[i]? with
  | none => rw [hx] at h2; cases h2
  | some x =>
    rw [hx] at h2
    injection h2 with h2
    exact ⟨i, x, rfl, hx, h2⟩

theorem refprs_value (b o : Nat) (ty : TypeId) (cs : List Value) (l : List Pr) (F : Nat → Prop) (id : Int) (w : World) (h : RefPrsQ w b ty cs o l F) :
    Calls Try.prog 19 #[.pointer (some ⟨b, o, none⟩), .int .i64 id] w fun e w' => e = .returned (.tuple #[.int .i64 (valueM l id).1, .bool (valueM l id).2.1, .int .i64 (valueM l id).2.2]) ∧ ∃ n, w' = w.drewN n := by
  obtain ⟨vs, A, c, G, h, rfl, _⟩ := h
  unfold valueM
  have HH := Lib.hid h
  cases hp : prOf (vs.map (·.pr)) id with
  | none =>
    have hid := prOf_map vs id hp
    clear hp h
    go_enter Try.func19, Try.ntmps19
    go_wp2_with fail
    refine (refprs_is_no id w HH.out hid).mono ?_
    rintro e w0 ⟨rfl, h0⟩; subst w0
    go_wp2
    go_ret3
    exact ⟨rfl, 0, rfl⟩
  | some p =>
    obtain ⟨i, x, rfl, hx, rfl⟩ := prOf_map_some vs id p hp
    have hil : i < vs.length := (List.getElem?_eq_some_iff.1 hx).1
    have hc := h.blk.cellOf o _ h.at_
    obtain ⟨g, rfl, rfl, hcl⟩ := h.sl.cells (by omega)
    obtain ⟨g0, g1, g2⟩ := pcells_get vs i x hx
    have c0 := hcl _ _ g0
    have c1 := hcl _ _ g1
    have hcap := h.sl.cap_le
    have h512 := h.le
    clear hp h hcl g0 g1 g2
    go_enter Try.func19, Try.ntmps19
    go_wp2_with fail
    refine (refprs_is_yes i w HH.out hil).mono ?_
    rintro e w0 ⟨rfl, h0⟩; subst w0
    go_wp2_with fail
    go_quiet (fail)
    go_wp2
    go_ret3
    exact ⟨rfl, _, rfl⟩

theorem refprs_waits (b o : Nat) (ty : TypeId) (cs : List Value) (l : List Pr) (F : Nat → Prop) (id : Int) (w : World) (h : RefPrsQ w b ty cs o l F) :
    Calls Try.prog 22 #[.pointer (some ⟨b, o, none⟩), .int .i64 id] w fun e w' => e = .returned (.int .i64 (waitsM l id)) ∧ w' = w := by
  obtain ⟨vs, A, c, G, h, rfl, _⟩ := h
  unfold waitsM
  have HH := Lib.hid h
  cases hp : prOf (vs.map (·.pr)) id with
  | none =>
    have hid := prOf_map vs id hp
    clear hp h
    go_enter Try.func22, Try.ntmps22
    go_wp2_with fail
    refine (refprs_is_no id w HH.out hid).mono ?_
    rintro e w0 ⟨rfl, h0⟩; subst w0
    go_wp2
    go_ret
    exact ⟨rfl, rfl⟩
  | some p =>
    obtain ⟨i, x, rfl, hx, rfl⟩ := prOf_map_some vs id p hp
    have hil : i < vs.length := (List.getElem?_eq_some_iff.1 hx).1
    have hc := h.blk.cellOf o _ h.at_
    obtain ⟨g, rfl, rfl, hcl⟩ := h.sl.cells (by omega)
    obtain ⟨g0, g1, g2⟩ := pcells_get vs i x hx
    have c2 := hcl _ _ g2
    have hcap := h.sl.cap_le
    have h512 := h.le
    clear hp h hcl g0 g1 g2
    go_enter Try.func22, Try.ntmps22
    go_wp2_with fail
    refine (refprs_is_yes i w HH.out hil).mono ?_
    rintro e w0 ⟨rfl, h0⟩; subst w0
    go_wp2
    go_ret
    exact ⟨rfl, rfl⟩

theorem set_self {α : Type} {cs : List α} {o : Nat} {v : α} (h : cs[o]? = some v) : cs.set o v = cs := by
  apply List.ext_getElem?
  intro i
  by_cases hi : o = i
  · subst hi
    rw [List.getElem?_set_self (List.getElem?_eq_some_iff.1 h).1, h]
  · rw [List.getElem?_set_ne hi]

/-- What a call that changes the promises leaves. -/
def PrsLeft (w w' : World) (b : Nat) (ty : TypeId) (cs : List Value) (o : Nat) (F : Nat → Prop) (l' : List Pr) : Prop :=
  Tch F w w' ∧ ∃ v F', RefPrsQ w' b ty (cs.set o v) o l' F' ∧ ∀ k, F' k → F k ∨ w.heap.size ≤ k
theorem PrsLeft.same {w w' : World} {b : Nat} {ty : TypeId} {cs : List Value} {o : Nat} {F : Nat → Prop} {l : List Pr} (h : RefPrsQ w b ty cs o l F) (hT : Tch NoBlk w w') : PrsLeft w w' b ty cs o F l := by
  obtain ⟨A, c, hat, _⟩ := h.lenOf
  refine ⟨hT.mono (fun _ _ h => h.elim), .slice A l.length c, F, ?_, fun k hk => .inl hk⟩
  rw [set_self hat]
  exact h.keep hT (fun _ _ h => h)

set_option maxRecDepth 100000 in
theorem refprs_make (b o : Nat) (ty : TypeId) (cs : List Value) (l : List Pr) (F : Nat → Prop) (w : World) (h : RefPrsQ w b ty cs o l F) :
    Calls Try.prog 15 #[.pointer (some ⟨b, o, none⟩)] w fun e w' => e = .returned (.tuple #[.int .i64 (makeM l).2.1, .int .i64 (makeM l).2.2]) ∧ PrsLeft w w' b ty cs o F (makeM l).1 := by
  have HQ := Lib.hid h
  obtain ⟨vs, A, c, G, h, rfl, hF⟩ := h
  have HF := Lib.hid hF
  have hc := h.blk.cellOf o _ h.at_
  have hcap := h.sl.cap_le
  unfold makeM
  rw [List.length_map]
  by_cases hl : 512 ≤ vs.length
  · rw [if_pos hl]
    clear h hF
    go_enter Try.func15, Try.ntmps15
    go_wp2
    go_ret2
    exact ⟨rfl, PrsLeft.same HQ.out (Tch.refl _ w)⟩
  · rw [if_neg hl]
    have hl2 : vs.length < 512 := by omega
    have hb := h.blk
    have hs := h.sl
    have hnb := h.nb
    have hat := h.at_
    have hlb := hb.lt
    have hcA : ∀ ob, (w.alloc ob).cell? ⟨b, o, none⟩ = some (.slice A vs.length c) := fun ob => ((Tch.refl NoBlk w).alloc ob).cell' hc (fun h => h)
    have HH := Lib.hid h
    clear h hF
    go_enter Try.func15, Try.ntmps15
    go_wp2_with (at_builtin; refine wpList_app _ rfl (.tmp 14) (.tmp 16) 37 rfl 68 (.agg #[.bool false, .int .i64 0, .slice none 0 0]) 3 40 Try.underlying37 infoOne rfl (by decide) (by decide) _ _ _ _ _ _ _ _ _ rfl rfl (hs.alloc _) (Src.made w 68 #[.bool false, .int .i64 0, .slice none 0 0] 1 rfl) (pcells_one [⟨⟨false, 0, []⟩, none, 0, none⟩]) (by omega) ?_; intro A6 c6 w6 G6 hs6 ht6 hg6; have HS6 := Lib.hid hs6; have HT6 : Hid (Tch (fun i => G = some i) w w6) := Lib.hid (Tch.then ((Tch.refl _ w).alloc _) ht6 (fun _ _ h => h)); have HG6 := Lib.hid hg6; have hb6 := hb.keep HT6.out hnb; have hc6 := hb6.cellOf o _ hat; have hf6 := hb6.free o; clear hs6 ht6 hg6)
    go_ret2
    have hs' : Sl w6 68 3 A6 (vs.length + 1) c6 (pcells (vs ++ [⟨⟨false, 0, []⟩, none, 0, none⟩])) G6 := by rw [pcells_app]; exact HS6.out
    have hg6 : G6 = G ∨ ∃ g, G6 = some g ∧ w.heap.size ≤ g := HG6.out.elim .inl (fun ⟨g, h1, h2⟩ => .inr ⟨g, h1, by simp at h2; omega⟩)
    obtain ⟨h7, hF7, hT7⟩ := HH.out.more HT6.out hl2 hs' hg6
    refine ⟨by simp, hT7.mono (fun k _ e => (HF.out k).2 e), _, _, ⟨_, _, _, _, h7, by simp, fun _ => Iff.rfl⟩, fun k hk => ?_⟩
    rcases hF7 k hk with e | e
    · exact .inl ((HF.out k).2 e)
    · exact .inr e

theorem Sl.drew1 {w : World} {e : TypeId} {sz n cap : Nat} {A : Option Addr} {xs : List Value} {G : Option Nat} (h : Sl w e sz A n cap xs G) : Sl w.drew e sz A n cap xs G := h.keep (Tch.refl NoBlk w).drew (fun _ _ h => h)
theorem Src.madeAt1 {w : World} {r : Int} {g : Nat} (hg : w.heap.size = g) : Src (w.alloc (.cells #[.int .i64 r] 3)) 1 (some ⟨g, 0, none⟩) 1 [.int .i64 r] := Src.madeAt w 3 #[.int .i64 r] 1 g hg rfl
theorem Src.drew1 {w : World} {r : Int} {g : Nat} (h : Src w 1 (some ⟨g, 0, none⟩) 1 [.int .i64 r]) : Src w.drew 1 (some ⟨g, 0, none⟩) 1 [.int .i64 r] := Src.keep h (Tch.refl NoBlk w).drew (fun _ _ h => h)
theorem Src.alloc1 {w : World} {r : Int} {g : Nat} {ob : Obj} (h : Src w 1 (some ⟨g, 0, none⟩) 1 [.int .i64 r]) : Src (w.alloc ob) 1 (some ⟨g, 0, none⟩) 1 [.int .i64 r] := Src.keep h ((Tch.refl NoBlk w).alloc ob) (fun _ _ h => h)

/-- 'step_app', where one more operand tells which order it is. -/
theorem step_app2 {P : Program} {w : World} {ops : Array Oper} {o : Oper} {a : Act} {K : Act → World → Prop} {Q : Exit → Act → World → Prop} {E : Prop} (y : Operand) (vy : Value) (_hy : a.eval y = vy) (hgd : o.guard = none) (s x : Operand) (t : TypeId)
    (ho : o.op = .call { callee := .builtin .append, args := #[s, x], argTypes := #[t, t] })
    (e : TypeId) (z : Value) (sz bytes : Nat) (ht : P.underlying t = some (.slice e)) (hinfo : (P.info? e).map (fun i => (i.zero, i.size, i.bytes)) = some (some z, sz, bytes)) (hzs : z.cells.size = sz) (hsz : 0 < sz) (hb0 : 0 < bytes)
    (A : Option Addr) (n cap : Nat) (xs : List Value) (G : Option Nat) (B : Option Addr) (m c : Nat) (news : List Value)
    (hv : a.eval s = .slice A n cap) (hx : a.eval x = .slice B m c)
    (h : Sl w e sz A n cap xs G) (hs : Src w sz B m news) (h1 : ∀ u ∈ news, u.oneCell' = true) (hbytes : (n + m) * bytes ≤ 140737488355328)
    (hk : ∀ A' cap' w' G', Sl w' e sz A' (n + m) cap' (xs ++ news) G' → Tch (fun k => G = some k) w w' → (G' = G ∨ ∃ g, G' = some g ∧ w.heap.size ≤ g) → K (a.put o.dst (.slice A' (n + m) cap')) w') :
    if Region.wanted o (yielded ops a.tmps) = true then Oper.wp P o a w K Q else E :=
  step_app _ hgd s x t ho e z sz bytes ht hinfo hzs hsz hb0 A n cap xs G B m c news hv hx h hs h1 hbytes hk

theorem RefPrsAt.thenDone {w w6 : World} {b o g i : Nat} {ty : TypeId} {cs : List Value} {vs : List Pv} {c : Nat} {x : Pv} {F : Nat → Prop} {A6 : Option Addr} {c6 : Nat} {G6 : Option Nat} {r : Int}
    (h : RefPrsAt w b ty cs o vs (some ⟨g, 0, none⟩) c (some g)) (hx : vs[i]? = some x) (_ht : x.pr.told = false) (hl : x.pr.q.length < 256) (HT : Tch NoBlk w w6)
    (HS : Sl w6 3 1 A6 (x.pr.q.length + 1) c6 (ints x.pr.q ++ [.int .i64 r]) G6) (HN : ∀ k, G6 = some k → w.heap.size ≤ k) (hF : ∀ k, F k ↔ PrF b vs (some g) k) :
    PrsLeft w (w6.setCell ⟨g, i * 3 + 2, none⟩ (.slice A6 (x.pr.q.length + 1) c6)) b ty cs o F ((vs.map (·.pr)).set (i : Int).toNat ⟨x.pr.told, x.pr.value, x.pr.q ++ [r]⟩) := by
  have hil : i < vs.length := (List.getElem?_eq_some_iff.1 hx).1
  have hlg := h.sl.lt g rfl
  obtain ⟨g0, g1, g2⟩ := pcells_get vs i x hx
  have e1 : (x.pr.q ++ [r]).length = x.pr.q.length + 1 := by simp
  have hs8 := (h.sl.keep HT (fun _ _ h => h)).set (i * 3 + 2) (.slice A6 (x.pr.q.length + 1) c6)
  have hT8 := (HT.mono (T := (· = g)) (fun _ _ h => h.elim)).trans ((h.sl.keep HT (fun _ _ h => h)).setT (i * 3 + 2) (.slice A6 (x.pr.q.length + 1) c6))
  have hcells := pcells_set vs i ⟨⟨x.pr.told, x.pr.value, x.pr.q ++ [r]⟩, A6, c6, G6⟩ hil
  dsimp only at hcells
  rw [set_self g0, set_self g1, e1] at hcells
  rw [hcells] at hs8
  have hy : Sl (w6.setCell ⟨g, i * 3 + 2, none⟩ (.slice A6 (x.pr.q.length + 1) c6)) 3 1 A6 (x.pr.q ++ [r]).length c6 (ints (x.pr.q ++ [r])) G6 := by
    rw [e1, ints, List.map_append]
    exact HS.keep ((h.sl.keep HT (fun _ _ h => h)).setT (i * 3 + 2) (.slice A6 (x.pr.q.length + 1) c6)) (fun k hk e => by have := HN k hk; omega)
  obtain ⟨h10, hF10⟩ := h.put i x ⟨⟨x.pr.told, x.pr.value, x.pr.q ++ [r]⟩, A6, c6, G6⟩ hx hT8 hs8 hy (fun k hk => .inr (HN k hk)) (by rw [e1]; omega)
  refine ⟨hT8.mono (fun k _ e => (hF k).2 (.inr (.inl (by rw [e])))), .slice (some ⟨g, 0, none⟩) vs.length c, PrF b (vs.set i ⟨⟨x.pr.told, x.pr.value, x.pr.q ++ [r]⟩, A6, c6, G6⟩) (some g), ⟨vs.set i ⟨⟨x.pr.told, x.pr.value, x.pr.q ++ [r]⟩, A6, c6, G6⟩, some ⟨g, 0, none⟩, c, some g, ?_, ?_, fun _ => Iff.rfl⟩, fun k hk => ?_⟩
  · rw [set_self h.at_]
    exact h10
  · simp [List.map_set]
  · rcases hF10 k hk with e | e
    · exact .inl ((hF k).2 e)
    · exact .inr e

set_option maxHeartbeats 20000000 in
set_option maxRecDepth 100000 in
theorem refprs_then (b o : Nat) (ty : TypeId) (cs : List Value) (l : List Pr) (F : Nat → Prop) (id r : Int) (w : World) (h : RefPrsQ w b ty cs o l F) :
    Calls Try.prog 16 #[.pointer (some ⟨b, o, none⟩), .int .i64 id, .int .i64 r] w fun e w' => e = .returned (.tuple #[.int .i64 (thenM l id r).2.1, .bool (thenM l id r).2.2.1, .int .i64 (thenM l id r).2.2.2]) ∧ PrsLeft w w' b ty cs o F (thenM l id r).1 := by
  have HQ := Lib.hid h
  obtain ⟨vs, A, c, G, h, rfl, hF⟩ := h
  have HF := Lib.hid hF
  unfold thenM
  have HH := Lib.hid h
  clear hF
  cases hp : prOf (vs.map (·.pr)) id with
  | none =>
    have hid := prOf_map vs id hp
    clear hp h
    go_enter Try.func16, Try.ntmps16
    go_wp2_with fail
    refine (refprs_is_no id w HH.out hid).mono ?_
    rintro e w0 ⟨rfl, h0⟩; subst w0
    go_wp2
    go_ret3
    exact ⟨rfl, PrsLeft.same HQ.out (Tch.refl _ w)⟩
  | some p =>
    obtain ⟨i, x, rfl, hx, rfl⟩ := prOf_map_some vs id p hp
    have hil : i < vs.length := (List.getElem?_eq_some_iff.1 hx).1
    have hc := h.blk.cellOf o _ h.at_
    obtain ⟨g, rfl, rfl, hcl⟩ := h.sl.cells (by omega)
    obtain ⟨g0, g1, g2⟩ := pcells_get vs i x hx
    have c0 := hcl _ _ g0
    have c1 := hcl _ _ g1
    have c2 := hcl _ _ g2
    have hcap := h.sl.cap_le
    have h512 := h.le
    have hq := h.qle i x hx
    clear hp hcl g0 g1
    dsimp only
    by_cases ht : x.pr.told = true
    · rw [if_pos ht]
      rw [ht] at c0
      clear h g2
      go_enter Try.func16, Try.ntmps16
      go_wp2_with fail
      refine (refprs_is_yes i w HH.out hil).mono ?_
      rintro e w0 ⟨rfl, h0⟩; subst w0
      go_wp2
      go_ret3
      exact ⟨rfl, PrsLeft.same HQ.out (Tch.refl _ w)⟩
    · have ht2 : x.pr.told = false := by simpa using ht
      rw [if_neg ht]
      rw [ht2] at c0
      by_cases hl : x.pr.q.length < 256
      · rw [if_pos hl]
        have hsl := h.sl
        have hsx := h.each i x hx
        have hg := h.sl.free (i * 3 + 2)
        have hbg : ¬ b = g := fun e => h.nb (by rw [e])
        clear h
        go_enter Try.func16, Try.ntmps16
        go_wp2_with fail
        refine (refprs_is_yes i w HH.out hil).mono ?_
        rintro e w0 ⟨rfl, h0⟩; subst w0
        have hxD := hsx.keep (Tch.refl NoBlk w).drew (fun _ _ h => h)
        have hcD : ∀ ob, (w.alloc ob).cell? ⟨b, o, none⟩ = some (.slice (some ⟨g, 0, none⟩) vs.length c) := fun ob => ((Tch.refl NoBlk w).alloc ob).cell' hc (fun h => h)
        have hcE : ∀ ob, (w.alloc ob).cell? ⟨g, i * 3 + 2, none⟩ = some (.slice x.A x.pr.q.length x.c) := fun ob => ((Tch.refl NoBlk w).alloc ob).cell' c2 (fun h => h)
        have hcD2 : ∀ ob oc, ((w.alloc ob).alloc oc).cell? ⟨b, o, none⟩ = some (.slice (some ⟨g, 0, none⟩) vs.length c) := fun ob oc => (((Tch.refl NoBlk w).alloc ob).alloc oc).cell' hc (fun h => h)
        have hcE2 : ∀ ob oc, ((w.alloc ob).alloc oc).cell? ⟨g, i * 3 + 2, none⟩ = some (.slice x.A x.pr.q.length x.c) := fun ob oc => (((Tch.refl NoBlk w).alloc ob).alloc oc).cell' c2 (fun h => h)
        go_wp2_with fail
        go_region_law (first
          | (refine step_app2 (.tmp 55) (undef) (by simp [Act.eval]) rfl (.tmp 44) (.tmp 52) 28 rfl 3 (.int .i64 0) 1 8 Try.underlying28 infoInt rfl (by decide) (by decide) (some ⟨w.heap.size, 0, none⟩) 0 0 [] (some (w.heap.size)) x.A x.pr.q.length x.c (ints x.pr.q) (by simp [Act.eval]) (by simp [Act.eval]) (by exact (Sl.made w 3 #[] 0 rfl (by decide)).drew1) (by exact (hsx.keep ((Tch.refl NoBlk w).alloc (.cells #[] 3)).drew (fun _ _ h => h)).src) (ints_one x.pr.q) (by omega) ?_; intro A5 c5 w5 G5 hs5 ht5 hg5; simp only [Nat.zero_add, List.nil_append] at hs5; have HS5 := Lib.hid hs5; have HT5 : Hid (Tch NoBlk w w5) := Lib.hid (tch_own ((Tch.refl NoBlk w).alloc (.cells #[] 3)).drew ht5 (own_some (by omega))); have HN5 : Hid (∀ k, G5 = some k → w.heap.size ≤ k) := Lib.hid (own_from (Tch.size ((Tch.refl NoBlk w).alloc (.cells #[] 3)).drew) (own_some (by omega)) hg5); have hc5 : w5.cell? ⟨b, o, none⟩ = some (.slice (some ⟨g, 0, none⟩) vs.length c) := HT5.out.cell' hc (fun h => h); have hc5L : w5.cell? ⟨g, i * 3 + 2, none⟩ = some (.slice x.A x.pr.q.length x.c) := HT5.out.cell' c2 (fun h => h); have hc5LA : ∀ ob, (w5.alloc ob).cell? ⟨g, i * 3 + 2, none⟩ = some (.slice x.A x.pr.q.length x.c) := fun ob => (HT5.out.alloc ob).cell' c2 (fun h => h); have hc5A : ∀ ob, (w5.alloc ob).cell? ⟨b, o, none⟩ = some (.slice (some ⟨g, 0, none⟩) vs.length c) := fun ob => (HT5.out.alloc ob).cell' hc (fun h => h); clear hs5 ht5 hg5)
          | (refine step_app2 (.tmp 55) (.slice (some ⟨w.heap.size + 1, 0, none⟩) 1 1) (by simp [Act.eval]) rfl (.tmp 44) (.tmp 52) 28 rfl 3 (.int .i64 0) 1 8 Try.underlying28 infoInt rfl (by decide) (by decide) (some ⟨w.heap.size, 0, none⟩) 0 0 [] (some (w.heap.size)) x.A x.pr.q.length x.c (ints x.pr.q) (by simp [Act.eval]) (by simp [Act.eval]) (by exact ((Sl.made w 3 #[] 0 rfl (by decide)).alloc _).drew1) (by exact (hsx.keep (((Tch.refl NoBlk w).alloc (.cells #[] 3)).alloc (.cells #[.int .i64 r] 3)).drew (fun _ _ h => h)).src) (ints_one x.pr.q) (by omega) ?_; intro A5 c5 w5 G5 hs5 ht5 hg5; simp only [Nat.zero_add, List.nil_append] at hs5; have HR := Lib.hid (Src.keep (Src.drew1 (Src.madeAt1 (w := w.alloc (.cells #[] 3)) (r := r) (World.size_alloc _ _))) ht5 (fun a e h => by injection e with e; subst e; injection h with h; simp at h)); have HS5 := Lib.hid hs5; have HT5 : Hid (Tch NoBlk w w5) := Lib.hid (tch_own (((Tch.refl NoBlk w).alloc (.cells #[] 3)).alloc (.cells #[.int .i64 r] 3)).drew ht5 (own_some (by omega))); have HN5 : Hid (∀ k, G5 = some k → w.heap.size ≤ k) := Lib.hid (own_from (Tch.size (((Tch.refl NoBlk w).alloc (.cells #[] 3)).alloc (.cells #[.int .i64 r] 3)).drew) (own_some (by omega)) hg5); have hc5 : w5.cell? ⟨b, o, none⟩ = some (.slice (some ⟨g, 0, none⟩) vs.length c) := HT5.out.cell' hc (fun h => h); have hc5L : w5.cell? ⟨g, i * 3 + 2, none⟩ = some (.slice x.A x.pr.q.length x.c) := HT5.out.cell' c2 (fun h => h); have hc5LA : ∀ ob, (w5.alloc ob).cell? ⟨g, i * 3 + 2, none⟩ = some (.slice x.A x.pr.q.length x.c) := fun ob => (HT5.out.alloc ob).cell' c2 (fun h => h); have hc5A : ∀ ob, (w5.alloc ob).cell? ⟨b, o, none⟩ = some (.slice (some ⟨g, 0, none⟩) vs.length c) := fun ob => (HT5.out.alloc ob).cell' hc (fun h => h); clear hs5 ht5 hg5)
          | (refine step_app2 (.tmp 55) (.slice (some ⟨w.heap.size, 0, none⟩) 1 1) (by simp [Act.eval]) rfl (.tmp 44) (.tmp 52) 28 rfl 3 (.int .i64 0) 1 8 Try.underlying28 infoInt rfl (by decide) (by decide) (some ⟨w.heap.size + 1, 0, none⟩) 0 0 [] (some (w.heap.size + 1)) x.A x.pr.q.length x.c (ints x.pr.q) (by simp [Act.eval]) (by simp [Act.eval]) (by exact (Sl.madeAt (w.alloc (.cells #[.int .i64 r] 3)) 3 #[] 0 (w.heap.size + 1) (World.size_alloc _ _) rfl (by decide)).drew1) (by exact (hsx.keep (((Tch.refl NoBlk w).alloc (.cells #[.int .i64 r] 3)).alloc (.cells #[] 3)).drew (fun _ _ h => h)).src) (ints_one x.pr.q) (by omega) ?_; intro A5 c5 w5 G5 hs5 ht5 hg5; simp only [Nat.zero_add, List.nil_append] at hs5; have HR := Lib.hid (Src.keep (Src.drew1 (Src.alloc1 (ob := .cells #[] 3) (Src.madeAt1 (w := w) (r := r) rfl))) ht5 (fun a e h => by injection e with e; subst e; injection h with h; simp at h)); have HS5 := Lib.hid hs5; have HT5 : Hid (Tch NoBlk w w5) := Lib.hid (tch_own (((Tch.refl NoBlk w).alloc (.cells #[.int .i64 r] 3)).alloc (.cells #[] 3)).drew ht5 (own_some (by omega))); have HN5 : Hid (∀ k, G5 = some k → w.heap.size ≤ k) := Lib.hid (own_from (Tch.size (((Tch.refl NoBlk w).alloc (.cells #[.int .i64 r] 3)).alloc (.cells #[] 3)).drew) (own_some (by omega)) hg5); have hc5 : w5.cell? ⟨b, o, none⟩ = some (.slice (some ⟨g, 0, none⟩) vs.length c) := HT5.out.cell' hc (fun h => h); have hc5L : w5.cell? ⟨g, i * 3 + 2, none⟩ = some (.slice x.A x.pr.q.length x.c) := HT5.out.cell' c2 (fun h => h); have hc5LA : ∀ ob, (w5.alloc ob).cell? ⟨g, i * 3 + 2, none⟩ = some (.slice x.A x.pr.q.length x.c) := fun ob => (HT5.out.alloc ob).cell' c2 (fun h => h); have hc5A : ∀ ob, (w5.alloc ob).cell? ⟨b, o, none⟩ = some (.slice (some ⟨g, 0, none⟩) vs.length c) := fun ob => (HT5.out.alloc ob).cell' hc (fun h => h); clear hs5 ht5 hg5)
          | (refine step_app _ rfl (.tmp 53) (.tmp 55) 28 rfl 3 (.int .i64 0) 1 8 Try.underlying28 infoInt rfl (by decide) (by decide) A5 x.pr.q.length c5 (ints x.pr.q) G5 (some ⟨w5.heap.size, 0, none⟩) 1 1 [.int .i64 r] (by simp [Act.eval]) (by simp [Act.eval]) (by exact HS5.out.alloc _) (by exact Src.madeAt1 rfl) (ints_one [r]) (by omega) ?_; intro A6 c6 w6 G6 hs6 ht6 hg6; have HS6 := Lib.hid hs6; have HT6 : Hid (Tch NoBlk w w6) := Lib.hid (tch_own (HT5.out.alloc (.cells #[.int .i64 r] 3)) ht6 HN5.out); have HN6 : Hid (∀ k, G6 = some k → w.heap.size ≤ k) := Lib.hid (own_from (Tch.size (HT5.out.alloc (.cells #[.int .i64 r] 3))) HN5.out hg6); have hs7 := hsl.keep HT6.out (fun _ _ h => h); have hc7 : w6.cell? ⟨g, i * 3 + 2, none⟩ = some (.slice x.A x.pr.q.length x.c) := HT6.out.cell' c2 (fun h => h); have hf7 := hs7.free (i * 3 + 2); have hc8 : w6.cell? ⟨b, o, none⟩ = some (.slice (some ⟨g, 0, none⟩) vs.length c) := HT6.out.cell' hc (fun h => h); have hc9 : ∀ u, (w6.setCell ⟨g, i * 3 + 2, none⟩ u).cell? ⟨b, o, none⟩ = some (.slice (some ⟨g, 0, none⟩) vs.length c) := fun u => ((Tch.refl (· = g) w6).setCell (p := ⟨g, i * 3 + 2, none⟩) (fun _ => rfl) u).cell' hc8 hbg; clear hs6 ht6 hg6 hs7)
          | (refine step_app _ rfl (.tmp 53) (.tmp 55) 28 rfl 3 (.int .i64 0) 1 8 Try.underlying28 infoInt rfl (by decide) (by decide) A5 x.pr.q.length c5 (ints x.pr.q) G5 (some ⟨w.heap.size + 1, 0, none⟩) 1 1 [.int .i64 r] (by simp [Act.eval]) (by simp [Act.eval]) (by exact HS5.out) (by exact HR.out) (ints_one [r]) (by omega) ?_; intro A6 c6 w6 G6 hs6 ht6 hg6; have HS6 := Lib.hid hs6; have HT6 : Hid (Tch NoBlk w w6) := Lib.hid (tch_own HT5.out ht6 HN5.out); have HN6 : Hid (∀ k, G6 = some k → w.heap.size ≤ k) := Lib.hid (own_from (Tch.size HT5.out) HN5.out hg6); have hs7 := hsl.keep HT6.out (fun _ _ h => h); have hc7 : w6.cell? ⟨g, i * 3 + 2, none⟩ = some (.slice x.A x.pr.q.length x.c) := HT6.out.cell' c2 (fun h => h); have hf7 := hs7.free (i * 3 + 2); have hc8 : w6.cell? ⟨b, o, none⟩ = some (.slice (some ⟨g, 0, none⟩) vs.length c) := HT6.out.cell' hc (fun h => h); have hc9 : ∀ u, (w6.setCell ⟨g, i * 3 + 2, none⟩ u).cell? ⟨b, o, none⟩ = some (.slice (some ⟨g, 0, none⟩) vs.length c) := fun u => ((Tch.refl (· = g) w6).setCell (p := ⟨g, i * 3 + 2, none⟩) (fun _ => rfl) u).cell' hc8 hbg; clear hs6 ht6 hg6 hs7)
          | (refine step_app _ rfl (.tmp 53) (.tmp 55) 28 rfl 3 (.int .i64 0) 1 8 Try.underlying28 infoInt rfl (by decide) (by decide) A5 x.pr.q.length c5 (ints x.pr.q) G5 (some ⟨w.heap.size, 0, none⟩) 1 1 [.int .i64 r] (by simp [Act.eval]) (by simp [Act.eval]) (by exact HS5.out) (by exact HR.out) (ints_one [r]) (by omega) ?_; intro A6 c6 w6 G6 hs6 ht6 hg6; have HS6 := Lib.hid hs6; have HT6 : Hid (Tch NoBlk w w6) := Lib.hid (tch_own HT5.out ht6 HN5.out); have HN6 : Hid (∀ k, G6 = some k → w.heap.size ≤ k) := Lib.hid (own_from (Tch.size HT5.out) HN5.out hg6); have hs7 := hsl.keep HT6.out (fun _ _ h => h); have hc7 : w6.cell? ⟨g, i * 3 + 2, none⟩ = some (.slice x.A x.pr.q.length x.c) := HT6.out.cell' c2 (fun h => h); have hf7 := hs7.free (i * 3 + 2); have hc8 : w6.cell? ⟨b, o, none⟩ = some (.slice (some ⟨g, 0, none⟩) vs.length c) := HT6.out.cell' hc (fun h => h); have hc9 : ∀ u, (w6.setCell ⟨g, i * 3 + 2, none⟩ u).cell? ⟨b, o, none⟩ = some (.slice (some ⟨g, 0, none⟩) vs.length c) := fun u => ((Tch.refl (· = g) w6).setCell (p := ⟨g, i * 3 + 2, none⟩) (fun _ => rfl) u).cell' hc8 hbg; clear hs6 ht6 hg6 hs7))
        all_goals
          have HD := Lib.hid (HH.out.thenDone hx ht2 hl HT6.out HS6.out HN6.out HF.out)
          clear HS6 HT6 HN6 HS5 HT5 HN5 hc7 hf7 hc8 hc5 hc5A hc5L hc5LA hc9
          go_wp2
          go_ret3
          exact ⟨rfl, HD.out⟩
      · rw [if_neg hl]
        have hq2 : x.pr.q.length = 256 := by omega
        rw [hq2] at c2
        clear h g2 hl hq hq2
        go_enter Try.func16, Try.ntmps16
        go_wp2_with fail
        refine (refprs_is_yes i w HH.out hil).mono ?_
        rintro e w0 ⟨rfl, h0⟩; subst w0
        go_wp2
        go_ret3
        exact ⟨rfl, PrsLeft.same HQ.out (Tch.refl _ w)⟩

/-- What was told, out of a block that was the table's own, or none. -/
def PrsTold (w' : World) (F : Nat → Prop) (e : Ending) (l : List Int) (en : Int) (F' : Nat → Prop) : Prop :=
  ∃ A cap G, e = .returned (.tuple #[.slice A l.length cap, .int .i64 en]) ∧ Sl w' 3 1 A l.length cap (ints l) G ∧ ∀ g, G = some g → F g ∧ ¬ F' g

set_option maxHeartbeats 1000000 in
set_option maxRecDepth 100000 in
theorem refprs_settle (b o : Nat) (ty : TypeId) (cs : List Value) (l : List Pr) (F : Nat → Prop) (id v : Int) (w : World) (h : RefPrsQ w b ty cs o l F) :
    Calls Try.prog 17 #[.pointer (some ⟨b, o, none⟩), .int .i64 id, .int .i64 v] w fun e w' => Tch F w w' ∧ ∃ F', PrsTold w' F e (settleM l id v).2.1 (settleM l id v).2.2 F' ∧ RefPrsQ w' b ty cs o (settleM l id v).1 F' ∧ ∀ k, F' k → F k := by
  have HQ := Lib.hid h
  obtain ⟨vs, A, c, G, h, rfl, hF⟩ := h
  have HF := Lib.hid hF
  unfold settleM
  have HH := Lib.hid h
  clear hF
  cases hp : prOf (vs.map (·.pr)) id with
  | none =>
    have hid := prOf_map vs id hp
    clear hp h
    go_enter Try.func17, Try.ntmps17
    go_wp2_with fail
    refine (refprs_is_no id w HH.out hid).mono ?_
    rintro e w0 ⟨rfl, h0⟩; subst w0
    go_wp2
    go_ret2
    exact ⟨Tch.refl _ w, F, ⟨none, 0, none, rfl, Sl.nil _ _ _, fun g h => by simp at h⟩, HQ.out, fun _ h => h⟩
  | some p =>
    obtain ⟨i, x, rfl, hx, rfl⟩ := prOf_map_some vs id p hp
    have hil : i < vs.length := (List.getElem?_eq_some_iff.1 hx).1
    have hc := h.blk.cellOf o _ h.at_
    obtain ⟨g, rfl, rfl, hcl⟩ := h.sl.cells (by omega)
    obtain ⟨g0, g1, g2⟩ := pcells_get vs i x hx
    have c0 := hcl _ _ g0
    have c1 := hcl _ _ g1
    have c2 := hcl _ _ g2
    have hcap := h.sl.cap_le
    have h512 := h.le
    clear hp hcl g0 g1
    dsimp only
    by_cases ht : x.pr.told = true
    · rw [if_pos ht]
      rw [ht] at c0
      clear h g2
      go_enter Try.func17, Try.ntmps17
      go_wp2_with fail
      refine (refprs_is_yes i w HH.out hil).mono ?_
      rintro e w0 ⟨rfl, h0⟩; subst w0
      go_wp2
      go_ret2
      exact ⟨Tch.refl _ w, F, ⟨none, 0, none, rfl, Sl.nil _ _ _, fun g h => by simp at h⟩, HQ.out, fun _ h => h⟩
    · have ht2 : x.pr.told = false := by simpa using ht
      rw [if_neg ht]
      rw [ht2] at c0
      have f0 := h.sl.free (i * 3)
      have f1 := h.sl.free (i * 3 + 1)
      have f2 := h.sl.free (i * 3 + 2)
      clear h g2
      go_enter Try.func17, Try.ntmps17
      go_wp2_with fail
      refine (refprs_is_yes i w HH.out hil).mono ?_
      rintro e w0 ⟨rfl, h0⟩; subst w0
      go_wp2
      go_ret2
      have h := HH.out
      have hs1 := h.sl.set (i * 3) (.bool true)
      have hs2 := hs1.set (i * 3 + 1) (.int .i64 v)
      have hs3 := hs2.set (i * 3 + 2) (.slice none 0 0)
      have hT3 := ((h.sl.setT (i * 3) (.bool true)).trans (hs1.setT (i * 3 + 1) (.int .i64 v))).trans (hs2.setT (i * 3 + 2) (.slice none 0 0))
      have hs4 : Sl _ 68 3 (some ⟨g, 0, none⟩) vs.length c (pcells (vs.set i ⟨⟨true, v, []⟩, none, 0, none⟩)) (some g) := (pcells_set vs i ⟨⟨true, v, []⟩, none, 0, none⟩ hil) ▸ hs3
      obtain ⟨h4, hF4⟩ := h.put i x ⟨⟨true, v, []⟩, none, 0, none⟩ hx hT3 hs4 (Sl.nil _ _ _) (fun k hk => by simp at hk) (by simp)
      refine ⟨hT3.mono (fun k _ e => (HF.out k).2 (.inr (.inl (by rw [e])))), PrF b (vs.set i ⟨⟨true, v, []⟩, none, 0, none⟩) (some g), ⟨x.A, x.c, x.G, rfl, (h.each i x hx).keep hT3 (fun k hk e => (h.nx i x hx).2 k hk (by rw [e])), fun k hk => ⟨(HF.out k).2 (.inr (.inr ⟨i, x, hx, hk⟩)), fun hf => ?_⟩⟩, ⟨_, _, _, _, h4, by simp [List.map_set], fun _ => Iff.rfl⟩, fun k hk => ?_⟩
      · rcases hf with e | e | ⟨j, z, hz, e⟩
        · exact (h.nx i x hx).1 (e ▸ hk)
        · exact (h.nx i x hx).2 k hk e
        · by_cases hj : j = i
          · subst hj
            rw [List.getElem?_set_self hil] at hz
            injection hz with hz
            subst hz
            simp at e
          · rw [List.getElem?_set_ne (Ne.symm hj)] at hz
            exact h.nn i j x z hx hz (Ne.symm hj) k hk e
      · rcases hF4 k hk with e | e
        · exact (HF.out k).2 e
        · have := h4.lt k hk
          simp at this
          omega
end Go.Proofs.Ytfmkjnlelijnoaa
