import Derived.Test.YtipbimbnpikbcaaGreatMg20
import Derived.Deep.RegionLaw
import Derived.BigRegion
import Derived.Test.YtipbimbnpikbcaaGreatMg30
import Derived.Test.YtipbimbnpikbcaaGreatMg19
import Derived.Deep.CutRange
/- What the document's promises do. -/
namespace Go.Proofs.YtipbimbnpikbcaaGreat
open Go.RowKit

section
variable {b o : Nat} {ty : TypeId} {cs : List Value} {vs : List Pv} {A : Option Addr} {c : Nat} {G : Option Nat}
theorem refprs_is_no (id : Int) (w : World) (h : RefPrsAt w b ty cs o vs A c G) (hid : id < 0 ∨ (vs.length : Int) ≤ id) :
    Calls Tryz.prog 92 #[.pointer (some ⟨b, o, none⟩), .int .i64 id] w fun e w' => e = .returned (.bool false) ∧ w' = w := by
  have hc := h.blk.cellOf o _ h.at_
  clear h
  rcases Int.lt_or_le id 0 with g | g
  · have d : decide ((0 : Int) ≤ id) = false := by simp; omega
    clear hid g
    go_enter Tryz.func92, Tryz.ntmps92
    go_wp2
    go_ret
    exact ⟨rfl, rfl⟩
  · have d : decide ((0 : Int) ≤ id) = true := by simp; omega
    have d2 : decide (id < (vs.length : Int)) = false := by simp; omega
    clear hid g
    go_enter Tryz.func92, Tryz.ntmps92
    go_wp2
    go_ret
    exact ⟨rfl, rfl⟩
theorem refprs_is_yes (i : Nat) (w : World) (h : RefPrsAt w b ty cs o vs A c G) (hi : i < vs.length) :
    Calls Tryz.prog 92 #[.pointer (some ⟨b, o, none⟩), .int .i64 i] w fun e w' => e = .returned (.bool true) ∧ w' = w := by
  have hc := h.blk.cellOf o _ h.at_
  clear h
  have d : decide ((0 : Int) ≤ (i : Int)) = true := by simp
  have d2 : decide ((i : Int) < (vs.length : Int)) = true := by simp; omega
  have d3 : decide (i < vs.length) = true := by simp; omega
  go_enter Tryz.func92, Tryz.ntmps92
  go_wp2
  go_ret
  exact ⟨rfl, rfl⟩
end

theorem prOf_map (vs : List Pv) (id : Int) (h : prOf (vs.map (·.pr)) id = none) : id < 0 ∨ (vs.length : Int) ≤ id := by
  have := prOf_none h
  rwa [List.length_map] at this
theorem prOf_map_some (vs : List Pv) (id : Int) (p : Pr) (h : prOf (vs.map (·.pr)) id = some p) : ∃ (i : Nat) (x : Pv), id = i ∧ vs[i]? = some x ∧ x.pr = p := by
  obtain ⟨i, rfl, h2⟩ := prOf_some h
  rw [List.getElem?_map] at h2
  cases hx : vs[i]? with
  | none => rw [hx] at h2; cases h2
  | some x =>
    rw [hx] at h2
    injection h2 with h2
    exact ⟨i, x, rfl, hx, h2⟩

theorem refprs_value (b o : Nat) (ty : TypeId) (cs : List Value) (l : List Pr) (F : Nat → Prop) (id : Int) (w : World) (h : RefPrsQ w b ty cs o l F) :
    Calls Tryz.prog 73 #[.pointer (some ⟨b, o, none⟩), .int .i64 id] w fun e w' => e = .returned (.tuple #[.int .i64 (valueM l id).1, .bool (valueM l id).2.1, .int .i64 (valueM l id).2.2]) ∧ ∃ n, w' = w.drewN n := by
  obtain ⟨vs, A, c, G, h, rfl, _⟩ := h
  unfold valueM
  have HH := Lib.hid h
  cases hp : prOf (vs.map (·.pr)) id with
  | none =>
    have hid := prOf_map vs id hp
    clear hp h
    go_enter Tryz.func73, Tryz.ntmps73
    go_wp2_with fail
    refine (refprs_is_no id w HH.out hid).mono ?_
    rintro e w0 ⟨rfl, h0⟩; subst w0
    go_wp2
    go_ret3
    exact ⟨rfl, 0, rfl⟩
  | some p =>
    obtain ⟨i, x, rfl, hx, rfl⟩ := prOf_map_some vs id p hp
    have hil : i < vs.length := (List.getElem?_eq_some_iff.1 hx).1
    have hc := h.blk.cellOf o _ h.at_
    obtain ⟨g, rfl, rfl, hcl⟩ := h.sl.cells (by omega)
    obtain ⟨g0, g1, g2⟩ := pcells_get vs i x hx
    have c0 := hcl _ _ g0
    have c1 := hcl _ _ g1
    have hcap := h.sl.cap_le
    have h512 := h.le
    clear hp h hcl g0 g1 g2
    go_enter Tryz.func73, Tryz.ntmps73
    go_wp2_with fail
    refine (refprs_is_yes i w HH.out hil).mono ?_
    rintro e w0 ⟨rfl, h0⟩; subst w0
    go_wp2_with fail
    go_quiet (fail)
    go_wp2
    go_ret3
    exact ⟨rfl, _, rfl⟩

theorem refprs_waits (b o : Nat) (ty : TypeId) (cs : List Value) (l : List Pr) (F : Nat → Prop) (id : Int) (w : World) (h : RefPrsQ w b ty cs o l F) :
    Calls Tryz.prog 74 #[.pointer (some ⟨b, o, none⟩), .int .i64 id] w fun e w' => e = .returned (.int .i64 (waitsM l id)) ∧ w' = w := by
  obtain ⟨vs, A, c, G, h, rfl, _⟩ := h
  unfold waitsM
  have HH := Lib.hid h
  cases hp : prOf (vs.map (·.pr)) id with
  | none =>
    have hid := prOf_map vs id hp
    clear hp h
    go_enter Tryz.func74, Tryz.ntmps74
    go_wp2_with fail
    refine (refprs_is_no id w HH.out hid).mono ?_
    rintro e w0 ⟨rfl, h0⟩; subst w0
    go_wp2
    go_ret
    exact ⟨rfl, rfl⟩
  | some p =>
    obtain ⟨i, x, rfl, hx, rfl⟩ := prOf_map_some vs id p hp
    have hil : i < vs.length := (List.getElem?_eq_some_iff.1 hx).1
    have hc := h.blk.cellOf o _ h.at_
    obtain ⟨g, rfl, rfl, hcl⟩ := h.sl.cells (by omega)
    obtain ⟨g0, g1, g2⟩ := pcells_get vs i x hx
    have c2 := hcl _ _ g2
    have hcap := h.sl.cap_le
    have h512 := h.le
    clear hp h hcl g0 g1 g2
    go_enter Tryz.func74, Tryz.ntmps74
    go_wp2_with fail
    refine (refprs_is_yes i w HH.out hil).mono ?_
    rintro e w0 ⟨rfl, h0⟩; subst w0
    go_wp2
    go_ret
    exact ⟨rfl, rfl⟩

theorem set_self {α : Type} {cs : List α} {o : Nat} {v : α} (h : cs[o]? = some v) : cs.set o v = cs := by
  apply List.ext_getElem?
  intro i
  by_cases hi : o = i
  · subst hi
    rw [List.getElem?_set_self (List.getElem?_eq_some_iff.1 h).1, h]
  · rw [List.getElem?_set_ne hi]

/-- What a call that changes the promises leaves. -/
def PrsLeft (w w' : World) (b : Nat) (ty : TypeId) (cs : List Value) (o : Nat) (F : Nat → Prop) (l' : List Pr) : Prop :=
  Tch F w w' ∧ ∃ v F', RefPrsQ w' b ty (cs.set o v) o l' F' ∧ ∀ k, F' k → F k ∨ w.heap.size ≤ k
theorem PrsLeft.same {w w' : World} {b : Nat} {ty : TypeId} {cs : List Value} {o : Nat} {F : Nat → Prop} {l : List Pr} (h : RefPrsQ w b ty cs o l F) (hT : Tch NoBlk w w') : PrsLeft w w' b ty cs o F l := by
  obtain ⟨A, c, hat, _⟩ := h.lenOf
  refine ⟨hT.mono (fun _ _ h => h.elim), .slice A l.length c, F, ?_, fun k hk => .inl hk⟩
  rw [set_self hat]
  exact h.keep hT (fun _ _ h => h)

set_option maxRecDepth 100000 in
theorem refprs_make (b o : Nat) (ty : TypeId) (cs : List Value) (l : List Pr) (F : Nat → Prop) (w : World) (h : RefPrsQ w b ty cs o l F) :
    Calls Tryz.prog 40 #[.pointer (some ⟨b, o, none⟩)] w fun e w' => e = .returned (.tuple #[.int .i64 (makeM l).2.1, .int .i64 (makeM l).2.2]) ∧ PrsLeft w w' b ty cs o F (makeM l).1 := by
  have HQ := Lib.hid h
  obtain ⟨vs, A, c, G, h, rfl, hF⟩ := h
  have HF := Lib.hid hF
  have hc := h.blk.cellOf o _ h.at_
  have hcap := h.sl.cap_le
  unfold makeM
  rw [List.length_map]
  by_cases hl : 512 ≤ vs.length
  · rw [if_pos hl]
    clear h hF
    go_enter Tryz.func40, Tryz.ntmps40
    go_wp2
    go_ret2
    exact ⟨rfl, PrsLeft.same HQ.out (Tch.refl _ w)⟩
  · rw [if_neg hl]
    have hl2 : vs.length < 512 := by omega
    have hb := h.blk
    have hs := h.sl
    have hnb := h.nb
    have hat := h.at_
    have hlb := hb.lt
    have hcA : ∀ ob, (w.alloc ob).cell? ⟨b, o, none⟩ = some (.slice A vs.length c) := fun ob => ((Tch.refl NoBlk w).alloc ob).cell' hc (fun h => h)
    have HH := Lib.hid h
    clear h hF
    go_enter Tryz.func40, Tryz.ntmps40
    go_wp2_with (at_builtin; refine wpList_app _ rfl (.tmp 14) (.tmp 16) 49 rfl 120 (.agg #[.bool false, .int .i64 0, .slice none 0 0]) 3 40 Tryz.underlying49 infoOne rfl (by decide) (by decide) _ _ _ _ _ _ _ _ _ rfl rfl (hs.alloc _) (Src.made w 120 #[.bool false, .int .i64 0, .slice none 0 0] 1 rfl) (pcells_one [⟨⟨false, 0, []⟩, none, 0, none⟩]) (by omega) ?_; intro A6 c6 w6 G6 hs6 ht6 hg6; have HS6 := Lib.hid hs6; have HT6 : Hid (Tch (fun i => G = some i) w w6) := Lib.hid (Tch.then ((Tch.refl _ w).alloc _) ht6 (fun _ _ h => h)); have HG6 := Lib.hid hg6; have hb6 := hb.keep HT6.out hnb; have hc6 := hb6.cellOf o _ hat; have hf6 := hb6.free o; clear hs6 ht6 hg6)
    go_ret2
    have hs' : Sl w6 120 3 A6 (vs.length + 1) c6 (pcells (vs ++ [⟨⟨false, 0, []⟩, none, 0, none⟩])) G6 := by rw [pcells_app]; exact HS6.out
    have hg6 : G6 = G ∨ ∃ g, G6 = some g ∧ w.heap.size ≤ g := HG6.out.elim .inl (fun ⟨g, h1, h2⟩ => .inr ⟨g, h1, by simp at h2; omega⟩)
    obtain ⟨h7, hF7, hT7⟩ := HH.out.more HT6.out hl2 hs' hg6
    refine ⟨by simp, hT7.mono (fun k _ e => (HF.out k).2 e), _, _, ⟨_, _, _, _, h7, by simp, fun _ => Iff.rfl⟩, fun k hk => ?_⟩
    rcases hF7 k hk with e | e
    · exact .inl ((HF.out k).2 e)
    · exact .inr e

/-- What was told, out of a block that was the table's own, or none. -/
def PrsTold (w' : World) (F : Nat → Prop) (e : Ending) (l : List Int) (en : Int) (F' : Nat → Prop) : Prop :=
  ∃ A cap G, e = .returned (.tuple #[.slice A l.length cap, .int .i64 en]) ∧ Sl w' 3 1 A l.length cap (ints l) G ∧ ∀ g, G = some g → F g ∧ ¬ F' g

set_option maxHeartbeats 1000000 in
set_option maxRecDepth 100000 in
theorem refprs_settle (b o : Nat) (ty : TypeId) (cs : List Value) (l : List Pr) (F : Nat → Prop) (id v : Int) (w : World) (h : RefPrsQ w b ty cs o l F) :
    Calls Tryz.prog 91 #[.pointer (some ⟨b, o, none⟩), .int .i64 id, .int .i64 v] w fun e w' => Tch F w w' ∧ ∃ F', PrsTold w' F e (settleM l id v).2.1 (settleM l id v).2.2 F' ∧ RefPrsQ w' b ty cs o (settleM l id v).1 F' ∧ ∀ k, F' k → F k := by
  have HQ := Lib.hid h
  obtain ⟨vs, A, c, G, h, rfl, hF⟩ := h
  have HF := Lib.hid hF
  unfold settleM
  have HH := Lib.hid h
  clear hF
  cases hp : prOf (vs.map (·.pr)) id with
  | none =>
    have hid := prOf_map vs id hp
    clear hp h
    go_enter Tryz.func91, Tryz.ntmps91
    go_wp2_with fail
    refine (refprs_is_no id w HH.out hid).mono ?_
    rintro e w0 ⟨rfl, h0⟩; subst w0
    go_wp2
    go_ret2
    exact ⟨Tch.refl _ w, F, ⟨none, 0, none, rfl, Sl.nil _ _ _, fun g h => by simp at h⟩, HQ.out, fun _ h => h⟩
  | some p =>
    obtain ⟨i, x, rfl, hx, rfl⟩ := prOf_map_some vs id p hp
    have hil : i < vs.length := (List.getElem?_eq_some_iff.1 hx).1
    have hc := h.blk.cellOf o _ h.at_
    obtain ⟨g, rfl, rfl, hcl⟩ := h.sl.cells (by omega)
    obtain ⟨g0, g1, g2⟩ := pcells_get vs i x hx
    have c0 := hcl _ _ g0
    have c1 := hcl _ _ g1
    have c2 := hcl _ _ g2
    have hcap := h.sl.cap_le
    have h512 := h.le
    clear hp hcl g0 g1
    dsimp only
    by_cases ht : x.pr.told = true
    · rw [if_pos ht]
      rw [ht] at c0
      clear h g2
      go_enter Tryz.func91, Tryz.ntmps91
      go_wp2_with fail
      refine (refprs_is_yes i w HH.out hil).mono ?_
      rintro e w0 ⟨rfl, h0⟩; subst w0
      go_wp2
      go_ret2
      exact ⟨Tch.refl _ w, F, ⟨none, 0, none, rfl, Sl.nil _ _ _, fun g h => by simp at h⟩, HQ.out, fun _ h => h⟩
    · have ht2 : x.pr.told = false := by simpa using ht
      rw [if_neg ht]
      rw [ht2] at c0
      have f0 := h.sl.free (i * 3)
      have f1 := h.sl.free (i * 3 + 1)
      have f2 := h.sl.free (i * 3 + 2)
      clear h g2
      go_enter Tryz.func91, Tryz.ntmps91
      go_wp2_with fail
      refine (refprs_is_yes i w HH.out hil).mono ?_
      rintro e w0 ⟨rfl, h0⟩; subst w0
      go_wp2
      go_ret2
      have h := HH.out
      have hs1 := h.sl.set (i * 3) (.bool true)
      have hs2 := hs1.set (i * 3 + 1) (.int .i64 v)
      have hs3 := hs2.set (i * 3 + 2) (.slice none 0 0)
      have hT3 := ((h.sl.setT (i * 3) (.bool true)).trans (hs1.setT (i * 3 + 1) (.int .i64 v))).trans (hs2.setT (i * 3 + 2) (.slice none 0 0))
      have hs4 : Sl _ 120 3 (some ⟨g, 0, none⟩) vs.length c (pcells (vs.set i ⟨⟨true, v, []⟩, none, 0, none⟩)) (some g) := (pcells_set vs i ⟨⟨true, v, []⟩, none, 0, none⟩ hil) ▸ hs3
      obtain ⟨h4, hF4⟩ := h.put i x ⟨⟨true, v, []⟩, none, 0, none⟩ hx hT3 hs4 (Sl.nil _ _ _) (fun k hk => by simp at hk) (by simp)
      refine ⟨hT3.mono (fun k _ e => (HF.out k).2 (.inr (.inl (by rw [e])))), PrF b (vs.set i ⟨⟨true, v, []⟩, none, 0, none⟩) (some g), ⟨x.A, x.c, x.G, rfl, (h.each i x hx).keep hT3 (fun k hk e => (h.nx i x hx).2 k hk (by rw [e])), fun k hk => ⟨(HF.out k).2 (.inr (.inr ⟨i, x, hx, hk⟩)), fun hf => ?_⟩⟩, ⟨_, _, _, _, h4, by simp [List.map_set], fun _ => Iff.rfl⟩, fun k hk => ?_⟩
      · rcases hf with e | e | ⟨j, z, hz, e⟩
        · exact (h.nx i x hx).1 (e ▸ hk)
        · exact (h.nx i x hx).2 k hk e
        · by_cases hj : j = i
          · subst hj
            rw [List.getElem?_set_self hil] at hz
            injection hz with hz
            subst hz
            simp at e
          · rw [List.getElem?_set_ne (Ne.symm hj)] at hz
            exact h.nn i j x z hx hz (Ne.symm hj) k hk e
      · rcases hF4 k hk with e | e
        · exact (HF.out k).2 e
        · have := h4.lt k hk
          simp at this
          omega
end Go.Proofs.YtipbimbnpikbcaaGreat

/- The document's loop: a promise is made, is told. -/
namespace Go.Proofs.YtipbimbnpikbcaaGreat
open Go.RowKit

section
variable {w : World} {b : Nat} {s : Lp} {F : Nat → Prop}
theorem rl_pmake (h : RLoopQ w b s F) :
    Calls Tryz.prog 40 #[.pointer (some ⟨b, 8, none⟩)] w fun e w' => e = .returned (.tuple #[.int .i64 (promiseL s).2.1, .int .i64 (promiseL s).2.2]) ∧ RLeft w w' b F (promiseL s).1 := by
  obtain ⟨o, P, H, hF⟩ := h
  refine (refprs_make b 8 58 (rcells s o) s.prs _ w H.prs).mono ?_
  rintro e w' ⟨rfl, T, v, F', hq, hF'⟩
  obtain ⟨t2, F2, q2, l2⟩ := H.prsLeft hF T hq hF' H.ok.promise
  exact ⟨rfl, t2, F2, q2, fun k hk => (l2 k hk).1⟩
theorem rl_pvalue (h : RLoopQ w b s F) (id : Int) : Calls Tryz.prog 73 #[.pointer (some ⟨b, 8, none⟩), .int .i64 id] w fun e w' => e = .returned (.tuple #[.int .i64 (valueM s.prs id).1, .bool (valueM s.prs id).2.1, .int .i64 (valueM s.prs id).2.2]) ∧ ∃ n, w' = w.drewN n := by
  obtain ⟨o, P, H, hF⟩ := h
  exact refprs_value b 8 58 (rcells s o) s.prs _ id w H.prs
theorem rl_pwaits (h : RLoopQ w b s F) (id : Int) : Calls Tryz.prog 74 #[.pointer (some ⟨b, 8, none⟩), .int .i64 id] w fun e w' => e = .returned (.int .i64 (waitsM s.prs id)) ∧ w' = w := by
  obtain ⟨o, P, H, hF⟩ := h
  exact refprs_waits b 8 58 (rcells s o) s.prs _ id w H.prs
theorem rl_psettle (h : RLoopQ w b s F) (id v : Int) : Calls Tryz.prog 91 #[.pointer (some ⟨b, 8, none⟩), .int .i64 id, .int .i64 v] w fun e w' =>
    ∃ A cap G F2, e = .returned (.tuple #[.slice A (settleM s.prs id v).2.1.length cap, .int .i64 (settleM s.prs id v).2.2]) ∧ Sl w' 3 1 A (settleM s.prs id v).2.1.length cap (ints (settleM s.prs id v).2.1) G ∧ (∀ g, G = some g → ¬ F2 g) ∧ RLoopQ w' b { s with prs := (settleM s.prs id v).1 } F2 ∧ Tch F w w' ∧ ∀ k, F2 k → F k ∨ w.heap.size ≤ k := by
  obtain ⟨o, P, H, hF⟩ := h
  refine (refprs_settle b 8 58 (rcells s o) s.prs _ id v w H.prs).mono ?_
  rintro e w' ⟨T, F', ⟨A, cap, G, rfl, hsl, hG⟩, hq, hF'⟩
  have hb : F' b := by
    obtain ⟨_, _, _, _, _, _, hh⟩ := hq
    exact (hh b).2 (.inl rfl)
  obtain ⟨t2, F2, q2, l2⟩ := H.prsLeft hF T (v := o.p) hq (fun k hk => .inl (hF' k hk)) (H.ok.settled id v)
  refine ⟨A, cap, G, F2, rfl, hsl, fun g hg e => ?_, q2, t2, fun k hk => (l2 k hk).1⟩
  obtain ⟨h1, h2⟩ := hG g hg
  rcases h1 with h1 | h1
  · rw [((H.part 0).2 g).1 h1] at h2
    exact h2 hb
  · exact h2 ((l2 g e).2 h1)
structure TellK (w2 wr : World) (b : Nat) (F : Nat → Prop) (s : Lp) (id v : Int) (out : List Int) (j : Nat) (A : Option Addr) (cap : Nat) (G : Option Nat) : Prop where
  left : RLeft w2 wr b F (setS s id v out j)
  sl : Sl wr 3 1 A out.length cap (ints out) G
set_option maxHeartbeats 4000000 in
set_option maxRecDepth 100000 in
theorem rl_tell (h : RLoopQ w b s F) (id v : Int) (hn : s.mic.length + (settleM s.prs id v).2.1.length < 1000000) :
    Calls Tryz.prog 72 #[.pointer (some ⟨b, 0, none⟩), .int .i64 id, .int .i64 v] w fun e w' => e = .returned (.int .i64 (settleL s id v).2) ∧ RLeft w w' b F (settleL s id v).1 := by
  have hset := rl_psettle h id v
  have hre := settleM_reacts h.ok id v
  obtain ⟨r, hr⟩ : ∃ r, settleL s id v = r := ⟨_, rfl⟩
  rw [hr]
  have HR := Lib.hid hr
  clear hr
  have hfin : settleL s id v = (setS s id v (settleM s.prs id v).2.1 (settleM s.prs id v).2.1.length, (settleM s.prs id v).2.2) := by simp [settleL, setS]
  obtain ⟨out, ho⟩ : ∃ out, (settleM s.prs id v).2.1 = out := ⟨_, rfl⟩
  obtain ⟨en, he⟩ : ∃ en, (settleM s.prs id v).2.2 = en := ⟨_, rfl⟩
  rw [ho, he] at hfin hset
  rw [ho] at hn hre
  have HS := Lib.hid hset
  have HFIN := Lib.hid hfin
  have HRE := Lib.hid hre
  have HN := Lib.hid hn
  clear hset hfin hre hn ho he h
  go_enter Tryz.func72, Tryz.ntmps72
  go_wp2_with fail
  refine HS.out.mono ?_
  rintro e w2 ⟨A, cap, G, F2, rfl, hsl, hG, q2, T2, l2⟩
  have hcap := hsl.cap_le
  have hgl : ∀ g, G = some g → g < w2.heap.size := fun g hg => hsl.lt g hg
  have HK : Hid (TellK w2 w2 b F2 s id v out 0 A cap G) := Lib.hid ⟨by have := RLeft.same q2; simpa [setS] using this, hsl⟩
  have HT2 := Lib.hid T2
  have HL2 := Lib.hid l2
  have HG := Lib.hid hG
  have HGL := Lib.hid hgl
  clear HS hsl hG q2 T2 l2 hgl
  go_wp2_with fail
  go_loopw [9] (fun y wr => ∃ j : Nat, y = .int .i64 j ∧ j ≤ out.length ∧ TellK w2 wr b F2 s id v out j A cap G) (fun y _ => out.length - (intOf y).toNat)
  case atStart => exact ⟨0, rfl, Nat.zero_le _, HK.out⟩
  case round =>
  clear HK
  obtain ⟨j, rfl, hj, hK⟩ := hrel
  by_cases hjl : j < out.length
  · have hjI : (j : Int) < (out.length : Int) := by omega
    obtain ⟨x, hx⟩ : ∃ x, out[j]? = some x := ⟨out[j], by simp [hjl]⟩
    have hxm := HRE.out x (List.mem_of_getElem? hx)
    obtain ⟨q, rfl⟩ := Int.eq_ofNat_of_zero_le hxm.1
    have hq : q < s.wai.length := by omega
    have hqI : (q : Int) < (s.wai.length : Int) := by omega
    obtain ⟨g, rfl, rfl, hcl⟩ := hK.sl.cells (by omega)
    have cj := hcl j (.int .i64 q) (by simp [ints, hx])
    obtain ⟨l1, F3, ⟨o, P, H, hF⟩, l3⟩ := hK.left
    have hsw : (setS s id v out j).wai = s.wai := rfl
    have hb1 := (H.part 0).1
    have hrT : Rw wr 35 4 o.A3 s.wai.length o.c3 (tks s.wai) o.G3 := (H.part 3).1
    obtain ⟨gT, oT, eT, _, hcT⟩ := hrT.cells (by omega)
    have c5 : wr.cell? ⟨b, 5, none⟩ = some (.slice o.A3 s.wai.length o.c3) := hb1.cellOf 5 _ rfl
    rw [eT] at c5
    have hcapT := hrT.cap_le
    obtain ⟨t0, t1, t2, t3⟩ := tks_get s.wai q hq
    have k0 : wr.cell? ⟨gT, oT + q * 4, none⟩ = some (.int .i64 (s.wai.getD q tk0).kind) := hcT _ _ t0
    have k1 : wr.cell? ⟨gT, oT + q * 4 + 1, none⟩ = some (.int .i64 (s.wai.getD q tk0).fn) := hcT _ _ t1
    have k2 : wr.cell? ⟨gT, oT + q * 4 + 2, none⟩ = some (.int .i64 (s.wai.getD q tk0).arg) := hcT _ _ t2
    have k3 : wr.cell? ⟨gT, oT + q * 4 + 3, none⟩ = some (.int .i64 (s.wai.getD q tk0).tok) := hcT _ _ t3
    have htok : TokOk (setS s id v out j).ab (getL s q).tok := H.ok.get (s := setS s id v out j) (k := (q : Int)) ⟨by omega, by rw [hsw]; omega⟩
    have hmicl : ((setS s id v out j).mic.length + 1) * 32 ≤ 140737488355328 := by have := HN.out; simp [setS]; omega
    have hnext : micL (setS s id v out j) (withArg v (getL s q)) = setS s id v out (j + 1) := by
      simp [micL, setS, List.take_add_one, hx]
    have eg : getL s (q : Int) = s.wai.getD q tk0 := by simp [getL]
    rw [← eg] at k0 k1 k2 k3
    generalize hg : getL s (q : Int) = tk at *
    obtain ⟨kd, f, a, tok⟩ := tk
    dsimp only at k0 k1 k2 k3 htok
    have HSL := Lib.hid hK.sl
    have L1 := Lib.hid l1
    have L3 := Lib.hid l3
    have HH := Lib.hid H
    have HF := Lib.hid hF
    have HTK := Lib.hid htok
    have HMI := Lib.hid hmicl
    have HNX := Lib.hid hnext
    have HJ := Lib.hid hjl
    clear hK H hF l1 l3 htok hmicl hnext hx hcl hxm hg eg hsw hj hb1 hrT eT hcT t0 t1 t2 t3
    go_upto_region 5 with fail
    go_cut [10] from 26 to 26 (fun y wx => ∃ z : Nat, y = .pointer (some ⟨z, 0, none⟩) ∧ wr.heap.size ≤ z ∧ Blk wx z 35 [.int .i64 kd, .int .i64 f, .int .i64 a, .int .i64 tok] ∧ Tch NoBlk wr wx)
    case first =>
      clear HSL L1 L3 HH HF HTK HMI HNX HJ HRE HN HFIN HR
      have hTz : ∀ ob, Tch NoBlk wr (wr.alloc ob) := fun ob => (Tch.refl NoBlk wr).alloc ob
      have hz : Blk (wr.alloc (.cells #[.int .i64 0, .int .i64 0, .int .i64 0, .int .i64 0] 35)) wr.heap.size 35 [.int .i64 0, .int .i64 0, .int .i64 0, .int .i64 0] := heap_alloc_new wr _
      have z0 := hz.cellOf 0 _ rfl
      have z1 := hz.cellOf 1 _ rfl
      have z2 := hz.cellOf 2 _ rfl
      have z3 := hz.cellOf 3 _ rfl
      have y0 := hz.free 0
      have y1 := hz.free 1
      have y2 := hz.free 2
      have y3 := hz.free 3
      have cjA : ∀ ob, (wr.alloc ob).cell? ⟨g, j, none⟩ = some (.int .i64 q) := fun ob => (hTz ob).cell' cj (fun h => h)
      have c5A : ∀ ob, (wr.alloc ob).cell? ⟨b, 5, none⟩ = some (.slice (some ⟨gT, oT, none⟩) s.wai.length o.c3) := fun ob => (hTz ob).cell' c5 (fun h => h)
      have k0A : ∀ ob, (wr.alloc ob).cell? ⟨gT, oT + q * 4, none⟩ = some (.int .i64 kd) := fun ob => (hTz ob).cell' k0 (fun h => h)
      have k1A : ∀ ob, (wr.alloc ob).cell? ⟨gT, oT + q * 4 + 1, none⟩ = some (.int .i64 f) := fun ob => (hTz ob).cell' k1 (fun h => h)
      have k2A : ∀ ob, (wr.alloc ob).cell? ⟨gT, oT + q * 4 + 2, none⟩ = some (.int .i64 a) := fun ob => (hTz ob).cell' k2 (fun h => h)
      have k3A : ∀ ob, (wr.alloc ob).cell? ⟨gT, oT + q * 4 + 3, none⟩ = some (.int .i64 tok) := fun ob => (hTz ob).cell' k3 (fun h => h)
      have HZ := Lib.hid hz
      clear hz
      go_wp2_with fail
      go_region
      all_goals
        go_wp2
        go_meet
        refine ⟨wr.heap.size, rfl, Nat.le_refl _, ?_, ?_⟩
        · first
            | exact heap_alloc_new wr _
            | exact (((HZ.out.set 0 _).set 1 _).set 2 _).set 3 _
        · first
            | exact (hTz _).drew
            | exact hTz _
            | exact ((((hTz _).setCell (p := ⟨wr.heap.size, 0, none⟩) (fun h => absurd h (by simp)) _).setCell (p := ⟨wr.heap.size, 1, none⟩) (fun h => absurd h (by simp)) _).setCell (p := ⟨wr.heap.size, 2, none⟩) (fun h => absurd h (by simp)) _).setCell (p := ⟨wr.heap.size, 3, none⟩) (fun h => absurd h (by simp)) _
            | exact (((((hTz _).drew).setCell (p := ⟨wr.heap.size, 0, none⟩) (fun h => absurd h (by simp)) _).setCell (p := ⟨wr.heap.size, 1, none⟩) (fun h => absurd h (by simp)) _).setCell (p := ⟨wr.heap.size, 2, none⟩) (fun h => absurd h (by simp)) _).setCell (p := ⟨wr.heap.size, 3, none⟩) (fun h => absurd h (by simp)) _
    case rest =>
    obtain ⟨z, rfl, hzs, hz, hTz⟩ := hcut
    have hzb : z ≠ b := fun e => by
      have := HH.out.part 0
      have := this.1.lt
      omega
    have zc2 := hz.cellOf 2 _ rfl
    have zf2 := hz.free 2
    have T6 : Tch NoBlk wr (wc.setCell ⟨z, 2, none⟩ (.int .i64 v)) := hTz.setCell (p := ⟨z, 2, none⟩) (fun h => by dsimp only at h; omega) _
    have hz6 := hz.set 2 (.int .i64 v)
    have HT6 := Lib.hid T6
    have HZ6 := Lib.hid hz6
    clear cj c5 k0 k1 k2 k3 hz hTz T6 hz6
    go_upto_region 7 with fail
    clear zc2 zf2
    generalize wc.setCell ⟨z, 2, none⟩ (.int .i64 v) = w5 at *
    have H5 := HH.out.keep HT6.out (fun _ _ _ h => h)
    have hb5 := (H5.part 0).1
    have hr5 : Rw w5 35 4 o.A2 (setS s id v out j).mic.length o.c2 (tks (setS s id v out j).mic) o.G2 := (H5.part 2).1
    have hnb : o.G2 ≠ some b := fun e => H5.nb (by decide) (((H5.part 2).2 b).2 e)
    have p0 := HZ6.out.cellOf 0 _ rfl
    have p1 := HZ6.out.cellOf 1 _ rfl
    have p2 := HZ6.out.cellOf 2 _ rfl
    have p3 := HZ6.out.cellOf 3 _ rfl
    have c4 : w5.cell? ⟨b, 4, none⟩ = some (.slice o.A2 (setS s id v out j).mic.length o.c2) := hb5.cellOf 4 _ rfl
    have c4A : ∀ ob, (w5.alloc ob).cell? ⟨b, 4, none⟩ = some (.slice o.A2 (setS s id v out j).mic.length o.c2) := fun ob => ((Tch.refl NoBlk w5).alloc ob).cell' c4 (fun h => h)
    have HR5 := Lib.hid hr5
    have HB5 := Lib.hid hb5
    have HNB := Lib.hid hnb
    have HH5 := Lib.hid H5
    have HOK : Hid (LOk (micL (setS s id v out j) ⟨kd, f, v, tok⟩)) := Lib.hid (H5.ok.putMic HTK.out)
    clear hr5 hb5 hnb H5
    generalize hmm : (setS s id v out j).mic.length = ml at *
    have HMM := Lib.hid hmm
    clear hmm
    go_wp2_with fail
    go_region_law (refine step_rw_app _ rfl (.tmp 42) (.tmp 44) 45 rfl 35 (.agg #[.int .i64 0, .int .i64 0, .int .i64 0, .int .i64 0]) 4 32 Tryz.underlying45 infoTk rfl (by decide) (by decide) o.A2 ml o.c2 (tks (setS s id v out j).mic) o.G2 (some ⟨w5.heap.size, 0, none⟩) 1 1 [.int .i64 kd, .int .i64 f, .int .i64 v, .int .i64 tok] (by simp [Act.eval]) (by simp [Act.eval]) (by decide) (by exact (HR5.out.alloc _).drew1) (by exact (Src.made (sz := 4) w5 35 #[.int .i64 kd, .int .i64 f, .int .i64 v, .int .i64 tok] 1 rfl).keep (Tch.refl NoBlk _).drew (fun _ _ h => h)) (tkl_one ⟨kd, f, v, tok⟩) HMI.out ?_; intro A6 c6 w6 G6 hs6 ht6 hg6; have HS6 := Lib.hid hs6; have HT7 : Hid (Tch (fun k => o.G2 = some k) w5 w6) := Lib.hid (Tch.then ((Tch.refl _ w5).alloc _).drew ht6 (fun _ _ h => h)); have HG6 := Lib.hid hg6; have hb6 := HB5.out.keep HT7.out HNB.out; have hc6 := hb6.cellOf 4 _ rfl; have hf6 := hb6.free 4; clear hs6 ht6 hg6 hb6)
    all_goals
      have hp := HH5.out.put_mic HF.out ⟨kd, f, v, tok⟩ HOK.out HT7.out (by rw [HMM.out]; exact HS6.out) (HG6.out.elim .inl (fun ⟨g, h1, h2⟩ => .inr ⟨g, h1, by simp at h2; omega⟩))
      rw [HMM.out, show micL (setS s id v out j) ⟨kd, f, v, tok⟩ = setS s id v out (j + 1) from HNX.out] at hp
      have hslf := (HSL.out.keep HT6.out (fun _ _ h => h)).keep hp.1 (fun g' e hf => by
        have h1 := HG.out g' e
        have h2 := HGL.out g' e
        rcases L3.out g' hf with h3 | h3
        · exact h1 h3
        · omega)
      have hlf := RLeft.comp L1.out L3.out (hp.ahead HT6.out)
      have HLF := Lib.hid hlf
      have HSF := Lib.hid hslf
      clear hp hslf hlf HS6 HT7 HG6 p0 p1 p2 p3 c4 c4A
      go_wp2
      go_roundw
      case rel => exact ⟨j + 1, num (by omega), HJ.out, ⟨HLF.out, HSF.out⟩⟩
      case measure => simp [intOf]; omega
  · have hjI : ¬ ((j : Int) < (out.length : Int)) := by omega
    have hje : j = out.length := by omega
    subst hje
    have HL := Lib.hid hK.left
    clear hK hj hjl
    go_wp2
    go_ret
    rw [← HR.out, HFIN.out]
    exact ⟨rfl, RLeft.comp HT2.out HL2.out HL.out⟩
end
end Go.Proofs.YtipbimbnpikbcaaGreat
