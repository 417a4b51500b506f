/- Calling off: the function that goes down. -/
import Derived.Test.YtipbimbnpikbcaaCanMake
import Derived.Test.YtipbimbnpikbcaaTreeOff
import Derived.Deep.CutRange
namespace Go.Proofs.Ytipbimbnpikbcaa
open Go.RowKit

/-- The value of the function that goes down. -/
def endV (tb lb eb : Nat) : Value := .func (.func 65) #[] #[.pointer (some ⟨tb, 0, none⟩), .pointer (some ⟨lb, 0, none⟩), .pointer (some ⟨eb, 0, none⟩)]
structure EndAt (w0 w : World) (b g : Nat) (vs : List Bv) (os : List Bool) (c tb lb eb : Nat) (out : List Int) (A2 : Option Addr) (c2 : Nat) (G2 : Option Nat) : Prop where
  can : CanAt w b vs os (some ⟨g, 0, none⟩) c (some g)
  t : Blk w tb 59 [.pointer (some ⟨b, 0, none⟩)]
  l : Blk w lb 45 [.slice A2 out.length c2]
  e : Blk w eb 24 [endV tb lb eb]
  sl : Sl w 3 1 A2 out.length c2 (ints out) G2
  t0 : w0.heap.size ≤ tb
  l0 : w0.heap.size ≤ lb
  e0 : w0.heap.size ≤ eb
  tl : tb ≠ lb
  el : eb ≠ lb
  kf : ∀ k, KF b vs (some g) k → k < w0.heap.size
  g2 : ∀ k, G2 = some k → w0.heap.size ≤ k ∧ k ≠ tb ∧ k ≠ lb ∧ k ≠ eb
  cnt : out.length ≤ os.count true
  tch : Tch (· = g) w0 w

theorem count_mark (os : List Bool) (i : Nat) (hi : i < os.length) (ho : os.getD i false = false) : (os.set i true).count true = os.count true + 1 := by
  rw [List.count_set hi]
  have e : os[i] = false := by
    rw [List.getD_eq_getElem?_getD, List.getElem?_eq_getElem hi] at ho
    exact ho
  simp [e]
section
variable {w0 w w' : World} {b g : Nat} {vs : List Bv} {os : List Bool} {c tb lb eb : Nat} {out : List Int} {A2 : Option Addr} {c2 : Nat} {G2 : Option Nat}
theorem EndAt.le (h : EndAt w0 w b g vs os c tb lb eb out A2 c2 G2) : out.length ≤ vs.length := by
  have h1 := h.cnt
  have h2 := List.count_le_length (a := true) (l := os)
  have := h.can.len
  omega
/-- One is marked, and told. -/
theorem EndAt.told (h : EndAt w0 w b g vs os c tb lb eb out A2 c2 G2) (i : Nat) (hi : i < vs.length) (ho : os.getD i false = false) {A3 : Option Addr} {c3 : Nat} {G3 : Option Nat}
    (hT : Tch (fun k => G2 = some k) (w.setCell ⟨g, i * 2 + 1, none⟩ (.bool true)) w') (hs : Sl w' 3 1 A3 (out.length + 1) c3 (ints out ++ [.int .i64 i]) G3) (hG : G3 = G2 ∨ ∃ k, G3 = some k ∧ w.heap.size ≤ k) :
    EndAt w0 (w'.setCell ⟨lb, 0, none⟩ (.slice A3 (out.length + 1) c3)) b g vs (os.set i true) c tb lb eb (out ++ [(i : Int)]) A3 c3 G3 := by
  obtain ⟨hm, hTm⟩ := h.can.mark i hi true
  have hg := h.kf g (.inr (.inl rfl))
  have hlb := h.l.lt
  have hL : Tch (· = lb) w' (w'.setCell ⟨lb, 0, none⟩ (.slice A3 (out.length + 1) c3)) := (Tch.refl (· = lb) w').setCell (p := ⟨lb, 0, none⟩) (fun _ => rfl) _
  have hl0 := h.l0
  have ht0 := h.t0
  have he0 := h.e0
  have e1 : (out ++ [(i : Int)]).length = out.length + 1 := by simp
  have hG3 : ∀ k, G3 = some k → w0.heap.size ≤ k ∧ k ≠ tb ∧ k ≠ lb ∧ k ≠ eb := fun k hk => by
    rcases hG with e | ⟨q, e, hq⟩
    · exact h.g2 k (e ▸ hk)
    · rw [e] at hk
      injection hk with hk
      subst hk
      have := h.t.lt
      have := h.e.lt
      exact ⟨by omega, by omega, by omega, by omega⟩
  refine ⟨((hm.keep hT (fun k hk e => ?_)).keep hL (fun k hk e => ?_)), ((h.t.keep hTm (by omega)).keep hT (fun e => (h.g2 _ e).2.1 rfl)).keep hL h.tl, ?_, ((h.e.keep hTm (by omega)).keep hT (fun e => (h.g2 _ e).2.2.2 rfl)).keep hL h.el, ?_, ht0, hl0, he0, h.tl, h.el, h.kf, hG3, ?_, ?_⟩
  · have := h.kf k hk
    have := (h.g2 k e).1
    omega
  · have := h.kf k hk
    omega
  · rw [e1]
    exact ((h.l.keep hTm (by omega)).keep hT (fun e => (h.g2 _ e).2.2.1 rfl)).set 0 _
  · rw [e1, ints, List.map_append]
    exact hs.keep hL (fun k hk e => (hG3 k hk).2.2.1 e)
  · rw [e1, count_mark os i (by rw [h.can.len]; exact hi) ho]
    have := h.cnt
    omega
  · refine ((h.tch.trans hTm).then hT (fun k hk e => ?_)).then hL (fun k hk e => ?_)
    · have := (h.g2 k e).1
      omega
    · omega
end

set_option maxHeartbeats 2000000 in
set_option maxRecDepth 100000 in
theorem end_call (w0 : World) (b g : Nat) (vs : List Bv) (c tb lb eb : Nat) (ab : List Int) (H : TreeWf ab) (h1 : vs.length = ab.length) (h2 : ∀ (i : Nat) (x : Bv), vs[i]? = some x → x.b = belowL ab i) (n : Nat) :
    ∀ (i : Nat) (os : List Bool) (out : List Int) (A2 : Option Addr) (c2 : Nat) (G2 : Option Nat) (w : World), vs.length ≤ n + i → i < vs.length → ClosedAt ab os i → EndAt w0 w b g vs os c tb lb eb out A2 c2 G2 →
    Calls Try.prog 65 #[.int .i64 i, .pointer (some ⟨tb, 0, none⟩), .pointer (some ⟨lb, 0, none⟩), .pointer (some ⟨eb, 0, none⟩)] w fun e w' => e = .returned (.tuple #[]) ∧
      ∃ (os' : List Bool) (new : List Nat) (A3 : Option Addr) (c3 : Nat) (G3 : Option Nat), EndAt w0 w' b g vs os' c tb lb eb (out ++ new.map (fun (j : Nat) => (j : Int))) A3 c3 G3 ∧ Marks ab os os' (Comes ab i) ∧ ToldOff os (Comes ab i) new := by
  induction n with
  | zero => intro i os out A2 c2 G2 w hn hi; omega
  | succ n ih =>
    intro i os out A2 c2 G2 w hn hi hC hE
    have HE := Lib.hid hE
    have HC := Lib.hid hC
    have HW := Lib.hid H
    have HI := Lib.hid ih
    have H1 := Lib.hid h1
    have H2 := Lib.hid h2
    have hc := hE.can.blk.cellOf 0 _ rfl
    obtain ⟨g', e1, e2, hcl⟩ := hE.can.sl.cells (by omega)
    injection e2 with e2
    subst e2
    obtain ⟨x, hx⟩ : ∃ x, vs[i]? = some x := ⟨vs[i], by simp [hi]⟩
    have ho := hcl _ _ (kcells_get _ _ i x hx hE.can.len).2
    have hcap := hE.can.sl.cap_le
    have ht := hE.t.cellOf 0 _ rfl
    have hle := hE.can.le
    have hil : i < 1024 := by omega
    clear hcl e1 h1 h2 hC ih H
    by_cases hoff : os.getD i false = true
    · rw [hoff] at ho
      have hR : Hid (EndAt w0 w b g vs os c tb lb eb (out ++ ([] : List Nat).map (fun (j : Nat) => (j : Int))) A2 c2 G2) := Lib.hid (by rw [List.map_nil, List.append_nil]; exact hE)
      have hM := Lib.hid (marks_none HC.out hoff)
      have hT := Lib.hid (told_none HC.out hoff)
      clear hE hoff
      go_enter Try.func65, Try.ntmps65
      go_wp2
      ((try simp only [Exit.inBlock, Exit.then]); refine bodyPost_ret (results_none rfl _ _ _) rfl ?_)
      exact ⟨rfl, os, [], A2, c2, G2, hR.out, hM.out, hT.out⟩
    · have hoff2 : os.getD i false = false := by simpa using hoff
      rw [hoff2] at ho
      have hl := hE.l.cellOf 0 _ rfl
      have hsl := hE.sl
      have hf := hE.can.sl.free (i * 2 + 1)
      have hol := hE.le
      have hlb := hE.l.lt
      have hgl := hE.can.sl.lt g rfl
      have hglb : ¬ lb = g := fun e => by have := hE.l0; have := hE.kf g (.inr (.inl rfl)); omega
      have hgb : ¬ b = g := fun e => hE.can.nb (by rw [e])
      have htg : ¬ tb = g := fun e => by have := hE.t0; have := hE.kf g (.inr (.inl rfl)); omega
      have HG2 := Lib.hid hE.g2
      have HL := Lib.hid hE.l
      have hmk := (hE.can.mark i hi true).2
      have hl2 : (w.setCell ⟨g, i * 2 + 1, none⟩ (.bool true)).cell? ⟨lb, 0, none⟩ = some (.slice A2 out.length c2) := hmk.cell' hl hglb
      have hs2 := hsl.keep hmk (fun k hk e => by have := (hE.g2 k hk).1; have := hE.kf g (.inr (.inl rfl)); omega)
      have HMK := Lib.hid hmk
      have hsz : (w.setCell ⟨g, i * 2 + 1, none⟩ (.bool true)).heap.size = w.heap.size := by simp [World.setCell]
      clear hE hoff hsl hmk
      go_enter Try.func65, Try.ntmps65
      go_upto_region 3 with (at_builtin; refine wpList_app _ rfl (.tmp 22) (.tmp 24) 45 rfl 3 (.int .i64 0) 1 8 Try.underlying45 infoInt rfl (by decide) (by decide) _ _ _ _ _ _ _ _ _ rfl rfl (hs2.alloc _) (Src.madeAt1 hsz) (ints_one [(i : Int)]) (by omega) ?_; intro A6 c6 w6 G6 hs6 ht6 hg6; have HS6 := Lib.hid hs6; have HT6 : Hid (Tch (fun k => G2 = some k) (w.setCell ⟨g, i * 2 + 1, none⟩ (.bool true)) w6) := Lib.hid (Tch.then ((Tch.refl _ _).alloc _) ht6 (fun _ _ h => h)); have HG6 := Lib.hid hg6; have hl6 : w6.cell? ⟨lb, 0, none⟩ = some (.slice A2 out.length c2) := HT6.out.cell' hl2 (fun e => (HG2.out _ e).2.2.1 rfl); have hf6 : w6.frozen? ⟨lb, 0, none⟩ = false := ((HL.out.keep HMK.out hglb).keep HT6.out (fun e => (HG2.out _ e).2.2.1 rfl)).free 0; clear hs6 ht6 hg6)
      have hE7 := HE.out.told i hi hoff2 HT6.out HS6.out (HG6.out.elim .inl (fun ⟨k, e1, e2⟩ => .inr ⟨k, e1, by simp [World.setCell] at e2; omega⟩))
      have hM0 := marks_start (ab := ab) (os := os) (i := i) (by rw [HE.out.can.len]; exact hi)
      have hT0 := told_start (ab := ab) hoff2
      clear hl6 hf6 HS6 HT6 HG6 HMK hs2 hl2 HL HG2 hl hf hc ho ht
      generalize w6.setCell ⟨lb, 0, none⟩ (.slice A6 (out.length + 1) c6) = w7 at *
      have hc := hE7.can.blk.cellOf 0 _ rfl
      obtain ⟨g', e1, e2, hcl⟩ := hE7.can.sl.cells (by omega)
      injection e2 with e2
      subst e2
      have hr := hcl _ _ (kcells_get _ _ i x hx hE7.can.len).1
      have ht := hE7.t.cellOf 0 _ rfl
      have hsx := hE7.can.each i x hx
      have hcapx := hsx.cap_le
      have hxb := H2.out i x hx
      have hxl : x.b.length ≤ 1024 := by rw [hxb]; have := belowL_le ab i; have := H1.out; omega
      have HXB := Lib.hid hxb
      clear hcl e1 HE hsx hxb
      go_wp2_with fail
      go_loopw [35] (fun y wr => ∃ (m : Nat) (os' : List Bool) (new : List Nat) (A3 : Option Addr) (c3 : Nat) (G3 : Option Nat), y = .int .i64 m ∧ m ≤ x.b.length ∧ EndAt w0 wr b g vs os' c tb lb eb (out ++ new.map (fun (j : Nat) => (j : Int))) A3 c3 G3 ∧ Marks ab os os' (OffTo ab i m) ∧ ToldOff os (OffTo ab i m) new) (fun y _ => x.b.length - (intOf y).toNat)
      case atStart => exact ⟨0, _, [i], A6, c6, G6, rfl, Nat.zero_le _, hE7, hM0, hT0⟩
      case round =>
        clear hE7 hM0 hT0 hc hr ht
        obtain ⟨m, os', new, A3, c3, G3, rfl, hm, hE, hM, hT⟩ := hrel
        by_cases hlt : m < x.b.length
        · have hxb := HXB.out
          have hmb : m < (belowL ab i).length := by rw [← hxb]; exact hlt
          obtain ⟨d, hd⟩ := child_of hmb
          have hu := child_up hmb hd
          have hdb := HW.out.up hu
          have hCd := closed_child HW.out HC.out hmb hd hM
          obtain ⟨gx, ex, _, hcx⟩ := (hE.can.each i x hx).cells (by omega)
          have hv := hcx _ _ (ints_get x.b m hlt)
          have hdx : x.b.getD m 0 = (d : Int) := by rw [hxb]; exact hd
          rw [hdx] at hv
          have he := hE.e.cellOf 0 _ rfl
          unfold endV at he
          have HE := Lib.hid hE
          have HM := Lib.hid hM
          have HT := Lib.hid hT
          have HCD := Lib.hid hCd
          have HMB := Lib.hid hmb
          have HDD := Lib.hid hd
          have hdl : d < vs.length := by have := H1.out; omega
          have hnd : vs.length ≤ n + d := by omega
          rw [ex]
          clear hcx hE hM hT hCd hmb hd hu hdb hdx hxb
          go_wp2_with fail
          refine (HI.out d os' _ A3 c3 G3 wr hnd hdl HCD.out HE.out).mono ?_
          rintro e w8 ⟨rfl, os2, new2, A4, c4, G4, hE8, hM8, hT8⟩
          have HR : Hid (EndAt w0 w8 b g vs os2 c tb lb eb (out ++ (new ++ new2).map (fun (j : Nat) => (j : Int))) A4 c4 G4) := Lib.hid (by rw [List.map_append, ← List.append_assoc]; exact hE8)
          have HM2 := Lib.hid (marks_child HMB.out HDD.out HM.out hM8)
          have HT2 := Lib.hid (told_child HW.out HMB.out HDD.out HM.out HT.out hT8)
          clear hE8 hM8 hT8 HE HM HT HCD hv he
          go_wp2
          go_roundw
          case rel => exact ⟨m + 1, os2, new ++ new2, A4, c4, G4, num (by omega), by omega, HR.out, HM2.out, HT2.out⟩
          case measure => simp [intOf]; omega
        · obtain rfl : m = x.b.length := by omega
          rw [HXB.out] at hM hT
          have HE := Lib.hid hE
          have HM := Lib.hid (marks_done hM)
          have HT := Lib.hid (told_done hT)
          clear hE hM hT
          go_wp2
          go_end0
          exact ⟨rfl, os', new, A3, c3, G3, HE.out, HM.out, HT.out⟩
end Go.Proofs.Ytipbimbnpikbcaa
