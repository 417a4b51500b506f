import Derived.Test.YtipbimbnpikbcaaGreatMg13
import Derived.Deep.CutRange
import Derived.Shelf.Sort.Plain
import Derived.Shelf.Slices.In.SortNone
import Derived.Test.YtipbimbnpikbcaaGreatProg
import Derived.Test.YtipbimbnpikbcaaGreatMg03
import Derived.Sort.OwnSortedInts
/- Calling off: the function that goes down. -/
namespace Go.Proofs.YtipbimbnpikbcaaGreat
open Go.RowKit

/-- The value of the function that goes down. -/
def endV (tb lb eb : Nat) : Value := .func (.func 80) #[] #[.pointer (some ⟨tb, 0, none⟩), .pointer (some ⟨lb, 0, none⟩), .pointer (some ⟨eb, 0, none⟩)]
structure EndAt (w0 w : World) (b g : Nat) (vs : List Bv) (os : List Bool) (c tb lb eb : Nat) (out : List Int) (A2 : Option Addr) (c2 : Nat) (G2 : Option Nat) : Prop where
  can : CanAt w b vs os (some ⟨g, 0, none⟩) c (some g)
  t : Blk w tb 66 [.pointer (some ⟨b, 0, none⟩)]
  l : Blk w lb 52 [.slice A2 out.length c2]
  e : Blk w eb 80 [endV tb lb eb]
  sl : Sl w 3 1 A2 out.length c2 (ints out) G2
  t0 : w0.heap.size ≤ tb
  l0 : w0.heap.size ≤ lb
  e0 : w0.heap.size ≤ eb
  tl : tb ≠ lb
  el : eb ≠ lb
  kf : ∀ k, KF b vs (some g) k → k < w0.heap.size
  g2 : ∀ k, G2 = some k → w0.heap.size ≤ k ∧ k ≠ tb ∧ k ≠ lb ∧ k ≠ eb
  cnt : out.length ≤ os.count true
  tch : Tch (· = g) w0 w

theorem count_mark (os : List Bool) (i : Nat) (hi : i < os.length) (ho : os.getD i false = false) : (os.set i true).count true = os.count true + 1 := by
  rw [List.count_set hi]
  have e : os[i] = false := by
    rw [List.getD_eq_getElem?_getD, List.getElem?_eq_getElem hi] at ho
    exact ho
  simp [e]
section
variable {w0 w w' : World} {b g : Nat} {vs : List Bv} {os : List Bool} {c tb lb eb : Nat} {out : List Int} {A2 : Option Addr} {c2 : Nat} {G2 : Option Nat}
theorem EndAt.le (h : EndAt w0 w b g vs os c tb lb eb out A2 c2 G2) : out.length ≤ vs.length := by
  have h1 := h.cnt
  have h2 := List.count_le_length (a := true) (l := os)
  have := h.can.len
  omega
/-- One is marked, and told. -/
theorem EndAt.told (h : EndAt w0 w b g vs os c tb lb eb out A2 c2 G2) (i : Nat) (hi : i < vs.length) (ho : os.getD i false = false) {A3 : Option Addr} {c3 : Nat} {G3 : Option Nat}
    (hT : Tch (fun k => G2 = some k) (w.setCell ⟨g, i * 2 + 1, none⟩ (.bool true)) w') (hs : Sl w' 3 1 A3 (out.length + 1) c3 (ints out ++ [.int .i64 i]) G3) (hG : G3 = G2 ∨ ∃ k, G3 = some k ∧ w.heap.size ≤ k) :
    EndAt w0 (w'.setCell ⟨lb, 0, none⟩ (.slice A3 (out.length + 1) c3)) b g vs (os.set i true) c tb lb eb (out ++ [(i : Int)]) A3 c3 G3 := by
  obtain ⟨hm, hTm⟩ := h.can.mark i hi true
  have hg := h.kf g (.inr (.inl rfl))
  have hlb := h.l.lt
  have hL : Tch (· = lb) w' (w'.setCell ⟨lb, 0, none⟩ (.slice A3 (out.length + 1) c3)) := (Tch.refl (· = lb) w').setCell (p := ⟨lb, 0, none⟩) (fun _ => rfl) _
  have hl0 := h.l0
  have ht0 := h.t0
  have he0 := h.e0
  have e1 : (out ++ [(i : Int)]).length = out.length + 1 := by simp
  have hG3 : ∀ k, G3 = some k → w0.heap.size ≤ k ∧ k ≠ tb ∧ k ≠ lb ∧ k ≠ eb := fun k hk => by
    rcases hG with e | ⟨q, e, hq⟩
    · exact h.g2 k (e ▸ hk)
    · rw [e] at hk
      injection hk with hk
      subst hk
      have := h.t.lt
      have := h.e.lt
      exact ⟨by omega, by omega, by omega, by omega⟩
  refine ⟨((hm.keep hT (fun k hk e => ?_)).keep hL (fun k hk e => ?_)), ((h.t.keep hTm (by omega)).keep hT (fun e => (h.g2 _ e).2.1 rfl)).keep hL h.tl, ?_, ((h.e.keep hTm (by omega)).keep hT (fun e => (h.g2 _ e).2.2.2 rfl)).keep hL h.el, ?_, ht0, hl0, he0, h.tl, h.el, h.kf, hG3, ?_, ?_⟩
  · have := h.kf k hk
    have := (h.g2 k e).1
    omega
  · have := h.kf k hk
    omega
  · rw [e1]
    exact ((h.l.keep hTm (by omega)).keep hT (fun e => (h.g2 _ e).2.2.1 rfl)).set 0 _
  · rw [e1, ints, List.map_append]
    exact hs.keep hL (fun k hk e => (hG3 k hk).2.2.1 e)
  · rw [e1, count_mark os i (by rw [h.can.len]; exact hi) ho]
    have := h.cnt
    omega
  · refine ((h.tch.trans hTm).then hT (fun k hk e => ?_)).then hL (fun k hk e => ?_)
    · have := (h.g2 k e).1
      omega
    · omega
end

set_option maxHeartbeats 2000000 in
set_option maxRecDepth 100000 in
theorem end_call (w0 : World) (b g : Nat) (vs : List Bv) (c tb lb eb : Nat) (ab : List Int) (H : TreeWf ab) (h1 : vs.length = ab.length) (h2 : ∀ (i : Nat) (x : Bv), vs[i]? = some x → x.b = belowL ab i) (n : Nat) :
    ∀ (i : Nat) (os : List Bool) (out : List Int) (A2 : Option Addr) (c2 : Nat) (G2 : Option Nat) (w : World), vs.length ≤ n + i → i < vs.length → ClosedAt ab os i → EndAt w0 w b g vs os c tb lb eb out A2 c2 G2 →
    Calls Tryz.prog 80 #[.int .i64 i, .pointer (some ⟨tb, 0, none⟩), .pointer (some ⟨lb, 0, none⟩), .pointer (some ⟨eb, 0, none⟩)] w fun e w' => e = .returned (.tuple #[]) ∧
      ∃ (os' : List Bool) (new : List Nat) (A3 : Option Addr) (c3 : Nat) (G3 : Option Nat), EndAt w0 w' b g vs os' c tb lb eb (out ++ new.map (fun (j : Nat) => (j : Int))) A3 c3 G3 ∧ Marks ab os os' (Comes ab i) ∧ ToldOff os (Comes ab i) new := by
  induction n with
  | zero => intro i os out A2 c2 G2 w hn hi; omega
  | succ n ih =>
    intro i os out A2 c2 G2 w hn hi hC hE
    have HE := Lib.hid hE
    have HC := Lib.hid hC
    have HW := Lib.hid H
    have HI := Lib.hid ih
    have H1 := Lib.hid h1
    have H2 := Lib.hid h2
    have hc := hE.can.blk.cellOf 0 _ rfl
    obtain ⟨g', e1, e2, hcl⟩ := hE.can.sl.cells (by omega)
    injection e2 with e2
    subst e2
    obtain ⟨x, hx⟩ : ∃ x, vs[i]? = some x := ⟨vs[i], by simp [hi]⟩
    have ho := hcl _ _ (kcells_get _ _ i x hx hE.can.len).2
    have hcap := hE.can.sl.cap_le
    have ht := hE.t.cellOf 0 _ rfl
    have hle := hE.can.le
    have hil : i < 1024 := by omega
    clear hcl e1 h1 h2 hC ih H
    by_cases hoff : os.getD i false = true
    · rw [hoff] at ho
      have hR : Hid (EndAt w0 w b g vs os c tb lb eb (out ++ ([] : List Nat).map (fun (j : Nat) => (j : Int))) A2 c2 G2) := Lib.hid (by rw [List.map_nil, List.append_nil]; exact hE)
      have hM := Lib.hid (marks_none HC.out hoff)
      have hT := Lib.hid (told_none HC.out hoff)
      clear hE hoff
      go_enter Tryz.func80, Tryz.ntmps80
      go_wp2
      ((try simp only [Exit.inBlock, Exit.then]); refine bodyPost_ret (results_none rfl _ _ _) rfl ?_)
      exact ⟨rfl, os, [], A2, c2, G2, hR.out, hM.out, hT.out⟩
    · have hoff2 : os.getD i false = false := by simpa using hoff
      rw [hoff2] at ho
      have hl := hE.l.cellOf 0 _ rfl
      have hsl := hE.sl
      have hf := hE.can.sl.free (i * 2 + 1)
      have hol := hE.le
      have hlb := hE.l.lt
      have hgl := hE.can.sl.lt g rfl
      have hglb : ¬ lb = g := fun e => by have := hE.l0; have := hE.kf g (.inr (.inl rfl)); omega
      have hgb : ¬ b = g := fun e => hE.can.nb (by rw [e])
      have htg : ¬ tb = g := fun e => by have := hE.t0; have := hE.kf g (.inr (.inl rfl)); omega
      have HG2 := Lib.hid hE.g2
      have HL := Lib.hid hE.l
      have hmk := (hE.can.mark i hi true).2
      have hl2 : (w.setCell ⟨g, i * 2 + 1, none⟩ (.bool true)).cell? ⟨lb, 0, none⟩ = some (.slice A2 out.length c2) := hmk.cell' hl hglb
      have hs2 := hsl.keep hmk (fun k hk e => by have := (hE.g2 k hk).1; have := hE.kf g (.inr (.inl rfl)); omega)
      have HMK := Lib.hid hmk
      have hsz : (w.setCell ⟨g, i * 2 + 1, none⟩ (.bool true)).heap.size = w.heap.size := by simp [World.setCell]
      clear hE hoff hsl hmk
      go_enter Tryz.func80, Tryz.ntmps80
      go_upto_region 3 with (at_builtin; refine wpList_app _ rfl (.tmp 22) (.tmp 24) 52 rfl 3 (.int .i64 0) 1 8 Tryz.underlying52 infoInt rfl (by decide) (by decide) _ _ _ _ _ _ _ _ _ rfl rfl (hs2.alloc _) (Src.madeAt1 hsz) (ints_one [(i : Int)]) (by omega) ?_; intro A6 c6 w6 G6 hs6 ht6 hg6; have HS6 := Lib.hid hs6; have HT6 : Hid (Tch (fun k => G2 = some k) (w.setCell ⟨g, i * 2 + 1, none⟩ (.bool true)) w6) := Lib.hid (Tch.then ((Tch.refl _ _).alloc _) ht6 (fun _ _ h => h)); have HG6 := Lib.hid hg6; have hl6 : w6.cell? ⟨lb, 0, none⟩ = some (.slice A2 out.length c2) := HT6.out.cell' hl2 (fun e => (HG2.out _ e).2.2.1 rfl); have hf6 : w6.frozen? ⟨lb, 0, none⟩ = false := ((HL.out.keep HMK.out hglb).keep HT6.out (fun e => (HG2.out _ e).2.2.1 rfl)).free 0; clear hs6 ht6 hg6)
      have hE7 := HE.out.told i hi hoff2 HT6.out HS6.out (HG6.out.elim .inl (fun ⟨k, e1, e2⟩ => .inr ⟨k, e1, by simp [World.setCell] at e2; omega⟩))
      have hM0 := marks_start (ab := ab) (os := os) (i := i) (by rw [HE.out.can.len]; exact hi)
      have hT0 := told_start (ab := ab) hoff2
      clear hl6 hf6 HS6 HT6 HG6 HMK hs2 hl2 HL HG2 hl hf hc ho ht
      generalize w6.setCell ⟨lb, 0, none⟩ (.slice A6 (out.length + 1) c6) = w7 at *
      have hc := hE7.can.blk.cellOf 0 _ rfl
      obtain ⟨g', e1, e2, hcl⟩ := hE7.can.sl.cells (by omega)
      injection e2 with e2
      subst e2
      have hr := hcl _ _ (kcells_get _ _ i x hx hE7.can.len).1
      have ht := hE7.t.cellOf 0 _ rfl
      have hsx := hE7.can.each i x hx
      have hcapx := hsx.cap_le
      have hxb := H2.out i x hx
      have hxl : x.b.length ≤ 1024 := by rw [hxb]; have := belowL_le ab i; have := H1.out; omega
      have HXB := Lib.hid hxb
      clear hcl e1 HE hsx hxb
      go_wp2_with fail
      go_loopw [35] (fun y wr => ∃ (m : Nat) (os' : List Bool) (new : List Nat) (A3 : Option Addr) (c3 : Nat) (G3 : Option Nat), y = .int .i64 m ∧ m ≤ x.b.length ∧ EndAt w0 wr b g vs os' c tb lb eb (out ++ new.map (fun (j : Nat) => (j : Int))) A3 c3 G3 ∧ Marks ab os os' (OffTo ab i m) ∧ ToldOff os (OffTo ab i m) new) (fun y _ => x.b.length - (intOf y).toNat)
      case atStart => exact ⟨0, _, [i], A6, c6, G6, rfl, Nat.zero_le _, hE7, hM0, hT0⟩
      case round =>
        clear hE7 hM0 hT0 hc hr ht
        obtain ⟨m, os', new, A3, c3, G3, rfl, hm, hE, hM, hT⟩ := hrel
        by_cases hlt : m < x.b.length
        · have hxb := HXB.out
          have hmb : m < (belowL ab i).length := by rw [← hxb]; exact hlt
          obtain ⟨d, hd⟩ := child_of hmb
          have hu := child_up hmb hd
          have hdb := HW.out.up hu
          have hCd := closed_child HW.out HC.out hmb hd hM
          obtain ⟨gx, ex, _, hcx⟩ := (hE.can.each i x hx).cells (by omega)
          have hv := hcx _ _ (ints_get x.b m hlt)
          have hdx : x.b.getD m 0 = (d : Int) := by rw [hxb]; exact hd
          rw [hdx] at hv
          have he := hE.e.cellOf 0 _ rfl
          unfold endV at he
          have HE := Lib.hid hE
          have HM := Lib.hid hM
          have HT := Lib.hid hT
          have HCD := Lib.hid hCd
          have HMB := Lib.hid hmb
          have HDD := Lib.hid hd
          have hdl : d < vs.length := by have := H1.out; omega
          have hnd : vs.length ≤ n + d := by omega
          rw [ex]
          clear hcx hE hM hT hCd hmb hd hu hdb hdx hxb
          go_wp2_with fail
          refine (HI.out d os' _ A3 c3 G3 wr hnd hdl HCD.out HE.out).mono ?_
          rintro e w8 ⟨rfl, os2, new2, A4, c4, G4, hE8, hM8, hT8⟩
          have HR : Hid (EndAt w0 w8 b g vs os2 c tb lb eb (out ++ (new ++ new2).map (fun (j : Nat) => (j : Int))) A4 c4 G4) := Lib.hid (by rw [List.map_append, ← List.append_assoc]; exact hE8)
          have HM2 := Lib.hid (marks_child HMB.out HDD.out HM.out hM8)
          have HT2 := Lib.hid (told_child HW.out HMB.out HDD.out HM.out HT.out hT8)
          clear hE8 hM8 hT8 HE HM HT HCD hv he
          go_wp2
          go_roundw
          case rel => exact ⟨m + 1, os2, new ++ new2, A4, c4, G4, num (by omega), by omega, HR.out, HM2.out, HT2.out⟩
          case measure => simp [intOf]; omega
        · obtain rfl : m = x.b.length := by omega
          rw [HXB.out] at hM hT
          have HE := Lib.hid hE
          have HM := Lib.hid (marks_done hM)
          have HT := Lib.hid (told_done hT)
          clear hE hM hT
          go_wp2
          go_end0
          exact ⟨rfl, os', new, A3, c3, G3, HE.out, HM.out, HT.out⟩
end Go.Proofs.YtipbimbnpikbcaaGreat

/- The library's contract of slices.Sort at []int, laid at this program (the text is the kit's lay-plain.mjs's). -/
namespace Go.Proofs.YtipbimbnpikbcaaGreat
open Go.Shelf
def Tryz.lays189_ren : Go.Shelf.Ren := ⟨fun | 189 => 81 | 125 => 98 | 257 => 97 | 128 => 113 | 129 => 114 | 294 => 104 | 295 => 105 | 296 => 106 | 297 => 107 | 298 => 108 | 299 => 109 | 216 => 110 | 300 => 111 | 301 => 112 | 328 => 117 | 329 => 118 | 330 => 119 | 331 => 120 | 332 => 121 | 215 => 122 | 343 => 123 | n => n, fun | 28 => 52 | 3 => 3 | 46 => 149 | 0 => 0 | 51 => 163 | 53 => 165 | 4 => 4 | 183 => 157 | 182 => 156 | 131 => 43 | 5 => 5 | 9 => 9 | 218 => 168 | 222 => 172 | 228 => 174 | 229 => 175 | n => n, fun | n => n⟩
theorem Tryz.lays189 : Go.Proofs.Lays.n189 Tryz.prog Tryz.lays189_ren := {
  mixed := by kernel_rfl
  f125 := Tryz.func98.trans (congrArg some (by kernel_rfl))
  f128 := Tryz.func113.trans (congrArg some (by kernel_rfl))
  f129 := Tryz.func114.trans (congrArg some (by kernel_rfl))
  f189 := Tryz.func81.trans (congrArg some (by kernel_rfl))
  f215 := Tryz.func122.trans (congrArg some (by kernel_rfl))
  f216 := Tryz.func110.trans (congrArg some (by kernel_rfl))
  f257 := Tryz.func97.trans (congrArg some (by kernel_rfl))
  f294 := Tryz.func104.trans (congrArg some (by kernel_rfl))
  f295 := Tryz.func105.trans (congrArg some (by kernel_rfl))
  f296 := Tryz.func106.trans (congrArg some (by kernel_rfl))
  f297 := Tryz.func107.trans (congrArg some (by kernel_rfl))
  f298 := Tryz.func108.trans (congrArg some (by kernel_rfl))
  f299 := Tryz.func109.trans (congrArg some (by kernel_rfl))
  f300 := Tryz.func111.trans (congrArg some (by kernel_rfl))
  f301 := Tryz.func112.trans (congrArg some (by kernel_rfl))
  f328 := Tryz.func117.trans (congrArg some (by kernel_rfl))
  f329 := Tryz.func118.trans (congrArg some (by kernel_rfl))
  f330 := Tryz.func119.trans (congrArg some (by kernel_rfl))
  f331 := Tryz.func120.trans (congrArg some (by kernel_rfl))
  f332 := Tryz.func121.trans (congrArg some (by kernel_rfl))
  f343 := Tryz.func123.trans (congrArg some (by kernel_rfl))
  t0 := Tryz.underlying0
  a0 := Tryz.isAgg0
  z0 := Tryz.sizeOf0
  v0 := Tryz.zeroValue0
  t3 := Tryz.underlying3
  a3 := Tryz.isAgg3
  z3 := Tryz.sizeOf3
  v3 := Tryz.zeroValue3
  t4 := Tryz.underlying4
  a4 := Tryz.isAgg4
  z4 := Tryz.sizeOf4
  v4 := Tryz.zeroValue4
  t5 := Tryz.underlying5
  a5 := Tryz.isAgg5
  z5 := Tryz.sizeOf5
  v5 := Tryz.zeroValue5
  t9 := Tryz.underlying9
  a9 := Tryz.isAgg9
  z9 := Tryz.sizeOf9
  v9 := Tryz.zeroValue9
  t28 := Tryz.underlying52
  a28 := Tryz.isAgg52
  z28 := Tryz.sizeOf52
  v28 := Tryz.zeroValue52
  t46 := Tryz.underlying149
  a46 := Tryz.isAgg149
  z46 := Tryz.sizeOf149
  v46 := Tryz.zeroValue149
  t51 := Tryz.underlying163
  a51 := Tryz.isAgg163
  z51 := Tryz.sizeOf163
  v51 := Tryz.zeroValue163
  t53 := Tryz.underlying165
  a53 := Tryz.isAgg165
  z53 := Tryz.sizeOf165
  v53 := Tryz.zeroValue165
  t131 := Tryz.underlying43
  a131 := Tryz.isAgg43
  z131 := Tryz.sizeOf43
  v131 := Tryz.zeroValue43
  t182 := Tryz.underlying156
  a182 := Tryz.isAgg156
  z182 := Tryz.sizeOf156
  v182 := Tryz.zeroValue156
  t183 := Tryz.underlying157
  a183 := Tryz.isAgg157
  z183 := Tryz.sizeOf157
  v183 := Tryz.zeroValue157
  t218 := Tryz.underlying168
  a218 := Tryz.isAgg168
  z218 := Tryz.sizeOf168
  v218 := Tryz.zeroValue168
  t222 := Tryz.underlying172
  a222 := Tryz.isAgg172
  z222 := Tryz.sizeOf172
  v222 := Tryz.zeroValue172
  t228 := Tryz.underlying174
  a228 := Tryz.isAgg174
  z228 := Tryz.sizeOf174
  v228 := Tryz.zeroValue174
  t229 := Tryz.underlying175
  a229 := Tryz.isAgg175
  z229 := Tryz.sizeOf175
  v229 := Tryz.zeroValue175 }
open Go.Sort Go.RowKit in
theorem Tryz.slices_Sort_int (blk off cap : Nat) (zs : List Int) (w : World) (hH : Holds (Value.int .i64) w blk off zs.toArray) (hblk : blk < w.heap.size) (hsz : zs.length < 4611686018427387904) :
    Calls Tryz.prog 81 #[.slice (some ⟨blk, off, none⟩) zs.length cap] w fun e w' =>
      e = .returned (.tuple #[]) ∧ ∃ n os, w' = grow (putRow (Value.int .i64) (Sort.ahead w n) blk off (zs.mergeSort fun x y => decide (x ≤ y)).toArray) os := Any.slices_Sort_int Tryz.lays189 blk off cap zs w hH hblk hsz
open Go.RowKit Go.Sort in
theorem Tryz.slices_Sort_int_none (p : Option Addr) (cap : Nat) (w : World) :
    Calls Tryz.prog 81 #[.slice p 0 cap] w fun e w' => e = .returned (.tuple #[]) ∧ w' = w := Any.slices_Sort_int_none Tryz.lays189 p cap w
end Go.Proofs.YtipbimbnpikbcaaGreat

/- A row of integers of the program's own, sorted by the library. -/
namespace Go.Proofs.YtipbimbnpikbcaaGreat
open Go.RowKit

theorem sort_ints (A : Option Addr) (c : Nat) (G : Option Nat) (out : List Int) (w : World) (h : Sl w 3 1 A out.length c (ints out) G) (hl : out.length ≤ 1024) :
    Calls Tryz.prog 81 #[.slice A out.length c] w fun e w' => e = .returned (.tuple #[]) ∧ Sl w' 3 1 A out.length c (ints (out.mergeSort fun x y => decide (x ≤ y))) G ∧ Tch (fun k => G = some k) w w' := by
  rcases Nat.eq_zero_or_pos out.length with h0 | h0
  · have e : out = [] := List.eq_nil_of_length_eq_zero h0
    subst e
    refine (Tryz.slices_Sort_int_none A c w).mono ?_
    rintro e w' ⟨rfl, rfl⟩
    exact ⟨rfl, by simpa using h, Tch.refl _ _⟩
  · have hb := h.blk
    rcases h.own.2 with ⟨hv, _⟩ | ⟨g, c', cur, hv, _, hh, h1, h2, h3, h4⟩
    · injection hv with e1 e2
      omega
    · injection hv with e1 e2 e3
      subst e1
      subst e3
      have h4' : cur.toList.take out.length = out.map (Value.int .i64) := by rw [Nat.mul_one] at h4; exact h4
      refine (Tryz.slices_Sort_int g 0 c out w (holds_of_blockI hh h4') (Array.getElem?_eq_some_iff.1 hh).1 (by omega)).mono ?_
      rintro e w' ⟨rfl, n, os, rfl⟩
      refine ⟨rfl, ⟨ownsRow_sortedI (by simp) (Nat.zero_le _) hh h1 h2 h3, hb⟩, (Tch.refl _ w).grown (grownBy_sortedI _) (fun k e _ => ?_)⟩
      injection e with e
      rw [← hb, e]
      rfl
end Go.Proofs.YtipbimbnpikbcaaGreat

/- A token is called off. -/
namespace Go.Proofs.YtipbimbnpikbcaaGreat
open Go.RowKit

/-- What was told: a row of its own. -/
def CanTold (w w' : World) (e : Ending) (x : List Int) (y : Nat) : Prop :=
  ∃ A cap G, e = .returned (.tuple #[.slice A x.length cap, .int .i64 y]) ∧ Sl w' 3 1 A x.length cap (ints x) G ∧ ∀ g, G = some g → w.heap.size ≤ g

set_option maxHeartbeats 2000000 in
set_option maxRecDepth 100000 in
theorem can_cancel (b : Nat) (ab : List Int) (off : List Bool) (F : Nat → Prop) (id : Int) (w : World) (h : CanQ w b ab off F) :
    Calls Tryz.prog 51 #[.pointer (some ⟨b, 0, none⟩), .int .i64 id] w fun e w' => CanTold w w' e (tcancelM ab off id).2.1 (tcancelM ab off id).2.2 ∧ Tch F w w' ∧ CanQ w' b ab (tcancelM ab off id).1 F := by
  have HQ := Lib.hid h
  obtain ⟨vs, A, c, G, h, h1, h2, h3, hF⟩ := h
  have HN := Lib.hid (h.keep ((Tch.refl NoBlk w).alloc (.cells #[.pointer (some ⟨b, 0, none⟩)] 66)) (fun _ _ h => h))
  have HH := Lib.hid h
  have H1 := Lib.hid h1
  have H2 := Lib.hid h2
  have H3 := Lib.hid h3
  have HF := Lib.hid hF
  have hl := h.le
  unfold tcancelM
  by_cases hid : 0 ≤ id ∧ id < ab.length
  · rw [if_pos hid]
    obtain ⟨i, rfl⟩ := Int.eq_ofNat_of_zero_le hid.1
    have hi : i < vs.length := by omega
    obtain ⟨g, rfl, rfl, _⟩ := h.sl.form (by omega)
    obtain ⟨W3, hW3⟩ : ∃ W, W = ((w.alloc (.cells #[.pointer (some ⟨b, 0, none⟩)] 66)).alloc (.cells #[.slice none 0 0] 52)).alloc (.cells #[endV w.heap.size (w.heap.size + 1) (w.heap.size + 1 + 1)] 80) := ⟨_, rfl⟩
    have hT3 : Tch NoBlk w W3 := by rw [hW3]; exact (((Tch.refl NoBlk w).alloc _).alloc _).alloc _
    have hE : EndAt w W3 b g vs off c w.heap.size (w.heap.size + 1) (w.heap.size + 1 + 1) [] none 0 none := by
      refine ⟨h.keep hT3 (fun _ _ h => h), ?_, ?_, ?_, Sl.nil _ _ _, Nat.le_refl _, by omega, by omega, by omega, by omega, fun k hk => h.lt k hk, (fun k e => by cases e), Nat.zero_le _, hT3.mono (fun _ _ e => e.elim)⟩
      · rw [hW3]
        exact ((Blk.new w _ [.pointer (some ⟨b, 0, none⟩)]).alloc _).alloc _
      · rw [hW3, ← World.size_alloc w (.cells #[.pointer (some ⟨b, 0, none⟩)] 66)]
        exact (Blk.new _ _ [.slice none 0 0]).alloc _
      · have e2 : w.heap.size + 1 + 1 = ((w.alloc (.cells #[.pointer (some ⟨b, 0, none⟩)] 66)).alloc (.cells #[.slice none 0 0] 52)).heap.size := by simp
        rw [hW3, e2]
        exact Blk.new _ _ [_]
    rw [hW3] at hE
    have HE := Lib.hid hE
    have HC : Hid (ClosedAt ab off i) := Lib.hid (fun p q _ h5 h6 => h3.closed h5 h6)
    rw [Int.toNat_natCast]
    clear h h1 h2 h3 hF hT3 hE hid hW3
    unfold endV at HE
    have hsf := fun (a : Addr) (c : Array Value) (w : World) => run_store Tryz.prog w a (.func (.func 80) #[] c) .plain rfl
    go_enter Tryz.func51, Tryz.ntmps51
    go_wp2_with fail
    refine (canat_there_yes HN.out i hi).mono ?_
    rintro e w0 ⟨rfl, h0⟩; subst w0
    go_wp2_with fail
    refine (end_call w b g vs c w.heap.size (w.heap.size + 1) (w.heap.size + 1 + 1) ab H3.out.wf H1.out H2.out vs.length i off [] none 0 none _ (by omega) hi HC.out HE.out).mono ?_
    rintro e w4 ⟨rfl, os', new, A3, c3, G3, hE4, hM4, hT4⟩
    rw [List.nil_append] at hE4
    obtain ⟨out, hout⟩ : ∃ o, o = new.map (fun (j : Nat) => (j : Int)) := ⟨_, rfl⟩
    rw [← hout] at hE4
    have HO := Lib.hid hout
    have hl4 := hE4.l.cellOf 0 _ rfl
    have HE4 := Lib.hid hE4
    have HT4 := Lib.hid hT4
    have HM4 := Lib.hid hM4
    clear hE4 hT4 hM4 HE hout
    go_wp2_with fail
    refine (sort_ints A3 c3 G3 out w4 HE4.out.sl (by have := HE4.out.le; omega)).mono ?_
    rintro e w5 ⟨rfl, hs5, hT5⟩
    have hl5 := hT5.cell' hl4 (fun e => (HE4.out.g2 _ e).2.2.1 rfl)
    obtain ⟨res, hres⟩ : ∃ r, r = (newOff ab off i).map (fun (j : Nat) => (j : Int)) := ⟨_, rfl⟩
    have hns := told_sort H3.out.wf (by have := H1.out; omega) HT4.out
    rw [← HO.out, ← hres] at hns
    rw [hns] at hs5
    have hnl : out.length = res.length := by rw [← hns]; simp
    rw [hnl] at hs5 hl5
    have HS5 := Lib.hid hs5
    have HRES := Lib.hid hres
    have HT5 := Lib.hid hT5
    clear hs5 hT5 hns hl4 hres hnl
    go_wp2
    go_ret2
    have hT6 : Tch (fun k => k = g) w w5 := HE4.out.tch.then HT5.out (fun k hk e => by have := (HE4.out.g2 k e).1; omega)
    rw [← HRES.out]
    refine ⟨⟨A3, c3, G3, rfl, HS5.out, fun q hq => (HE4.out.g2 q hq).1⟩, hT6.mono (fun k _ e => (HF.out k).2 (.inr (.inl (by rw [e])))), vs, some ⟨g, 0, none⟩, c, some g, ?_, H1.out, H2.out, offWith_ok H3.out i, HF.out⟩
    rw [← marks_with H3.out.wf H3.out.len HM4.out]
    exact HE4.out.can.keep HT5.out (fun k hk e => by have := HE4.out.kf k hk; have := (HE4.out.g2 k e).1; omega)
  · rw [if_neg hid]
    have hid2 : id < 0 ∨ (vs.length : Int) ≤ id := by omega
    clear h h1 h2 h3 hF hid
    go_enter Tryz.func51, Tryz.ntmps51
    go_wp2_with fail
    refine (canat_there_no HN.out id hid2).mono ?_
    rintro e w0 ⟨rfl, h0⟩; subst w0
    go_wp2
    go_ret2
    exact ⟨⟨none, 0, none, rfl, Sl.nil _ _ _, fun g e => by cases e⟩, ((Tch.refl F w).alloc _), HQ.out.keep ((Tch.refl NoBlk w).alloc _) (fun _ _ h => h)⟩
end Go.Proofs.YtipbimbnpikbcaaGreat
