/- CancelBelow's walk. -/
import Derived.Test.YtbdfcoclmmhblaaCancelMany
import Derived.Deep.CutRange
namespace Go.Proofs.Ytbdfcoclmmhblaa
open Go.RowKit

/-- Those of the first i that come to c. -/
def wantTo (ab : List Int) (c i : Nat) : List Int := ((List.range i).filter fun j => comes ab c j).map fun (j : Nat) => (j : Int)
theorem wantTo_snoc (ab : List Int) (c i : Nat) : wantTo ab c (i + 1) = wantTo ab c i ++ if comes ab c i = true then [(i : Int)] else [] := by
  simp only [wantTo, List.range_succ, List.filter_append, List.map_append]
  congr 1
  rw [List.filter_cons, List.filter_nil]
  split <;> rfl
theorem wantTo_le (ab : List Int) (c i : Nat) : (wantTo ab c i).length ≤ i := by
  rw [wantTo, List.length_map]
  exact Nat.le_trans (List.length_filter_le _ _) (by simp)
theorem want_cancel (ab : List Int) (c : Nat) (hc : c < ab.length) : tcancelM ab (offs ab.length) (c : Int) = (offWith ab (offs ab.length) c, wantTo ab c ab.length, 0) := by
  unfold tcancelM
  rw [if_pos (by omega), Int.toNat_natCast]
  congr 2
  unfold newOff wantTo
  congr 1
  apply List.filter_congr
  intro j _
  rw [offs_get]
  simp
theorem want_again (ab : List Int) (c : Nat) (hc : c < ab.length) : (tcancelM ab (offWith ab (offs ab.length) c) (c : Int)).2 = ([], 0) := by
  unfold tcancelM
  rw [if_pos (by omega), Int.toNat_natCast]
  have e : newOff ab (offWith ab (offs ab.length) c) c = [] := by
    unfold newOff
    rw [List.filter_eq_nil_iff]
    intro j hj
    rw [offWith_get (List.mem_range.1 hj)]
    cases comes ab c j <;> simp
  rw [e]
  rfl
theorem want_off (ab : List Int) (c j : Nat) (hj : j < ab.length) : toffM (offWith ab (offs ab.length) c) (j : Int) = comes ab c j := by
  have e := offWith_get (ab := ab) (off := offs ab.length) (c := c) hj
  rw [offs_get, Bool.false_or] at e
  simpa [toffM] using e
/-- x is on the way up from i. -/
def OnWay (ab : List Int) (c i : Nat) (x : Int) : Prop := -1 ≤ x ∧ x ≤ i ∧ (Comes ab c i ↔ ∃ q : Nat, x = q ∧ Comes ab c q)
theorem OnWay.start (ab : List Int) (c i : Nat) : OnWay ab c i i := ⟨by omega, by omega, ⟨fun h => ⟨i, rfl, h⟩, fun ⟨q, e, h⟩ => by
  obtain rfl : i = q := by omega
  exact h⟩⟩
theorem OnWay.step {ab : List Int} {c i q : Nat} (H : TreeWf ab) (h : OnWay ab c i q) (hq : c < q) (hl : q < ab.length) : OnWay ab c i (ab.getD q 0) := by
  obtain ⟨h1, h2, h3⟩ := h
  have hab : ab[q]? = some (ab.getD q 0) := by simp [List.getD_eq_getElem?_getD, hl]
  have hwf := H q _ hab
  refine ⟨hwf.1, by omega, ?_⟩
  rw [h3]
  constructor
  · rintro ⟨q', e, h⟩
    obtain rfl : q = q' := by omega
    cases h with
    | self => omega
    | step h4 h5 =>
      obtain ⟨_, _, h6⟩ := H.up h4
      rw [hab] at h6
      injection h6 with h6
      exact ⟨_, h6, h5⟩
  · rintro ⟨p, e, h⟩
    rw [e] at hab
    exact ⟨q, rfl, .step (up_of hab) h⟩
theorem OnWay.done {ab : List Int} {c i : Nat} {x : Int} (H : TreeWf ab) (h : OnWay ab c i x) (hx : x ≤ c) : comes ab c i = decide (x = c) := by
  rw [Bool.eq_iff_iff, comes_iff H, decide_eq_true_eq, h.2.2]
  constructor
  · rintro ⟨q, e, h⟩
    have := h.le H
    omega
  · intro e
    exact ⟨c, e, .self⟩

/-- The tree, the row of those above, the row of those wanted. -/
structure BelI (w0 w : World) (b : Nat) (ab : List Int) (off : List Bool) (F : Nat → Prop) (A7 : Option Addr) (c7 : Nat) (G7 : Option Nat) (A6 : Option Addr) (c6 : Nat) (G6 : Option Nat) (wl : List Int) : Prop where
  tr : CanI w0 w b ab off F
  s7 : Sl w 3 1 A7 ab.length c7 (ints ab) G7
  s6 : Sl w 3 1 A6 wl.length c6 (ints wl) G6
  g7 : ∀ g, G7 = some g → ¬ F g ∧ w0.heap.size ≤ g ∧ G6 ≠ some g
  g6 : ∀ g, G6 = some g → ¬ F g ∧ w0.heap.size ≤ g
section
variable {w0 w w' : World} {b : Nat} {ab : List Int} {off off' : List Bool} {F F' : Nat → Prop} {A7 : Option Addr} {c7 : Nat} {G7 : Option Nat} {A6 : Option Addr} {c6 : Nat} {G6 : Option Nat} {wl : List Int}
theorem BelI.nothing (h : BelI w0 w b ab off F A7 c7 G7 A6 c6 G6 wl) (hT : Tch NoBlk w w') : BelI w0 w' b ab off F A7 c7 G7 A6 c6 G6 wl := ⟨h.tr.nothing hT, h.s7.keep hT (fun _ _ h => h), h.s6.keep hT (fun _ _ h => h), h.g7, h.g6⟩
/-- A token is made, and its number put behind the others. -/
theorem BelI.made (h : BelI w0 w b ab off F A7 c7 G7 none 0 none []) (x : Int) {w2 : World} (_hT : Tch F w w2) (hI : CanI w0 w2 b (ab ++ [x]) off' F') (hF : ∀ k, F' k → F k ∨ w.heap.size ≤ k) {A : Option Addr} {c : Nat} {G : Option Nat}
    (hT2 : Tch (fun k => G7 = some k) w2 w') (hs : Sl w' 3 1 A (ab.length + 1) c (ints ab ++ [.int .i64 x]) G) (hG : G = G7 ∨ ∃ g, G = some g ∧ w2.heap.size ≤ g) : BelI w0 w' b (ab ++ [x]) off' F' A c G none 0 none [] := by
  have e : (ab ++ [x]).length = ab.length + 1 := by simp
  have hb := hI.below.size
  have h7 : ∀ g, G7 = some g → ¬ F' g := fun g hg hf => (hF g hf).elim (h.g7 g hg).1 (fun h2 => by have := h.s7.lt g hg; omega)
  refine ⟨hI.keep hT2 (fun k hk e => h7 k e hk) (fun k e => (h.g7 k e).2.1), by rw [e, ints, List.map_append]; exact hs, Sl.nil _ _ _, fun g hg => ⟨fun hf => ?_, ?_, by simp⟩, fun g hg => by cases hg⟩
  · rcases hG with e2 | ⟨q, e2, hq⟩
    · exact h7 g (e2 ▸ hg) hf
    · rw [e2] at hg
      injection hg with hg
      have := hI.q.lt g hf
      omega
  · rcases hG with e2 | ⟨q, e2, hq⟩
    · exact (h.g7 g (e2 ▸ hg)).2.1
    · rw [e2] at hg
      injection hg with hg
      omega
theorem BelI.want (h : BelI w0 w b ab off F A7 c7 G7 A6 c6 G6 wl) (x : Int) {A : Option Addr} {c : Nat} {G : Option Nat} (hT : Tch (fun k => G6 = some k) w w') (hs : Sl w' 3 1 A (wl.length + 1) c (ints wl ++ [.int .i64 x]) G) (hG : G = G6 ∨ ∃ g, G = some g ∧ w.heap.size ≤ g) :
    BelI w0 w' b ab off F A7 c7 G7 A c G (wl ++ [x]) := by
  have e : (wl ++ [x]).length = wl.length + 1 := by simp
  have hb := h.tr.below.size
  have hn : ∀ g, G = some g → G6 = some g ∨ w.heap.size ≤ g := fun g hg => by
    rcases hG with e2 | ⟨q, e2, hq⟩
    · exact .inl (e2 ▸ hg)
    · rw [e2] at hg
      injection hg with hg
      exact .inr (by omega)
  refine ⟨h.tr.keep hT (fun k hk e => (h.g6 k e).1 hk) (fun k e => (h.g6 k e).2), h.s7.keep hT (fun g hg e => (h.g7 g hg).2.2 e), by rw [e, ints, List.map_append]; exact hs, fun g hg => ⟨(h.g7 g hg).1, (h.g7 g hg).2.1, fun e => ?_⟩, fun g hg => ?_⟩
  · rcases hn g e with e2 | e2
    · exact (h.g7 g hg).2.2 e2
    · have := h.s7.lt g hg
      omega
  · rcases hn g hg with e2 | e2
    · exact h.g6 g e2
    · exact ⟨fun hf => by have := h.tr.q.lt g hf; omega, by omega⟩
theorem BelI.offed (h : BelI w0 w b ab off F A7 c7 G7 A6 c6 G6 wl) (hT : Tch F w w') (hI : CanI w0 w' b ab off' F) : BelI w0 w' b ab off' F A7 c7 G7 A6 c6 G6 wl :=
  ⟨hI, h.s7.keep hT (fun g e => (h.g7 g e).1), h.s6.keep hT (fun g e => (h.g6 g e).1), h.g7, h.g6⟩
end
def BelOut (w wr : World) (b n : Nat) (t i : Value) : Prop :=
  ∃ (k : Nat) (ab : List Int) (F : Nat → Prop) (A7 : Option Addr) (c7 : Nat) (G7 : Option Nat), i = .int .i64 k ∧ t = .slice A7 k c7 ∧ k ≤ n ∧ ab.length = k ∧ BelI w wr b ab (offs k) F A7 c7 G7 none 0 none []
def BelWant (w wr : World) (b : Nat) (ab : List Int) (F : Nat → Prop) (A7 : Option Addr) (c7 : Nat) (G7 : Option Nat) (c : Nat) (t i : Value) : Prop :=
  ∃ (k : Nat) (wl : List Int) (A6 : Option Addr) (c6 : Nat) (G6 : Option Nat), i = .int .i64 k ∧ t = .slice A6 wl.length c6 ∧ k ≤ ab.length ∧ wl = wantTo ab c k ∧ BelI w wr b ab (offs ab.length) F A7 c7 G7 A6 c6 G6 wl

set_option maxHeartbeats 4000000 in
set_option maxRecDepth 100000 in
theorem cancelBelow_walk (a : Option Addr) (cap : Nat) (l : List Int) (x1 : Int) (w : World) (h : IntsIn .u8 w a cap l) (h1 : IntKind.u8.min ≤ x1 ∧ x1 ≤ IntKind.u8.max) :
    Calls Try.prog 4 #[.slice a l.length cap, .int .u8 x1] w fun e w' => e = .returned (.bool true) ∧ Below w.heap.size w w' := by
  simp only [IntKind.min, IntKind.max, IntKind.signed, IntKind.bits] at h1
  obtain ⟨m1, rfl⟩ := Int.eq_ofNat_of_zero_le (show 0 ≤ x1 by simpa using h1.1)
  have hm1 : m1 ≤ 255 := by have := h1.2; simp at this; omega
  have HE := Lib.hid h.cells
  have HW : Hid (∀ k, k < l.length → ∃ m : Nat, l.getD k 0 = m ∧ m ≤ 255) := Lib.hid (fun k hk => by
    have e : l.getD k 0 ∈ l := by
      rw [List.getD_eq_getElem?_getD, List.getElem?_eq_getElem hk]
      exact List.getElem_mem _
    have := h.wf _ e
    simp [IntKind.min, IntKind.max, IntKind.signed, IntKind.bits] at this
    exact ⟨(l.getD k 0).toNat, by simp; omega, by simp; omega⟩)
  have hle := h.le
  have hc := h.cap
  clear h h1
  obtain ⟨n, hn⟩ : ∃ n, n = min l.length 100 := ⟨_, rfl⟩
  have hnl : n ≤ l.length := by omega
  have hn9 : n ≤ 100 := by omega
  go_enter Try.func4, Try.ntmps4
  go_wp2_with fail
  refine (can_shown w).mono ?_
  rintro e w1 ⟨rfl, hT1⟩
  have B1 := below_no (Below.refl _ w) hT1
  clear hT1
  go_wp2_with fail
  refine (cni_new B1).mono ?_
  rintro e w2 ⟨b, F, rfl, h2, _, _⟩
  clear B1
  go_upto_region 6 with fail
  go_cut [33, 34, 35] from 29 to 29 (fun x y z wx => x = .slice a n cap ∧ y = .int .i64 n ∧ z = .int .i64 0 ∧ w2 = wx)
  case first =>
    clear h2
    go_wp2_with fail
    all_goals
      go_meet
      exact ⟨by congr 1; omega, by apply num; omega, rfl, rfl⟩
  case rest =>
  obtain ⟨rfl, rfl, rfl, rfl⟩ := hcut
  clear hn
  have hI : BelI w w2 b [] (offs 0) F none 0 none none 0 none [] := ⟨h2, Sl.nil _ _ _, Sl.nil _ _ _, (fun g e => by cases e), (fun g e => by cases e)⟩
  clear h2
  go_wp2_with fail
  go_loopw [7, 35] (fun t i wr => BelOut w wr b n t i) (fun _ i _ => n - (intOf i).toNat)
  case atStart => exact ⟨0, [], F, none, 0, none, rfl, rfl, Nat.zero_le _, rfl, hI⟩
  case round =>
    clear hI
    obtain ⟨k, ab, F, A7, c7, G7, rfl, rfl, hk, hab, hI⟩ := hrel
    by_cases hlt : k < n
    · obtain ⟨ba, bo, rfl, hcell⟩ := HE.out (by omega)
      have hkn : k < l.length := by omega
      have hk100 : k < 100 := by omega
      have hc0 := hcell k hkn
      obtain ⟨m, hm, hm255⟩ := HW.out k hkn
      rw [hm] at hc0
      have hx0 : wr.cell? ⟨ba, bo + k, none⟩ = _ := (hI.tr.below.cell (p := ⟨ba, bo + k, none⟩) (World.block_lt_of_cell? w _ hc0)).trans hc0
      obtain ⟨q, hq⟩ : ∃ q, q = m % (k + 1) := ⟨_, rfl⟩
      have hqk : q ≤ k := by have := Nat.mod_lt m (show 0 < k + 1 by omega); omega
      have hqm : (m : Int) % ((k : Int) + 1) = (q : Int) := by rw [hq, Int.natCast_emod, Int.natCast_add]; rfl
      have hqt : (m : Int).tmod ((k : Int) + 1) = (q : Int) := by rw [hq, Int.ofNat_tmod]; rfl
      have hkz : ¬ (k : Int) + 1 = 0 := by omega
      have hM : tmakeM ab (offs k) ((q : Int) - 1) = ((ab ++ [(q : Int) - 1], offs (k + 1)), (k : Int), 0) := by
        unfold tmakeM
        rw [hab, if_neg (by omega), if_neg (by omega), toffM_offs, offs_snoc]
      have HM := Lib.hid hM
      have HI := Lib.hid hI
      have HAB := Lib.hid hab
      have g1 : ((k : Int) != (k : Int)) = false := by simp
      clear hcell hc0 hm hq hM hI hab
      go_wp2_with fail
      refine (cni_make HI.out.tr ((q : Int) - 1) _ _ _ _ HM.out).mono ?_
      rintro e w5 ⟨rfl, hT5, F5, h5, hF5⟩
      have hs5 : Sl w5 3 1 A7 k c7 (ints ab) G7 := by have := HI.out.s7.keep hT5 (fun g e => (HI.out.g7 g e).1); rwa [HAB.out] at this
      have HT5 := Lib.hid hT5
      have H5 := Lib.hid h5
      have HF5 := Lib.hid hF5
      clear hT5 h5 hF5 hx0
      go_wp2_with (at_builtin; refine wpList_app _ rfl (.tmp 59) (.tmp 61) 22 rfl 3 (.int .i64 0) 1 8 Try.underlying22 infoInt rfl (by decide) (by decide) _ _ _ _ _ _ _ _ _ rfl rfl (hs5.alloc _) (Src.made w5 3 #[.int .i64 ((q : Int) - 1)] 1 rfl) (ints_one [(q : Int) - 1]) (by omega) ?_; intro A6 c6 w6 G6 hs6 ht6 hg6; have HS6 := Lib.hid hs6; have HT6 : Hid (Tch (fun i => G7 = some i) w5 w6) := Lib.hid (Tch.then ((Tch.refl _ w5).alloc _) ht6 (fun _ _ h => h)); have HG6 := Lib.hid hg6; clear hs6 ht6 hg6)
      have HJ := Lib.hid (HI.out.made ((q : Int) - 1) HT5.out H5.out HF5.out HT6.out (by rw [HAB.out]; exact HS6.out) (HG6.out.elim .inl (fun ⟨g, e1, e2⟩ => .inr ⟨g, e1, by simp at e2; omega⟩)))
      have habl : (ab ++ [(q : Int) - 1]).length = k + 1 := by rw [List.length_append, HAB.out]; rfl
      clear HS6 HT6 HG6 HI HT5 H5 HF5 hs5
      go_roundw
      case rel => exact ⟨k + 1, _, F5, A6, c6, G6, num (by omega), rfl, by omega, habl, HJ.out⟩
      case measure => simp [intOf]; omega
    · obtain rfl : k = n := by omega
      by_cases hk0 : k = 0
      · subst hk0
        have hnil : ab = [] := List.eq_nil_of_length_eq_zero hab
        subst hnil
        have E : Hid (tcancelM [] (offs 0) 0 = (offs 0, [], 2)) := Lib.hid rfl
        have HI := Lib.hid hI
        clear hI hlt
        go_wp2_with fail
        refine (cni_cancel HI.out.tr 0 _ _ _ E.out).mono ?_
        rintro e w5 ⟨A5, c5, G5, rfl, hs5, hg5, h5, hT5⟩
        have HB := Lib.hid h5.below
        clear hs5 hg5 h5 hT5
        go_wp2
        go_ret
        exact ⟨rfl, HB.out⟩
      · have hkp : 0 < k := by omega
        have hz : ((k : Int) == 0) = false := beq_eq_false_iff_ne.2 (by omega)
        have hzn : (k == 0) = false := beq_eq_false_iff_ne.2 (by omega)
        have hzi : ¬ (k : Int) = 0 := by omega
        obtain ⟨c, hcc⟩ : ∃ c, c = m1 % k := ⟨_, rfl⟩
        have hcl : c < k := by rw [hcc]; exact Nat.mod_lt _ hkp
        have hcm : (m1 : Int) % (k : Int) = (c : Int) := by rw [hcc]; omega
        have hct : (m1 : Int).tmod (k : Int) = (c : Int) := by rw [hcc, Int.ofNat_tmod]
        have HAB := Lib.hid hab
        have hI2 : BelI w wr b ab (offs ab.length) F A7 c7 G7 none 0 none [] := by rw [hab]; exact hI
        have HWF := Lib.hid hI.tr.q.ok.wf
        clear hI hlt hcc hab hk
        go_wp2_with fail
        go_loopw [16, 84] (fun t i wr => BelWant w wr b ab F A7 c7 G7 c t i) (fun _ i _ => k - (intOf i).toNat)
        case atStart => exact ⟨0, [], none, 0, none, rfl, rfl, Nat.zero_le _, rfl, hI2⟩
        case round =>
          clear hI2
          obtain ⟨i, wl, A6, c6, G6, rfl, rfl, hi, hwl, hI⟩ := hrel
          rw [HAB.out] at hi
          have hwll : wl.length ≤ 100 := by rw [hwl]; have := wantTo_le ab c i; omega
          by_cases hik : i < k
          · have HI := Lib.hid hI
            have HWL := Lib.hid hwl
            have HS := Lib.hid (wantTo_snoc ab c i)
            have hO0 := OnWay.start ab c i
            clear hI hwl
            go_wp2_with fail
            go_loopw [18] (fun y wy => ∃ x : Int, y = .int .i64 x ∧ OnWay ab c i x ∧ wy = wr) (fun y _ => (intOf y + 1).toNat)
            case atStart => exact ⟨i, rfl, hO0, rfl⟩
            case round =>
              clear hO0
              obtain ⟨x, rfl, hO, hw0⟩ := hrel
              subst hw0
              have HO := Lib.hid hO
              obtain ⟨hx1, hx2, _⟩ := hO
              have E0 : Hid (toffM (offs ab.length) (i : Int) = false) := Lib.hid (toffM_offs _ _)
              by_cases hxc : (c : Int) < x
              · obtain ⟨q, rfl⟩ := Int.eq_ofNat_of_zero_le (show 0 ≤ x by omega)
                have hql : q < ab.length := by have := HAB.out; omega
                have hq100 : q < k := by have := HAB.out; omega
                have hd : decide ((c : Int) < (q : Int)) = true := by simp; omega
                obtain ⟨g7, e7, _, hcl⟩ := HI.out.s7.cells (by omega)
                have hv := hcl _ _ (ints_get ab q hql)
                have HN := Lib.hid (HO.out.step HWF.out (by omega) hql)
                have hb1 := HN.out.1
                have hb2 : ab.getD q 0 < q := by
                  have hab : ab[q]? = some (ab.getD q 0) := by simp [List.getD_eq_getElem?_getD, hql]
                  exact (HWF.out q _ hab).2
                rw [e7]
                clear hcl e7 HO
                generalize ab.getD q 0 = y at *
                go_wp2_with fail
                go_roundw
                case rel => exact ⟨y, rfl, HN.out, by trivial⟩
                case measure => simp [intOf]; omega
              · have hd : decide ((c : Int) < x) = false := decide_eq_false hxc
                have hcm2 := HO.out.done HWF.out (by omega)
                by_cases hxe : x = c
                · have e1 : (x == (c : Int)) = true := by simpa using hxe
                  rw [decide_eq_true hxe] at hcm2
                  have HW1 : Hid (wl ++ [(i : Int)] = wantTo ab c (i + 1)) := Lib.hid (by rw [HS.out, if_pos hcm2, HWL.out])
                  have hs6 := HI.out.s6
                  clear HO hcm2 hxe hxc HS
                  go_wp2_with (at_builtin; refine wpList_app _ rfl (.tmp 98) (.tmp 100) 22 rfl 3 (.int .i64 0) 1 8 Try.underlying22 infoInt rfl (by decide) (by decide) _ _ _ _ _ _ _ _ _ rfl rfl (hs6.alloc _) (Src.made wr 3 #[.int .i64 i] 1 rfl) (ints_one [(i : Int)]) (by omega) ?_; intro A8 c8 w8 G8 hs8 ht8 hg8; have HS8 := Lib.hid hs8; have HT8 : Hid (Tch (fun i => G6 = some i) wr w8) := Lib.hid (Tch.then ((Tch.refl _ wr).alloc _) ht8 (fun _ _ h => h)); have HG8 := Lib.hid hg8; clear hs8 ht8 hg8)
                  have HJ := Lib.hid (HI.out.want (i : Int) HT8.out HS8.out (HG8.out.elim .inl (fun ⟨g, e1, e2⟩ => .inr ⟨g, e1, by simp at e2; omega⟩)))
                  have hwl1 : (wl ++ [(i : Int)]).length = wl.length + 1 := by simp
                  clear HS8 HT8 HG8 HI hs6
                  refine (cni_off HJ.out.tr (i : Int) false E0.out).mono ?_
                  rintro e w0 ⟨rfl, h0⟩; subst w0
                  go_wp2
                  go_roundw
                  case rel => exact ⟨i + 1, _, A8, c8, G8, num (by omega), by rw [hwl1], by have := HAB.out; omega, HW1.out, HJ.out⟩
                  case measure => simp [intOf]; omega
                · have e1 : (x == (c : Int)) = false := by simpa using hxe
                  rw [decide_eq_false hxe] at hcm2
                  have HW1 : Hid (wl = wantTo ab c (i + 1)) := Lib.hid (by rw [HS.out, if_neg (by rw [hcm2]; simp), List.append_nil]; exact HWL.out)
                  clear HO hcm2 hxe hxc HS
                  go_wp2_with fail
                  refine (cni_off HI.out.tr (i : Int) false E0.out).mono ?_
                  rintro e w0 ⟨rfl, h0⟩; subst w0
                  go_wp2
                  go_roundw
                  case rel => exact ⟨i + 1, wl, A6, c6, G6, num (by omega), rfl, by have := HAB.out; omega, HW1.out, HI.out⟩
                  case measure => simp [intOf]; omega
          · have hik2 : i = ab.length := by have := HAB.out; omega
            rw [hik2] at hwl
            have hM1 := want_cancel ab c (by have := HAB.out; omega)
            rw [← hwl] at hM1
            have HM1 := Lib.hid hM1
            have hM2 := want_again ab c (by have := HAB.out; omega)
            obtain ⟨r, hr⟩ : ∃ r, tcancelM ab (offWith ab (offs ab.length) c) (c : Int) = r := ⟨_, rfl⟩
            obtain ⟨off2, g2, en2⟩ := r
            rw [hr] at hM2
            injection hM2 with hM2 hM3
            subst hM2 hM3
            have ho2 : off2 = offWith ab (offWith ab (offs ab.length) c) c := by
              unfold tcancelM at hr
              rw [if_pos (by have := HAB.out; omega)] at hr
              injection hr with hr _
              exact hr.symm
            have HM2 := Lib.hid hr
            have HOF : Hid (∀ j : Nat, j < ab.length → toffM off2 (j : Int) = comes ab c j) := Lib.hid (fun j hj => by
              have e := want_off ab c j hj
              have e2 := offWith_get (ab := ab) (off := offWith ab (offs ab.length) c) (c := c) hj
              unfold toffM at e ⊢
              rw [decide_eq_true (by omega : (0 : Int) ≤ (j : Int)), Bool.true_and, Int.toNat_natCast] at e ⊢
              rw [ho2, e2, e, Bool.or_self])
            have HWL := Lib.hid hwl
            have HI := Lib.hid hI
            have ei : (i : Int) = (k : Int) := by have := HAB.out; omega
            have hik3 : i = k := by have := HAB.out; omega
            clear hM1 hI hwl hr ho2 hik2
            go_wp2_with fail
            refine (cni_cancel HI.out.tr (c : Int) _ _ _ HM1.out).mono ?_
            rintro e w5 ⟨A5, c5, G5, rfl, hs5, hg5, h5, hT5⟩
            have HI5 := Lib.hid (HI.out.offed hT5 h5)
            have hg5F : ∀ g, G5 = some g → ¬ F g := fun g hg hf => by have := hg5 g hg; have := HI.out.tr.q.lt g hf; omega
            clear HI h5 hT5 hg5
            go_wp2_with fail
            refine (cni_cancel HI5.out.tr (c : Int) _ _ _ HM2.out).mono ?_
            rintro e w6 ⟨A9, c9, G9, rfl, hs9, hg9, h6, hT6⟩
            have HI6 := Lib.hid (HI5.out.offed hT6 h6)
            have HS5 := Lib.hid (hs5.keep hT6 hg5F)
            clear HI5 h6 hT6 hg9 hs5 hs9 hg5F
            go_wp2_with fail
            go_loopw [23, 120] (fun x y wy => ∃ (j : Nat), y = .int .i64 j ∧ x = .int .i64 (wantTo ab c j).length ∧ j ≤ k ∧ wy = w6) (fun _ y _ => k - (intOf y).toNat)
            case atStart => exact ⟨0, rfl, rfl, Nat.zero_le _, rfl⟩
            case round =>
              obtain ⟨j, rfl, rfl, hj, hw0⟩ := hrel
              subst hw0
              have hjw := wantTo_le ab c j
              by_cases hjk : j < k
              · have HS := Lib.hid (wantTo_snoc ab c j)
                have hof := HOF.out j (by have := HAB.out; omega)
                have HOFJ := Lib.hid hof
                clear hof
                have HL0 : Hid ((wantTo ab c (j + 1)).length = (wantTo ab c j).length + if comes ab c j = true then 1 else 0) := Lib.hid (by rw [HS.out, List.length_append]; split <;> rfl)
                clear HS
                generalize (wantTo ab c j).length = wn at *
                cases hcj : comes ab c j with
                | true =>
                  rw [hcj] at HOFJ HL0
                  have HL : Hid ((wn : Int) + 1 = ((wantTo ab c (j + 1)).length : Int)) := Lib.hid (by have := HL0.out; simp at this; omega)
                  go_wp2_with fail
                  refine (cni_off HI6.out.tr (j : Int) true HOFJ.out).mono ?_
                  rintro e w0 ⟨rfl, h0⟩; subst w0
                  go_wp2
                  go_roundw
                  case rel => exact ⟨j + 1, num (by omega), num HL.out, by omega, by trivial⟩
                  case measure => simp [intOf]; omega
                | false =>
                  rw [hcj] at HOFJ HL0
                  have HL : Hid ((wn : Int) = ((wantTo ab c (j + 1)).length : Int)) := Lib.hid (by have := HL0.out; simp at this; omega)
                  go_wp2_with fail
                  refine (cni_off HI6.out.tr (j : Int) false HOFJ.out).mono ?_
                  rintro e w0 ⟨rfl, h0⟩; subst w0
                  go_wp2
                  go_roundw
                  case rel => exact ⟨j + 1, num (by omega), num HL.out, by omega, by trivial⟩
                  case measure => simp [intOf]; omega
              · have hjk2 : j = k := by omega
                have hlen : (wantTo ab c j).length = wl.length := by rw [HWL.out, hjk2, HAB.out]
                rw [hlen]
                have hg : ((wl.length : Int) == (wl.length : Int)) = true := by simp
                have HS6 := Lib.hid HI6.out.s6
                clear hlen hjw hjk
                go_wp2_with fail
                refine (ints_same _ _ _ _ wl wl _ _ _ HS5.out HS6.out rfl).mono ?_
                rintro e w9 ⟨rfl, q9, rfl⟩
                have HB := Lib.hid (HI6.out.tr.nothing ((Tch.refl NoBlk wr).drewN q9)).below
                go_wp2
                go_ret
                exact ⟨rfl, HB.out⟩
end Go.Proofs.Ytbdfcoclmmhblaa
