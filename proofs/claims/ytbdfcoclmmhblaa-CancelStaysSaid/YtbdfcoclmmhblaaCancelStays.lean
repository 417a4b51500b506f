/- CancelStays' walk. -/
import Derived.Test.YtbdfcoclmmhblaaCanLaw
import Derived.Test.YtbdfcoclmmhblaaArgs
import Derived.Test.YtbdfcoclmmhblaaMaps
import Derived.Deep.CutRange
import Derived.Deep.QuietTactic
import Derived.BigQuiet
namespace Go.Proofs.Ytbdfcoclmmhblaa
open Go.RowKit

noncomputable def numKeys : KeyKind Try.prog 3 Int := intKeys Try.underlying3
theorem zeroBool (w : World) : (zeroValue 4).run Try.prog w = .ok (.bool false) w := by kernel_rfl

/-- The marks in a map: true where one is called off; nothing else. -/
def MarksIn (D : List (Int × Value)) (P : Int → Bool) : Prop := ∀ x, lk D x = if P x = true then some (.bool true) else none
theorem MarksIn.get {D : List (Int × Value)} {P : Int → Bool} (h : MarksIn D P) (x : Int) : (lk D x).getD (.bool false) = .bool (P x) := by
  rw [h x]
  cases P x <;> rfl
theorem MarksIn.upd {D : List (Int × Value)} {P Q : Int → Bool} (h : MarksIn D P) (k : Int) (hQ : ∀ x, Q x = (P x || decide (x = k))) : MarksIn (upd D k (.bool true)) Q := fun x => by
  rw [lk_upd, h x, hQ x]
  by_cases e : x = k
  · simp [e]
  · simp [e]
theorem toffM_make {ab : List Int} {off : List Bool} (h : TreeOk ab off) (n x : Int) : toffM (off ++ [toffM off n]) x = (toffM off x || (decide (x = ab.length) && toffM off n)) := by
  unfold toffM
  by_cases h0 : 0 ≤ x
  · obtain ⟨k, rfl⟩ := Int.eq_ofNat_of_zero_le h0
    simp only [h0, decide_true, Bool.true_and, Int.toNat_natCast, List.getD_eq_getElem?_getD]
    by_cases hk : k < off.length
    · rw [List.getElem?_append_left hk]
      have : decide ((k : Int) = ab.length) = false := by rw [← h.len]; simp; omega
      rw [this]
      simp
    · rw [List.getElem?_append_right (by omega), List.getElem?_eq_none (by omega : off.length ≤ k)]
      by_cases e : k = off.length
      · subst e
        have : decide ((off.length : Int) = ab.length) = true := by rw [← h.len]; simp
        rw [this]
        simp
      · have : decide ((k : Int) = ab.length) = false := by rw [← h.len]; simp; omega
        rw [this, List.getElem?_eq_none (by simp; omega)]
        simp
  · have : decide (x = ab.length) = false := by simp; omega
    rw [decide_eq_false h0, this]
    simp
/-- Marked, or among the first m that were told. -/
def markTo (off : List Bool) (got : List Int) (m : Nat) (x : Int) : Bool := toffM off x || decide (x ∈ got.take m)
theorem markTo_zero (off : List Bool) (got : List Int) : markTo off got 0 = toffM off := by
  funext x
  simp [markTo]
theorem markTo_snoc (off : List Bool) (got : List Int) (m : Nat) (hm : m < got.length) (x : Int) : markTo off got (m + 1) x = (markTo off got m x || decide (x = got.getD m 0)) := by
  unfold markTo
  rw [take_snoc got m hm, Bool.or_assoc, ← Bool.decide_or]
  congr 1
  apply decide_eq_decide.2
  rw [List.mem_append, List.mem_singleton]
/-- What is told by calling off c: each behind the one ahead of it, none that was marked, none ahead of c. -/
structure GotOf (off : List Bool) (c : Int) (got : List Int) : Prop where
  inc : got.Pairwise (· < ·)
  new : ∀ x ∈ got, toffM off x = false ∧ c ≤ x
theorem GotOf.at_ {off : List Bool} {c : Int} {got : List Int} (h : GotOf off c got) (m : Nat) (hm : m < got.length) (last : Int) (hl : last = -1 ∨ 0 < m ∧ last = got.getD (m - 1) 0) (h0 : 0 ≤ c) :
    last < got.getD m 0 ∧ markTo off got m (got.getD m 0) = false ∧ c ≤ got.getD m 0 := by
  have hmem : got.getD m 0 ∈ got := by
    rw [List.getD_eq_getElem?_getD, List.getElem?_eq_getElem hm]
    exact List.getElem_mem _
  obtain ⟨h1, h2⟩ := h.new _ hmem
  have hinc : ∀ i, i < m → got.getD i 0 < got.getD m 0 := fun i hi => by
    have := List.pairwise_iff_getElem.1 h.inc i m (by omega) hm hi
    rw [List.getD_eq_getElem?_getD, List.getD_eq_getElem?_getD, List.getElem?_eq_getElem (by omega), List.getElem?_eq_getElem hm]
    exact this
  refine ⟨?_, ?_, h2⟩
  · rcases hl with rfl | ⟨h3, rfl⟩
    · omega
    · exact hinc _ (by omega)
  · unfold markTo
    rw [h1, Bool.false_or, decide_eq_false_iff_not]
    intro hx
    obtain ⟨i, hi, e2⟩ := List.mem_iff_getElem.1 hx
    rw [List.length_take] at hi
    rw [List.getElem_take] at e2
    have := hinc i (by omega)
    rw [List.getD_eq_getElem?_getD, List.getElem?_eq_getElem (by omega : i < got.length)] at this
    simp only [Option.getD_some] at this
    omega
theorem got_cancel {ab : List Int} {off : List Bool} (H : TreeOk ab off) (c : Nat) : GotOf off c ((newOff ab off c).map (fun (j : Nat) => (j : Int))) ∧ markTo off ((newOff ab off c).map (fun (j : Nat) => (j : Int))) (newOff ab off c).length = toffM (offWith ab off c) := by
  refine ⟨⟨List.pairwise_map.2 ((newOff_inc _ _ _).imp (fun {a b} e => by omega)), fun x hx => ?_⟩, ?_⟩
  · obtain ⟨j, hj, rfl⟩ := List.mem_map.1 hx
    obtain ⟨h1, h2, h3⟩ := (newOff_mem H.wf).1 hj
    exact ⟨by simpa [toffM] using h3, by have := h2.le H.wf; omega⟩
  · funext x
    have ht : ((newOff ab off c).map (fun (j : Nat) => (j : Int))).take (newOff ab off c).length = (newOff ab off c).map (fun (j : Nat) => (j : Int)) := List.take_of_length_le (by simp)
    unfold markTo
    rw [ht]
    unfold toffM
    by_cases h0 : 0 ≤ x
    · obtain ⟨k, rfl⟩ := Int.eq_ofNat_of_zero_le h0
      simp only [h0, decide_true, Bool.true_and, Int.toNat_natCast]
      have hmem : ((k : Int) ∈ (newOff ab off c).map (fun (j : Nat) => (j : Int))) ↔ k ∈ newOff ab off c := by
        rw [List.mem_map]
        constructor
        · rintro ⟨j, hj, e⟩
          obtain rfl : j = k := by omega
          exact hj
        · exact fun h => ⟨k, h, rfl⟩
      rw [Bool.eq_iff_iff, Bool.or_eq_true, decide_eq_true_eq, hmem, newOff_mem H.wf]
      by_cases hk : k < ab.length
      · rw [offWith_get hk, Bool.or_eq_true, comes_iff H.wf]
        constructor
        · rintro (h | ⟨_, h, _⟩)
          · exact .inl h
          · exact .inr h
        · rintro (h | h)
          · exact .inl h
          · cases e : off.getD k false with
            | true => exact .inl rfl
            | false => exact .inr ⟨hk, h, rfl⟩
      · have e1 : off.getD k false = false := by
          rw [List.getD_eq_getElem?_getD, List.getElem?_eq_none (by rw [H.len]; omega)]
          rfl
        have e2 : (offWith ab off c).getD k false = false := by
          rw [List.getD_eq_getElem?_getD, List.getElem?_eq_none (by simp [offWith]; omega)]
          rfl
        rw [e1, e2]
        simp [hk]
    · rw [decide_eq_false h0]
      simp only [Bool.false_and, Bool.false_or, decide_eq_false_iff_not, List.mem_map, not_exists, not_and]
      intro j _ e
      omega

/-- The tree, and the map of marks. -/
structure StayI (w0 w : World) (b : Nat) (ab : List Int) (off : List Bool) (F : Nat → Prop) (r : Nat) (D : List (Int × Value)) (P : Int → Bool) : Prop where
  tr : CanI w0 w b ab off F
  mp : MapAt w r (ents numKeys D)
  mks : MarksIn D P
  ne : ¬ F r
  base : w0.heap.size ≤ r
section
variable {w0 w w' : World} {b : Nat} {ab : List Int} {off : List Bool} {F : Nat → Prop} {r : Nat} {D D' : List (Int × Value)} {P Q : Int → Bool}
theorem StayI.none (h : StayI w0 w b ab off F r D P) (ht : Tch NoBlk w w') : StayI w0 w' b ab off F r D P := ⟨h.tr.nothing ht, h.mp.keep ht (fun h => h), h.mks, h.ne, h.base⟩
theorem StayI.upd (h : StayI w0 w b ab off F r D P) (k : Int) (hQ : ∀ x, Q x = (P x || decide (x = k))) (hm : MapAt w' r (ents numKeys (upd D k (.bool true)))) (ht : Tch (· = r) w w') : StayI w0 w' b ab off F r (Proofs.Ytbdfcoclmmhblaa.upd D k (.bool true)) Q :=
  ⟨h.tr.keep ht (fun _ hi e => h.ne (e ▸ hi)) (fun _ e => e ▸ h.base), hm, h.mks.upd k hQ, h.ne, h.base⟩
end
theorem stay_cancel {ab : List Int} {off : List Bool} (H : TreeOk ab off) (id : Int) (h0 : 0 ≤ id) :
    ∃ (off' : List Bool) (got : List Int) (en : Nat), tcancelM ab off id = (off', got, en) ∧ GotOf off id got ∧ markTo off got got.length = toffM off' ∧ ((en : Int) == 0) = decide (id < ab.length) ∧ got.length ≤ 1024 := by
  unfold tcancelM
  by_cases hid : 0 ≤ id ∧ id < ab.length
  · rw [if_pos hid]
    obtain ⟨c, rfl⟩ := Int.eq_ofNat_of_zero_le h0
    rw [Int.toNat_natCast]
    obtain ⟨h1, h2⟩ := got_cancel H c
    refine ⟨_, _, _, rfl, h1, by rw [List.length_map]; exact h2, by rw [decide_eq_true hid.2]; rfl, ?_⟩
    rw [List.length_map]
    have := H.le
    exact Nat.le_trans (List.length_filter_le _ _) (by simp; omega)
  · rw [if_neg hid]
    exact ⟨off, [], 2, rfl, ⟨List.Pairwise.nil, fun x hx => by simp at hx⟩, markTo_zero off [], by rw [decide_eq_false (by omega)]; rfl, by simp⟩
theorem stay_make {ab : List Int} {off : List Bool} (H : TreeOk ab off) (v : Int) (hv : -1 ≤ v) (hl : ab.length < 1024) :
    (v < ab.length ∧ tmakeM ab off v = ((ab ++ [v], off ++ [toffM off v]), (ab.length : Int), 0)) ∨ ((ab.length : Int) ≤ v ∧ tmakeM ab off v = ((ab, off), 0, 2)) := by
  have := H.len
  unfold tmakeM
  by_cases h : v < ab.length
  · left
    rw [if_neg (by omega), if_neg (by omega)]
    exact ⟨h, rfl⟩
  · right
    rw [if_pos (by omega)]
    exact ⟨by omega, rfl⟩
section
variable {w0 w w' : World} {b : Nat} {ab ab' : List Int} {off off' : List Bool} {F F' : Nat → Prop} {r : Nat} {D : List (Int × Value)} {P Q : Int → Bool}
theorem StayI.made (h : StayI w0 w b ab off F r D P) (hT : Tch F w w') (hI : CanI w0 w' b ab' off' F') (hF : ∀ k, F' k → F k ∨ w.heap.size ≤ k) : StayI w0 w' b ab' off' F' r D P :=
  ⟨hI, h.mp.keep hT h.ne, h.mks, fun e => (hF r e).elim h.ne (fun e => by have := h.mp.lt; omega), h.base⟩
theorem StayI.same (h : StayI w0 w b ab off F r D P) (hQ : P = Q) : StayI w0 w b ab off F r D Q := by rw [← hQ]; exact h
theorem StayI.look (h : StayI w0 w b ab off F r D P) (x : Int) (q : Nat) : (Instr.lookup 43 (.map (some r)) (.int .i64 x) false).run Try.prog (w.drewN q) = .ok (.bool (P x)) (w.drewN q) := by
  have h2 := lookup_run1 numKeys 43 4 (.bool false) Try.underlying43 zeroBool (h.mp.keep ((Tch.refl NoBlk w).drewN q) (fun h => h)) x
  rw [h.mks.get x] at h2
  exact h2
end


set_option maxHeartbeats 4000000 in
set_option maxRecDepth 100000 in
theorem cancelStays_walk (a : Option Addr) (cap : Nat) (l : List Int) (w : World) (h : IntsIn .i64 w a cap l) :
    Calls Try.prog 6 #[.slice a l.length cap] w fun e w' => e = .returned (.bool true) ∧ Below w.heap.size w w' := by
  have HE := Lib.hid h.cells
  have HW : Hid (∀ k, k < l.length → -9223372036854775808 ≤ l.getD k 0) := Lib.hid (fun k hk => by
    have e : l.getD k 0 ∈ l := by
      rw [List.getD_eq_getElem?_getD, List.getElem?_eq_getElem hk]
      exact List.getElem_mem _
    have := (h.wf _ e).1
    simpa [IntKind.min, IntKind.signed, IntKind.bits] using this)
  have hle := h.le
  have hc := h.cap
  clear h
  obtain ⟨n, hn⟩ : ∃ n, n = min l.length 150 := ⟨_, rfl⟩
  have hnl : n ≤ l.length := by omega
  have hn150 : n ≤ 150 := by omega
  have hmm := @run_makeMap Try.prog
  go_enter Try.func6, Try.ntmps6
  go_wp2_with fail
  refine (can_shown w).mono ?_
  rintro e w1 ⟨rfl, hT1⟩
  have B1 := below_no (Below.refl _ w) hT1
  clear hT1
  go_wp2_with fail
  refine (cni_new B1).mono ?_
  rintro e w2 ⟨b, F, rfl, h2, _, _⟩
  clear B1
  have hS3 : StayI w (w2.alloc (.map #[] 0)) b [] [] F w2.heap.size [] (toffM []) := ⟨h2.nothing ((Tch.refl NoBlk w2).alloc _), MapAt.new w2, fun x => by simp [lk_nil, toffM], fun e => by have := h2.q.lt _ e; omega, h2.below.size⟩
  clear h2
  go_upto_region 6 with fail
  generalize w2.alloc (.map #[] 0) = w3 at *
  generalize w2.heap.size = r at *
  go_cut [26, 27, 28] from 22 to 22 (fun x y z wx => x = .slice a n cap ∧ y = .int .i64 n ∧ z = .int .i64 0 ∧ w3 = wx)
  case first =>
    clear hS3
    go_wp2_with fail
    go_meet
    exact ⟨by congr 1; omega, by apply num; omega, rfl, rfl⟩
  case rest =>
  obtain ⟨rfl, rfl, rfl, rfl⟩ := hcut
  clear hn hmm
  go_wp2_with fail
  go_loopw [28] (fun i wr => ∃ (k : Nat) (ab : List Int) (off : List Bool) (F : Nat → Prop) (D : List (Int × Value)), i = .int .i64 k ∧ k ≤ n ∧ ab.length ≤ k ∧ StayI w wr b ab off F r D (toffM off)) (fun i _ => n - (intOf i).toNat)
  case atStart => exact ⟨0, [], [], F, [], rfl, Nat.zero_le _, Nat.zero_le _, hS3⟩
  case round =>
    clear hS3
    obtain ⟨k, ab, off, F, D, rfl, hk, hab, hS⟩ := hrel
    by_cases hlt : k < n
    · obtain ⟨ba, bo, rfl, hcell⟩ := HE.out (by omega)
      have hkn : k < l.length := by omega
      have hc0 := hcell k hkn
      have hx0 : wr.cell? ⟨ba, bo + k, none⟩ = _ := (hS.tr.below.cell (p := ⟨ba, bo + k, none⟩) (World.block_lt_of_cell? w _ hc0)).trans hc0
      have HK : Hid (k + 1 ≤ n) := Lib.hid (by omega)
      have hv0 := HW.out k hkn
      clear hcell hc0
      generalize l.getD k 0 = v at *
      by_cases hv : -1 ≤ v
      · have hd : decide (-1 ≤ v) = true := by simpa using hv
        rcases stay_make hS.tr.q.ok v hv (by omega) with ⟨hvl, hm⟩ | ⟨hvl, hm⟩
        · have HM := Lib.hid hm
          have hd2 : decide (v < (ab.length : Int)) = true := by simpa using hvl
          have g1 : ((ab.length : Int) != (ab.length : Int)) = false := by simp
          have HQ := Lib.hid (toffM_make hS.tr.q.ok v)
          clear hm
          go_wp2_with fail
          refine (cni_len hS.tr).mono ?_
          rintro e w0 ⟨rfl, h0⟩; subst w0
          go_wp2_with fail
          refine (cni_make hS.tr v _ _ _ _ HM.out).mono ?_
          rintro e w5 ⟨rfl, hT5, F5, h5, hF5⟩
          have hS5 := hS.made hT5 h5 hF5
          have hm5 := hS5.mp
          have HS5 := Lib.hid hS5
          have HG := Lib.hid (hS5.mks.get v)
          clear hS hT5 h5 hF5 hS5 hx0
          cases ho : toffM off v with
          | true =>
            rw [ho] at HG HQ HS5
            have HQ2 : Hid (∀ x, toffM (off ++ [true]) x = (toffM off x || decide (x = (ab.length : Int)))) := Lib.hid (fun x => by rw [HQ.out x, Bool.and_true])
            clear HQ
            go_upto_region 27 with (first
              | (at_lookup; refine wpList_lk1 numKeys rfl _ _ 43 4 rfl Try.underlying43 (.bool false) zeroBool r D v rfl rfl hm5 (.bool true) HG.out ?_)
              | (at_mapUpdate; refine wpList_upd numKeys rfl _ _ _ 43 4 rfl Try.underlying43 r D (ab.length : Int) (.bool true) rfl rfl rfl hm5 ?_; intro w6 hm6 ht6; have H6 := Lib.hid (HS5.out.upd (ab.length : Int) HQ2.out hm6 ht6); clear ht6 hm6))
            have hX6 := H6.out
            clear H6 HS5 hm5 HG HQ2
            have hABl : (ab ++ [v]).length ≤ k + 1 := by simp; omega
            clear HM
            generalize off ++ [true] = OFF at *
            generalize upd D (ab.length : Int) (.bool true) = DD at *
            generalize ab ++ [v] = AB at *
            -- each token's mark; state AB, OFF, marks DD
            have habl := hX6.tr.q.ok.le
            have HB := Lib.hid (hABl : (AB : List Int).length ≤ k + 1)
            have HX := Lib.hid hX6
            clear hX6
            go_wp2_with fail
            refine (cni_len HX.out.tr).mono ?_
            rintro e w0 ⟨rfl, h0⟩; subst w0
            go_wp2_with fail
            go_loopw [107] (fun y wy => ∃ i : Nat, y = .int .i64 i ∧ i ≤ (AB : List Int).length ∧ StayI w wy b AB OFF F5 r DD (toffM OFF)) (fun y _ => (AB : List Int).length - (intOf y).toNat)
            case atStart => exact ⟨0, rfl, Nat.zero_le _, HX.out⟩
            case round =>
              clear HX
              obtain ⟨i, rfl, hi, hX⟩ := hrel
              by_cases hil : i < (AB : List Int).length
              · have hlk := hX.look (i : Int)
                have HX := Lib.hid hX
                obtain ⟨x, hx⟩ : ∃ x, toffM OFF (i : Int) = x := ⟨_, rfl⟩
                rw [hx] at hlk
                have EX := Lib.hid hx
                have g1 : (x != x) = false := by simp
                clear hx hX
                go_wp2_with fail
                go_quiet ((go_at_call 15; exact Calls.quiet_of_same (cni_off (HX.out.none ((Tch.refl NoBlk _).drewN _)).tr (i : Int) _ EX.out)))
                go_wp2
                go_roundw
                case rel => exact ⟨i + 1, num (by omega), by omega, HX.out.none ((Tch.refl NoBlk _).drewN _)⟩
                case measure => simp [intOf]; omega
              · have HX := Lib.hid hX
                clear hX
                go_wp2
                go_roundw
                case rel => exact ⟨k + 1, AB, OFF, _, _, num (by omega), HK.out, HB.out, HX.out⟩
                case measure => simp [intOf]; omega
          | false =>
            rw [ho] at HG HQ HS5
            have HQ2 : Hid (toffM off = toffM (off ++ [false])) := Lib.hid (funext fun x => by rw [HQ.out x, Bool.and_false, Bool.or_false])
            clear HQ
            go_upto_region 27 with (first
              | (at_lookup; refine wpList_lk1 numKeys rfl _ _ 43 4 rfl Try.underlying43 (.bool false) zeroBool r D v rfl rfl hm5 (.bool false) HG.out ?_))
            have hX6 := HS5.out.same HQ2.out
            clear HS5 hm5 HG HQ2
            have hABl : (ab ++ [v]).length ≤ k + 1 := by simp; omega
            clear HM
            generalize off ++ [false] = OFF at *
            generalize ab ++ [v] = AB at *
            -- each token's mark; state AB, OFF, marks D
            have habl := hX6.tr.q.ok.le
            have HB := Lib.hid (hABl : (AB : List Int).length ≤ k + 1)
            have HX := Lib.hid hX6
            clear hX6
            go_wp2_with fail
            refine (cni_len HX.out.tr).mono ?_
            rintro e w0 ⟨rfl, h0⟩; subst w0
            go_wp2_with fail
            go_loopw [107] (fun y wy => ∃ i : Nat, y = .int .i64 i ∧ i ≤ (AB : List Int).length ∧ StayI w wy b AB OFF F5 r D (toffM OFF)) (fun y _ => (AB : List Int).length - (intOf y).toNat)
            case atStart => exact ⟨0, rfl, Nat.zero_le _, HX.out⟩
            case round =>
              clear HX
              obtain ⟨i, rfl, hi, hX⟩ := hrel
              by_cases hil : i < (AB : List Int).length
              · have hlk := hX.look (i : Int)
                have HX := Lib.hid hX
                obtain ⟨x, hx⟩ : ∃ x, toffM OFF (i : Int) = x := ⟨_, rfl⟩
                rw [hx] at hlk
                have EX := Lib.hid hx
                have g1 : (x != x) = false := by simp
                clear hx hX
                go_wp2_with fail
                go_quiet ((go_at_call 15; exact Calls.quiet_of_same (cni_off (HX.out.none ((Tch.refl NoBlk _).drewN _)).tr (i : Int) _ EX.out)))
                go_wp2
                go_roundw
                case rel => exact ⟨i + 1, num (by omega), by omega, HX.out.none ((Tch.refl NoBlk _).drewN _)⟩
                case measure => simp [intOf]; omega
              · have HX := Lib.hid hX
                clear hX
                go_wp2
                go_roundw
                case rel => exact ⟨k + 1, AB, OFF, _, _, num (by omega), HK.out, HB.out, HX.out⟩
                case measure => simp [intOf]; omega
        · have HM := Lib.hid hm
          have hd2 : decide (v < (ab.length : Int)) = false := by simpa using hvl
          clear hm
          go_wp2_with fail
          refine (cni_len hS.tr).mono ?_
          rintro e w0 ⟨rfl, h0⟩; subst w0
          go_wp2_with fail
          refine (cni_make hS.tr v _ _ _ _ HM.out).mono ?_
          rintro e w5 ⟨rfl, hT5, F5, h5, hF5⟩
          have hX6 := hS.made hT5 h5 hF5
          clear hS hT5 h5 hF5 hx0
          go_upto_region 27 with fail
          -- each token's mark; state ab, off, marks D
          have habl := hX6.tr.q.ok.le
          have HB := Lib.hid ((by omega) : (ab : List Int).length ≤ k + 1)
          have HX := Lib.hid hX6
          clear hX6
          go_wp2_with fail
          refine (cni_len HX.out.tr).mono ?_
          rintro e w0 ⟨rfl, h0⟩; subst w0
          go_wp2_with fail
          go_loopw [107] (fun y wy => ∃ i : Nat, y = .int .i64 i ∧ i ≤ (ab : List Int).length ∧ StayI w wy b ab off F5 r D (toffM off)) (fun y _ => (ab : List Int).length - (intOf y).toNat)
          case atStart => exact ⟨0, rfl, Nat.zero_le _, HX.out⟩
          case round =>
            clear HX
            obtain ⟨i, rfl, hi, hX⟩ := hrel
            by_cases hil : i < (ab : List Int).length
            · have hlk := hX.look (i : Int)
              have HX := Lib.hid hX
              obtain ⟨x, hx⟩ : ∃ x, toffM off (i : Int) = x := ⟨_, rfl⟩
              rw [hx] at hlk
              have EX := Lib.hid hx
              have g1 : (x != x) = false := by simp
              clear hx hX
              go_wp2_with fail
              go_quiet ((go_at_call 15; exact Calls.quiet_of_same (cni_off (HX.out.none ((Tch.refl NoBlk _).drewN _)).tr (i : Int) _ EX.out)))
              go_wp2
              go_roundw
              case rel => exact ⟨i + 1, num (by omega), by omega, HX.out.none ((Tch.refl NoBlk _).drewN _)⟩
              case measure => simp [intOf]; omega
            · have HX := Lib.hid hX
              clear hX
              go_wp2
              go_roundw
              case rel => exact ⟨k + 1, ab, off, _, _, num (by omega), HK.out, HB.out, HX.out⟩
              case measure => simp [intOf]; omega
      · have hd : decide (-1 ≤ v) = false := by simpa using hv
        have hv1 : v ≤ -2 := by omega
        obtain ⟨off', got, en, hm, hG, hmark, hen, hgl⟩ := stay_cancel hS.tr.q.ok (-2 - v) (by omega)
        have HM := Lib.hid hm
        have HG := Lib.hid hG
        have HMK := Lib.hid hmark
        have hd3 : (decide (-2 - v < (ab.length : Int)) != decide (-2 - v < (ab.length : Int))) = false := by simp
        clear hm hG hmark
        go_wp2_with fail
        refine (cni_cancel hS.tr (-2 - v) _ _ _ HM.out).mono ?_
        rintro e w5 ⟨A5, c5, G5, rfl, hs5, hg5, h5, hT5⟩
        have hS5 : StayI w w5 b ab off' F r D (toffM off) := ⟨h5, hS.mp.keep hT5 hS.ne, hS.mks, hS.ne, hS.base⟩
        have hgr : ∀ q, G5 = some q → q ≠ r := fun q hq e => by have := hg5 q hq; have := hS.mp.lt; omega
        have hcap5 := hs5.cap_le
        have HS5 := Lib.hid hS5
        have HN : Hid (StayI w w5 b ab off' F r D (markTo off got 0)) := Lib.hid (hS5.same (markTo_zero off got).symm)
        clear hS hT5 hg5 h5 hx0 hS5
        have hen2 : (en == 0) = decide (-2 - v < (ab.length : Int)) := by rw [← hen, Bool.eq_iff_iff, beq_iff_eq, beq_iff_eq]; omega
        go_wp2_with fail
        refine (cni_len HS5.out.tr).mono ?_
        rintro e w0 ⟨rfl, h0⟩; subst w0
        go_wp2_with fail
        go_loopw [13, 83] (fun x y wy => ∃ (m : Nat) (last : Int) (D' : List (Int × Value)), x = .int .i64 last ∧ y = .int .i64 m ∧ m ≤ got.length ∧ (last = -1 ∨ 0 < m ∧ last = got.getD (m - 1) 0) ∧ StayI w wy b ab off' F r D' (markTo off got m) ∧ Sl wy 3 1 A5 got.length c5 (ints got) G5) (fun _ y _ => got.length - (intOf y).toNat)
        case atStart => exact ⟨0, -1, D, rfl, rfl, Nat.zero_le _, .inl rfl, HN.out, hs5⟩
        case round =>
          clear hs5 HN HS5
          obtain ⟨m, last, D', rfl, rfl, hm, hlast, hX, hs⟩ := hrel
          by_cases hml : m < got.length
          · obtain ⟨g1, g2, g3⟩ := HG.out.at_ m hml last hlast (by omega)
            obtain ⟨g5, rfl, rfl, hcl⟩ := hs.cells (by omega)
            have hval := hcl _ _ (ints_get got m hml)
            have HQ := Lib.hid (markTo_snoc off got m hml)
            have HL : Hid (got.getD m 0 = got.getD (m + 1 - 1) 0) := Lib.hid rfl
            have hlk : Hid _ := Lib.hid (hX.mks.get (got.getD m 0))
            have hmp := hX.mp
            have HX := Lib.hid hX
            have HSL := Lib.hid hs
            have e1 : decide (got.getD m 0 ≤ last) = false := decide_eq_false (by omega)
            have e2 : decide (got.getD m 0 < -2 - v) = false := decide_eq_false (by omega)
            rw [g2] at hlk
            clear hcl hs hX hlast g1 g2 g3 hm
            generalize got.getD m 0 = y at *
            go_wp2_with (first
              | (at_lookup; refine wpList_lk1 numKeys rfl _ _ 43 4 rfl Try.underlying43 (.bool false) zeroBool r D' y rfl rfl hmp (.bool false) hlk.out ?_)
              | (at_mapUpdate; refine wpList_upd numKeys rfl _ _ _ 43 4 rfl Try.underlying43 r D' y (.bool true) rfl rfl rfl hmp ?_; intro w6 hm6 ht6; have H6 := Lib.hid (HX.out.upd y HQ.out hm6 ht6); have HT6 := Lib.hid ht6; clear ht6 hm6))
            have HS6 := Lib.hid (HSL.out.keep HT6.out (fun q hq e => hgr q hq e))
            clear HX HSL HT6 hmp hlk hval
            go_roundw
            case rel => exact ⟨m + 1, y, _, rfl, num (by omega), by omega, .inr ⟨by omega, HL.out⟩, H6.out, HS6.out⟩
            case measure => simp [intOf]; omega
          · obtain rfl : m = got.length := by omega
            rw [HMK.out] at hX
            clear hml hm hlast hs
            go_upto_region 27 with fail
            -- each token's mark; state ab, off', marks D'
            have habl := hX.tr.q.ok.le
            have HB := Lib.hid ((by omega) : (ab : List Int).length ≤ k + 1)
            have HX := Lib.hid hX
            clear hX
            go_wp2_with fail
            refine (cni_len HX.out.tr).mono ?_
            rintro e w0 ⟨rfl, h0⟩; subst w0
            go_wp2_with fail
            go_loopw [107] (fun y wy => ∃ i : Nat, y = .int .i64 i ∧ i ≤ (ab : List Int).length ∧ StayI w wy b ab off' F r D' (toffM off')) (fun y _ => (ab : List Int).length - (intOf y).toNat)
            case atStart => exact ⟨0, rfl, Nat.zero_le _, HX.out⟩
            case round =>
              clear HX
              obtain ⟨i, rfl, hi, hX⟩ := hrel
              by_cases hil : i < (ab : List Int).length
              · have hlk := hX.look (i : Int)
                have HX := Lib.hid hX
                obtain ⟨x, hx⟩ : ∃ x, toffM off' (i : Int) = x := ⟨_, rfl⟩
                rw [hx] at hlk
                have EX := Lib.hid hx
                have g1 : (x != x) = false := by simp
                clear hx hX
                go_wp2_with fail
                go_quiet ((go_at_call 15; exact Calls.quiet_of_same (cni_off (HX.out.none ((Tch.refl NoBlk _).drewN _)).tr (i : Int) _ EX.out)))
                go_wp2
                go_roundw
                case rel => exact ⟨i + 1, num (by omega), by omega, HX.out.none ((Tch.refl NoBlk _).drewN _)⟩
                case measure => simp [intOf]; omega
              · have HX := Lib.hid hX
                clear hX
                go_wp2
                go_roundw
                case rel => exact ⟨k + 1, ab, off', _, _, num (by omega), HK.out, HB.out, HX.out⟩
                case measure => simp [intOf]; omega
    · have hge : n ≤ k := by omega
      have HB := Lib.hid hS.tr.below
      clear hlt hS
      go_wp2
      go_ret
      exact ⟨rfl, HB.out⟩
end Go.Proofs.Ytbdfcoclmmhblaa
