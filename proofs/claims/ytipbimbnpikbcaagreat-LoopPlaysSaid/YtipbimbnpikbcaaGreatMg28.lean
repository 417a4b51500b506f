import Derived.Test.YtipbimbnpikbcaaGreatMg19
import Derived.Test.YtipbimbnpikbcaaGreatMg27
import Derived.Deep.QuietTactic
import Derived.BigQuiet
/- Advance: what is due becomes macro tasks. -/
namespace Go.Proofs.YtipbimbnpikbcaaGreat
open Go.RowKit

/-- While it goes on: what was asked last said x, ok. -/
structure AdvR (s S : Lp) (now x : Int) (ok : Bool) : Prop where
  yes : ok = true → (0 ≤ x ∧ x < (S.wai.length : Int)) ∧ advL s.L.length s now = advL S.L.length (macL S (getL S x)) now
  no : ok = false → advL s.L.length s now = S
  le : S.mac.length + S.L.length + (if ok then 1 else 0) ≤ s.mac.length + s.L.length
theorem AdvR.start {s : Lp} {now x : Int} {ok : Bool} {L' : List Tm} (h : LOk s) (e : dueM s.L now = (L', x, ok)) : AdvR s { s with L := L' } now x ok := by
  have st := advL_step s now
  cases ok with
  | true =>
    obtain ⟨_, hx⟩ := h.due e
    have hl := dueM_yes (L := s.L) (now := now) (by rw [e])
    rw [e] at st hl
    dsimp only at hl
    refine ⟨fun _ => ⟨hx, ?_⟩, fun h => by simp at h, ?_⟩
    · rw [st, if_pos rfl]
      rfl
    · simp
      omega
  | false =>
    have hl := dueM_no (L := s.L) (now := now) (by rw [e])
    rw [e] at st hl
    dsimp only at hl
    subst hl
    refine ⟨fun h => by simp at h, fun _ => ?_, ?_⟩
    · rw [st, if_neg (by simp)]
    · simp
theorem AdvR.next {s S : Lp} {now x x2 : Int} {ok2 : Bool} {L' : List Tm} (h : AdvR s S now x true) (hok : LOk (macL S (getL S x))) (e : dueM S.L now = (L', x2, ok2)) : AdvR s { macL S (getL S x) with L := L' } now x2 ok2 := by
  have k := AdvR.start (s := macL S (getL S x)) hok e
  have e1 := (h.yes rfl).2
  have hle := h.le
  refine ⟨fun ho => ?_, fun ho => ?_, ?_⟩
  · rw [e1]
    exact k.yes ho
  · rw [e1]
    exact k.no ho
  · have := k.le
    simp [macL] at this hle ⊢
    omega
def okN : Value → Nat
  | .bool true => 1
  | _ => 0
/-- How many timers wait, as memory has it. -/
def timLen (w : World) (b : Nat) : Nat := match w.cell? ⟨b, 6, none⟩ with
  | some (.pointer (some a)) => (match w.cell? a with
    | some (.slice _ n _) => n
    | _ => 0)
  | _ => 0
theorem LoopQ.timLen {w : World} {b : Nat} {s : Lp} {F : Nat → Prop} (h : LoopQ w b s F) : timLen w b = s.L.length := by
  obtain ⟨o, P, H, hF⟩ := h
  have c6 := (H.part 0).1.cellOf 6 _ rfl
  obtain ⟨hh, ⟨A, c, G, hT, _⟩, _, hp⟩ := H.part 4
  have c0 := hT.blk.cellOf 0 _ rfl
  unfold Go.Proofs.YtipbimbnpikbcaaGreat.timLen
  rw [c6]
  dsimp only
  rw [c0]
  exact hp.length_eq
set_option maxHeartbeats 4000000 in
set_option maxRecDepth 100000 in
theorem loop_advance {w : World} {b : Nat} {s : Lp} {F : Nat → Prop} (h : LoopQ w b s F) (now : Int) (hn : s.mac.length + s.L.length < 1000000) :
    Calls Tryz.prog 34 #[.pointer (some ⟨b, 0, none⟩), .int .i64 now] w fun e w' => e = .returned (.tuple #[]) ∧ LoopLeft w w' b F (advL s.L.length s now) := by
  obtain ⟨t, c6, hd⟩ := loop_tdue h now
  obtain ⟨⟨L1, x1, ok1⟩, he⟩ : ∃ p, dueM s.L now = p := ⟨_, rfl⟩
  rw [he] at hd
  dsimp only at hd
  have HA := Lib.hid (AdvR.start h.ok he)
  have HD := Lib.hid hd
  have HN := Lib.hid hn
  clear hd h hn he
  go_enter Tryz.func34, Tryz.ntmps34
  go_wp2_with fail
  refine HD.out.mono ?_
  rintro e w2 ⟨rfl, h2⟩
  have H2 := Lib.hid h2
  clear h2 c6 HD
  go_wp2_with fail
  go_loopw [4, 5] (fun y z wr => ∃ (S : Lp) (x : Int) (ok : Bool), y = .int .i64 x ∧ z = .bool ok ∧ AdvR s S now x ok ∧ LoopLeft w wr b F S) (fun _ z wr => timLen wr b + okN z)
  case atStart => exact ⟨_, _, _, rfl, rfl, HA.out, H2.out⟩
  case round =>
    clear HA H2
    obtain ⟨S, x, ok, rfl, rfl, hA, hL⟩ := hrel
    cases ok with
    | false =>
      have e1 := hA.no rfl
      have HL := Lib.hid hL
      have HE := Lib.hid e1
      clear e1 hA hL
      go_wp2
      go_end0
      rw [HE.out]
      exact ⟨rfl, HL.out⟩
    | true =>
      obtain ⟨⟨hx0, hx1⟩, e1⟩ := hA.yes rfl
      obtain ⟨q, rfl⟩ := Int.eq_ofNat_of_zero_le hx0
      have hq : q < S.wai.length := by omega
      have hqI : (q : Int) < (S.wai.length : Int) := hx1
      have hq0 : (0 : Int) ≤ (q : Int) := hx0
      have hle := hA.le
      obtain ⟨l1, F3, q3, l3⟩ := hL
      obtain ⟨gw, ow, cw, k5, hw1, hw2, m0, m1, m2, m3⟩ := q3.wait (k := q) hq
      have htok := q3.ok.get (k := (q : Int)) ⟨hx0, hx1⟩
      have hmac : S.mac.length < 1000000 := by have := HN.out; omega
      have hlen := q3.timLen
      obtain ⟨tk, hg⟩ : ∃ tk, getL S (q : Int) = tk := ⟨_, rfl⟩
      rw [hg] at m0 m1 m2 m3 htok
      obtain ⟨kd, f, a, tok⟩ := tk
      dsimp only at m0 m1 m2 m3 htok
      have HPUT := Lib.hid (loop_put_mac (q3.keep (Tch.refl NoBlk wr).drew (fun _ _ h => h)) ⟨kd, f, a, tok⟩ htok hmac)
      have HAA := Lib.hid hA
      have L1' := Lib.hid l1
      have L3' := Lib.hid l3
      have HG := Lib.hid hg
      have HLEN := Lib.hid hlen
      clear hA hx0 hx1 e1 hle l1 q3 l3 htok hmac hlen hg hq
      unfold tkv at HPUT
      go_wp2_with fail
      go_region_law (go_simp; go_at_call 55; refine HPUT.out.mono ?_; rintro e w6 ⟨rfl, h6⟩; have H6 := Lib.hid h6; clear h6)
      all_goals
        obtain ⟨l6, F6, q6, n6⟩ := H6.out
        obtain ⟨t', c6', hd'⟩ := loop_tdue q6 now
        obtain ⟨⟨L2, x2, ok2⟩, he⟩ : ∃ p, dueM S.L now = p := ⟨_, rfl⟩
        rw [show dueM (macL S ⟨kd, f, a, tok⟩).L now = (L2, x2, ok2) from he] at hd'
        dsimp only at hd'
        have HD := Lib.hid hd'
        have hok6 := q6.ok
        have HAN : Hid (AdvR s { macL S ⟨kd, f, a, tok⟩ with L := L2 } now x2 ok2) := Lib.hid (by
          have := HAA.out.next (by rw [HG.out]; exact hok6) he
          rw [HG.out] at this
          exact this)
        have T6 := Lib.hid l6
        have N6 := Lib.hid n6
        have HYES := Lib.hid (fun e => dueM_yes (L := S.L) (now := now) (by rw [he]; exact e))
        rw [he] at HYES
        have HNO := Lib.hid (fun e => dueM_no (L := S.L) (now := now) (by rw [he]; exact e))
        rw [he] at HNO
        clear hd' he hok6 l6 n6 q6 H6 m0 m1 m2 m3 k5
        go_wp2_with fail
        refine HD.out.mono ?_
        rintro e w7 ⟨rfl, h7⟩
        have hfin : LoopLeft w w7 b F { macL S ⟨kd, f, a, tok⟩ with L := L2 } := LoopLeft.comp L1'.out L3'.out ((LoopLeft.comp T6.out N6.out h7).ahead (Tch.refl NoBlk wr).drew)
        have hl7 : timLen w7 b = L2.length := by
          obtain ⟨_, _, q7, _⟩ := h7
          exact q7.timLen
        have HF := Lib.hid hfin
        have HL7 := Lib.hid hl7
        clear hfin hl7 h7 HD c6'
        go_wp2
        go_roundw
        case rel => exact ⟨_, _, _, rfl, rfl, HAN.out, HF.out⟩
        case measure =>
          rw [HL7.out, HLEN.out]
          cases ok2 with
          | true =>
            have := HYES.out rfl
            try dsimp only at this
            simp [okN]
            omega
          | false =>
            have := HNO.out rfl
            try dsimp only at this
            subst this
            simp [okN]
end Go.Proofs.YtipbimbnpikbcaaGreat

/- The document's loop: Advance, drop. -/
namespace Go.Proofs.YtipbimbnpikbcaaGreat
open Go.RowKit

section
variable {w : World} {b : Nat} {s : Lp} {F : Nat → Prop}
theorem rl_tdue (h : RLoopQ w b s F) (now : Int) :
    Calls Tryz.prog 78 #[.pointer (some ⟨b, 6, none⟩), .int .i64 now] w fun e w' => e = .returned (.tuple #[.int .i64 (dueM s.L now).2.1, .bool (dueM s.L now).2.2]) ∧ RLeft w w' b F { s with L := (dueM s.L now).1 } := by
  obtain ⟨o, P, H, hF⟩ := h
  refine (reftim_due b 6 58 (rcells s o) s.L s.n _ now w H.tim H.ok.row).mono ?_
  rintro e w' ⟨rfl, hL⟩
  exact ⟨rfl, H.timLeft hF hL (H.ok.fewer now)⟩
/-- How many timers wait, as memory has it. -/
def rtimLen (w : World) (b : Nat) : Nat := match w.cell? ⟨b, 6, none⟩ with
  | some (.slice _ n _) => n
  | _ => 0
theorem RLoopQ.timLen (h : RLoopQ w b s F) : rtimLen w b = s.L.length := by
  obtain ⟨A, c, e⟩ := h.timCell
  unfold rtimLen
  rw [e]
set_option maxHeartbeats 4000000 in
set_option maxRecDepth 100000 in
theorem rl_advance (h : RLoopQ w b s F) (now : Int) (hn : s.mac.length + s.L.length < 1000000) :
    Calls Tryz.prog 46 #[.pointer (some ⟨b, 0, none⟩), .int .i64 now] w fun e w' => e = .returned (.tuple #[]) ∧ RLeft w w' b F (advL s.L.length s now) := by
  have HQ := Lib.hid h
  have HN := Lib.hid hn
  clear h hn
  go_enter Tryz.func46, Tryz.ntmps46
  go_wp2_with fail
  go_loopw [4] (fun _ wr => ∃ S : Lp, advL s.L.length s now = advL S.L.length S now ∧ S.mac.length + S.L.length ≤ s.mac.length + s.L.length ∧ RLeft w wr b F S) (fun _ wr => rtimLen wr b)
  case atStart => exact ⟨s, rfl, Nat.le_refl _, RLeft.same HQ.out⟩
  case round =>
  clear HQ
  obtain ⟨S, hE, hle, l1, F3, q3, l3⟩ := hrel
  have hdu := rl_tdue q3 now
  have hlen := q3.timLen
  have hok := q3.ok
  obtain ⟨⟨L1, x1, ok1⟩, he⟩ : ∃ p, dueM S.L now = p := ⟨_, rfl⟩
  rw [he] at hdu
  dsimp only at hdu
  have HA := Lib.hid (AdvR.start hok he)
  have HDU := Lib.hid hdu
  have HLEN := Lib.hid hlen
  have HE := Lib.hid hE
  have HLE := Lib.hid hle
  have HL1 := Lib.hid l1
  have HL3 := Lib.hid l3
  clear hdu hlen hok he hE hle l1 q3 l3
  go_wp2_with fail
  refine HDU.out.mono ?_
  rintro e w2 ⟨rfl, h2⟩
  have hD := RLeft.comp HL1.out HL3.out h2
  cases ok1 with
  | false =>
    have e1 := HA.out.no rfl
    have HD := Lib.hid hD
    have HEE : Hid (advL s.L.length s now = { S with L := L1 }) := Lib.hid (HE.out.trans e1)
    clear e1 hD h2 HDU HL1 HL3 HA HE HLE HLEN
    go_wp2
    refine bodyPost_ret (results_none rfl _ _ _) rfl ?_
    rw [HEE.out]
    exact ⟨rfl, HD.out⟩
  | true =>
    obtain ⟨⟨hx0, hx1⟩, e1⟩ := HA.out.yes rfl
    have hle2 := HA.out.le
    obtain ⟨q, rfl⟩ := Int.eq_ofNat_of_zero_le hx0
    have hq : q < S.wai.length := by have : (q : Int) < (S.wai.length : Int) := hx1; omega
    have hqI : (q : Int) < (S.wai.length : Int) := hx1
    have hmac : (S.mac.length + 1) * 32 ≤ 140737488355328 := by have := HN.out; have := HLE.out; omega
    obtain ⟨t4, F4, ⟨o, P, H, hF⟩, l4⟩ := hD
    have hb1 := (H.part 0).1
    have hr : Rw w2 35 4 o.A1 S.mac.length o.c1 (tks S.mac) o.G1 := (H.part 1).1
    have hrT : Rw w2 35 4 o.A3 S.wai.length o.c3 (tks S.wai) o.G3 := (H.part 3).1
    have hnb : o.G1 ≠ some b := fun e => H.nb (by decide) (((H.part 1).2 b).2 e)
    have hc : w2.cell? ⟨b, 3, none⟩ = some (.slice o.A1 S.mac.length o.c1) := hb1.cellOf 3 _ rfl
    have hc5 : w2.cell? ⟨b, 5, none⟩ = some (.slice o.A3 S.wai.length o.c3) := hb1.cellOf 5 _ rfl
    obtain ⟨gT, oT, eT, _, hcT⟩ := hrT.cells (by omega)
    rw [eT] at hc5
    have hcap := hrT.cap_le
    obtain ⟨m0, m1, m2, m3⟩ := tks_get S.wai q hq
    have k0 := hcT _ _ m0
    have k1 : w2.cell? ⟨gT, oT + q * 4 + 1, none⟩ = some (.int .i64 (S.wai.getD q tk0).fn) := hcT _ _ m1
    have k2 : w2.cell? ⟨gT, oT + q * 4 + 2, none⟩ = some (.int .i64 (S.wai.getD q tk0).arg) := hcT _ _ m2
    have k3 : w2.cell? ⟨gT, oT + q * 4 + 3, none⟩ = some (.int .i64 (S.wai.getD q tk0).tok) := hcT _ _ m3
    have eg : getL S (q : Int) = S.wai.getD q tk0 := by simp [getL]
    have htok : LOk (macL { S with L := L1 } (getL S (q : Int))) := H.ok.putMac (H.ok.get (s := { S with L := L1 }) (k := (q : Int)) ⟨by omega, hqI⟩)
    have hcA : ∀ ob, (w2.alloc ob).cell? ⟨b, 3, none⟩ = some (.slice o.A1 S.mac.length o.c1) := fun ob => ((Tch.refl NoBlk w2).alloc ob).cell' hc (fun h => h)
    obtain ⟨tk, htk⟩ : ∃ tk, getL S (q : Int) = tk := ⟨_, rfl⟩
    rw [← eg, htk] at k0 k1 k2 k3
    rw [show getL { S with L := L1 } (q : Int) = tk from htk] at e1
    rw [htk] at htok
    obtain ⟨kd, fn, arg, tok⟩ := tk
    dsimp only at k0 k1 k2 k3
    have HR := Lib.hid hr
    have HB := Lib.hid hb1
    have HNB := Lib.hid hnb
    have HH := Lib.hid H
    have HF := Lib.hid hF
    have HT4 := Lib.hid t4
    have HL4 := Lib.hid l4
    have HOK := Lib.hid htok
    have HMC := Lib.hid hmac
    have HE1 : Hid (advL s.L.length s now = advL L1.length (macL { S with L := L1 } ⟨kd, fn, arg, tok⟩) now) := Lib.hid (HE.out.trans e1)
    have HLE2 := Lib.hid hle2
    clear hr hb1 hnb H hF t4 l4 htok hmac e1 hle2 hx0 hx1 hq hcT m0 m1 m2 m3 eg htk hrT h2 HDU HL1 HL3 HA HE
    go_wp2_with fail
    go_region_law (refine step_rw_app _ rfl (.tmp 20) (.tmp 28) 45 rfl 35 (.agg #[.int .i64 0, .int .i64 0, .int .i64 0, .int .i64 0]) 4 32 Tryz.underlying45 infoTk rfl (by decide) (by decide) o.A1 S.mac.length o.c1 (tks S.mac) o.G1 (some ⟨w2.heap.size, 0, none⟩) 1 1 [.int .i64 kd, .int .i64 fn, .int .i64 arg, .int .i64 tok] (by simp [Act.eval]) (by simp [Act.eval]) (by decide) (by exact (HR.out.alloc _).drew1) (by exact (Src.made (sz := 4) w2 35 #[.int .i64 kd, .int .i64 fn, .int .i64 arg, .int .i64 tok] 1 rfl).keep (Tch.refl NoBlk _).drew (fun _ _ h => h)) (tkl_one ⟨kd, fn, arg, tok⟩) HMC.out ?_; intro A6 c6 w6 G6 hs6 ht6 hg6; have HS6 := Lib.hid hs6; have HT6 : Hid (Tch (fun k => o.G1 = some k) w2 w6) := Lib.hid (Tch.then ((Tch.refl _ w2).alloc _).drew ht6 (fun _ _ h => h)); have HG6 := Lib.hid hg6; have hb6 := HB.out.keep HT6.out HNB.out; have hc6 := hb6.cellOf 3 _ rfl; have hf6 := hb6.free 3; clear hs6 ht6 hg6 hb6)
    all_goals
      have hp := HH.out.put_mac HF.out ⟨kd, fn, arg, tok⟩ HOK.out HT6.out HS6.out (HG6.out.elim .inl (fun ⟨g, h1, h2⟩ => .inr ⟨g, h1, by simp at h2; omega⟩))
      have hfin := RLeft.comp HT4.out HL4.out hp
      have hl7 : rtimLen (w6.setCell ⟨b, 3, none⟩ (.slice A6 (S.mac.length + 1) c6)) b = L1.length := by
        obtain ⟨_, _, q7, _⟩ := hp
        exact q7.timLen
      have HFIN := Lib.hid hfin
      have HL7 := Lib.hid hl7
      clear hp hfin hl7 HS6 HT6 HG6 hc hc5 k0 k1 k2 k3 hcA
      go_wp2
      go_roundw
      case rel => exact ⟨macL { S with L := L1 } ⟨kd, fn, arg, tok⟩, HE1.out, by have h1 := HLE2.out; have h2 := HLE.out; simp [macL] at h1 ⊢; omega, HFIN.out⟩
      case measure =>
        rw [HL7.out, HLEN.out]
        have h1 := HLE2.out
        simp at h1
        omega
theorem Rw.src {w : World} {e : TypeId} {sz n cap : Nat} {A : Option Addr} {xs : List Value} {G : Option Nat} (h : Rw w e sz A n cap xs G) : Src w sz A n xs := by
  refine ⟨h.len, fun hn => ?_⟩
  obtain ⟨g, off, rfl, _, hc⟩ := h.cells hn
  refine ⟨_, rfl, fun j u hu => ?_⟩
  have h5 := hc j u hu
  have ha : (⟨g, off, none⟩ : Addr).add j = ⟨g, off + j, none⟩ := by unfold Addr.add; split <;> simp_all
  rw [ha]
  exact h5
/-- A row without those at its head that are off. -/
def dropM (off : List Bool) : List Tk → List Tk
  | [] => []
  | x :: r => if toffM off x.tok then dropM off r else x :: r
theorem takeM_drop (off : List Bool) (l : List Tk) : takeM off l = ((dropM off l).head?, (dropM off l).tail) := by
  induction l with
  | nil => rfl
  | cons x r ih =>
    unfold takeM dropM
    split
    · exact ih
    · rfl
theorem dropM_sub (off : List Bool) (l : List Tk) : ∀ x ∈ dropM off l, x ∈ l := by
  induction l with
  | nil => intro x hx; exact hx
  | cons y r ih =>
    intro x hx
    unfold dropM at hx
    split at hx
    · exact List.mem_cons_of_mem _ (ih x hx)
    · exact hx
theorem tks_drop (l : List Tk) (k : Nat) : (tks l).drop (k * 4) = tks (l.drop k) := by
  induction k generalizing l with
  | zero => simp
  | succ k ih =>
    cases l with
    | nil => simp [tks]
    | cons x l =>
      rw [show (k + 1) * 4 = k * 4 + 1 + 1 + 1 + 1 by omega, tks_cons]
      simp only [List.drop_succ_cons]
      exact ih l
theorem tks_one (l : List Tk) : ∀ u ∈ tks l, u.oneCell' = true := by
  intro u hu
  simp only [tks, List.mem_flatMap] at hu
  obtain ⟨x, _, hx⟩ := hu
  exact tkl_one x u hx
theorem rl_off (h : RLoopQ w b s F) (id : Int) : Calls Tryz.prog 53 #[.pointer (some ⟨b, 9, none⟩), .int .i64 id] w fun e w' => e = .returned (.bool (toffM s.off id)) ∧ w' = w := by
  obtain ⟨o, P, H, hF⟩ := h
  exact reftree_off b 9 58 (rcells s o) s.ab s.off _ id w H.tree
end
end Go.Proofs.YtipbimbnpikbcaaGreat

/- The document's loop: drop. -/
namespace Go.Proofs.YtipbimbnpikbcaaGreat
open Go.RowKit

theorem Rw.srcCut {w : World} {e : TypeId} {sz n cap : Nat} {g off : Nat} {xs : List Value} {G : Option Nat} (h : Rw w e sz (some ⟨g, off, none⟩) n cap xs G) {k : Nat} (hk : k ≤ n) : Src w sz (if cap = k then some ⟨g, off, none⟩ else some ⟨g, off + k * sz, none⟩) (n - k) (xs.drop (k * sz)) := by
  have := h.src.cut hk h.cap_le.1
  have ha : (⟨g, off, none⟩ : Addr).add (k * sz) = ⟨g, off + k * sz, none⟩ := by unfold Addr.add; split <;> simp_all
  rw [Option.map_some, ha] at this
  exact this
theorem dropM_head (off : List Bool) (x : Tk) (r : List Tk) (h : toffM off x.tok = false) : dropM off (x :: r) = x :: r := by
  unfold dropM
  rw [if_neg (by rw [h]; simp)]
theorem dropM_off (off : List Bool) (x : Tk) (r : List Tk) (h : toffM off x.tok = true) : dropM off (x :: r) = dropM off r := by
  conv => lhs; unfold dropM
  rw [if_pos h]
structure DropK (w wr : World) (b : Nat) (s : Lp) (F : Nat → Prop) (A : Option Addr) (c : Nat) (G : Option Nat) (l : List Tk) (n : Nat) : Prop where
  q : RLoopQ wr b s F
  r : Rw wr 35 4 A l.length c (tks l) G
  t : Tch NoBlk w wr
  d : dropM s.off (l.drop n) = dropM s.off l
section
variable {w : World} {b : Nat} {s : Lp} {F : Nat → Prop}
set_option maxHeartbeats 4000000 in
set_option maxRecDepth 100000 in
theorem rl_drop (h : RLoopQ w b s F) {A : Option Addr} {c : Nat} {G : Option Nat} {l : List Tk} (hr : Rw w 35 4 A l.length c (tks l) G) (hn : l.length < 1000000) :
    Calls Tryz.prog 24 #[.pointer (some ⟨b, 0, none⟩), .slice A l.length c] w fun e w' => ∃ A' c' G', e = .returned (.slice A' (dropM s.off l).length c') ∧ Rw w' 35 4 A' (dropM s.off l).length c' (tks (dropM s.off l)) G' ∧ Tch NoBlk w w' ∧ ∀ g, G' = some g → w.heap.size ≤ g := by
  have HK : Hid (DropK w w b s F A c G l 0) := Lib.hid ⟨h, hr, Tch.refl _ _, by simp⟩
  clear h hr
  go_enter Tryz.func24, Tryz.ntmps24
  go_wp2_with fail
  go_loopw [5] (fun y wr => ∃ n : Nat, y = .int .i64 n ∧ n ≤ l.length ∧ DropK w wr b s F A c G l n) (fun y _ => l.length - (intOf y).toNat)
  case atStart => exact ⟨0, rfl, Nat.zero_le _, HK.out⟩
  case round =>
  clear HK
  obtain ⟨n, rfl, hn', hK⟩ := hrel
  by_cases hlt : n < l.length
  · have hltI : (n : Int) < (l.length : Int) := by omega
    have hdI : decide ((n : Int) < (l.length : Int)) = true := decide_eq_true hltI
    have hcap := hK.r.cap_le
    obtain ⟨g, off, rfl, rfl, hcl⟩ := hK.r.cells (by omega)
    obtain ⟨x, r, hx⟩ : ∃ x r, l.drop n = x :: r := ⟨l[n], l.drop (n + 1), List.drop_eq_getElem_cons hlt⟩
    have hxg : l.getD n tk0 = x := by
      have : (l.drop n)[0]? = some x := by rw [hx]; rfl
      rw [List.getElem?_drop] at this
      simp [List.getD_eq_getElem?_getD, show l[n]? = some x by simpa using this]
    obtain ⟨_, _, _, m3⟩ := tks_get l n hlt
    rw [hxg] at m3
    have k3 : wr.cell? ⟨g, off + n * 4 + 3, none⟩ = some (.int .i64 x.tok) := hcl _ _ m3
    have hr1 : l.drop (n + 1) = r := by
      have : (l.drop n).drop 1 = r := by rw [hx]; rfl
      rwa [List.drop_drop] at this
    have HK := Lib.hid hK
    have HR1 := Lib.hid hr1
    have HX := Lib.hid hx
    clear hcl m3 hK hxg hr1 hx hn'
    cases ho : toffM s.off x.tok with
    | true =>
      have HNX : Hid (dropM s.off (l.drop (n + 1)) = dropM s.off l) := Lib.hid (by rw [HR1.out, ← dropM_off s.off x r ho, ← HX.out]; exact HK.out.d)
      have HOFFX : Hid (∀ k, Calls Tryz.prog 53 #[.pointer (some ⟨b, 9, none⟩), .int .i64 x.tok] (wr.drewN k) fun e w' => e = .returned (.bool true) ∧ w' = wr.drewN k) := Lib.hid (fun k => by have := rl_off (HK.out.q.keep ((Tch.refl NoBlk wr).drewN k) (fun _ _ h => h)) x.tok; rw [ho] at this; exact this)
      go_wp2_with fail
      go_quiet ((go_at_call 53; exact Calls.quiet_of_same (HOFFX.out _)))
      clear k3
      go_wp2
      go_roundw
      case rel => exact ⟨n + 1, num (by omega), by omega, ⟨HK.out.q.keep ((Tch.refl NoBlk _).drewN _) (fun _ _ h => h), HK.out.r.keep ((Tch.refl NoBlk _).drewN _) (fun _ _ h => h), HK.out.t.drewN _, HNX.out⟩⟩
      case measure => simp [intOf]; omega
    | false =>
      have HOFFY : Hid (∀ k, Calls Tryz.prog 53 #[.pointer (some ⟨b, 9, none⟩), .int .i64 x.tok] (wr.drewN k) fun e w' => e = .returned (.bool false) ∧ w' = wr.drewN k) := Lib.hid (fun k => by have := rl_off (HK.out.q.keep ((Tch.refl NoBlk wr).drewN k) (fun _ _ h => h)) x.tok; rw [ho] at this; exact this)
      have HNX : Hid (l.drop n = dropM s.off l) := Lib.hid (by rw [← HK.out.d, HX.out, dropM_head s.off x r ho])
      go_wp2_with fail
      go_quiet ((go_at_call 53; exact Calls.quiet_of_same (HOFFY.out _)))
      clear k3
      have HK3 : Hid (DropK w (wr.drewN nq) b s F (some ⟨g, off, none⟩) c (some g) l n) := Lib.hid ⟨HK.out.q.keep ((Tch.refl NoBlk _).drewN _) (fun _ _ h => h), HK.out.r.keep ((Tch.refl NoBlk _).drewN _) (fun _ _ h => h), HK.out.t.drewN _, HK.out.d⟩
      clear HK HOFFY
      generalize wr.drewN nq = w3 at *
      have hsrc : ∀ ob, Src (w3.alloc ob) 4 (some ⟨g, off + n * 4, none⟩) (l.length - n) (tks (l.drop n)) := fun ob => by
        have := (HK3.out.r.keep ((Tch.refl NoBlk w3).alloc ob) (fun _ _ h => h)).srcCut (k := n) (by omega)
        rwa [if_neg (by omega), tks_drop] at this
      have HSRC := Lib.hid hsrc
      clear hsrc
      go_wp2_with (at_builtin; refine wpList_app _ rfl (.tmp 23) (.tmp 26) 45 rfl 35 (.agg #[.int .i64 0, .int .i64 0, .int .i64 0, .int .i64 0]) 4 32 Tryz.underlying45 infoTk rfl (by decide) (by decide) _ _ _ _ _ _ _ _ (tks (l.drop n)) rfl rfl (Sl.made w3 35 #[] 0 rfl (by decide)) (HSRC.out _) (tks_one _) (by omega) ?_; intro A6 c6 w6 G6 hs6 ht6 hg6; simp only [Nat.zero_add, List.nil_append] at hs6; have HS6 := Lib.hid hs6; have HT6 : Hid (Tch NoBlk w3 w6) := Lib.hid (tch_own ((Tch.refl NoBlk w3).alloc (.cells #[] 35)) ht6 (own_some (Nat.le_refl _))); have HN6 : Hid (∀ k, G6 = some k → w3.heap.size ≤ k) := Lib.hid (own_from (Tch.size ((Tch.refl NoBlk w3).alloc (.cells #[] 35))) (own_some (Nat.le_refl _)) hg6); clear hs6 ht6 hg6)
      go_ret
      have hll : (l.drop n).length = l.length - n := List.length_drop
      have hs := HS6.out.rw
      rw [← hll, HNX.out] at hs
      refine ⟨A6, c6, G6, ?_, hs, HK3.out.t.trans HT6.out, fun k hk => Nat.le_trans HK3.out.t.size (HN6.out k hk)⟩
      rw [← HNX.out, hll]
      rfl
  · have hltI : ¬ ((n : Int) < (l.length : Int)) := by omega
    have hdI : decide ((n : Int) < (l.length : Int)) = false := decide_eq_false hltI
    obtain rfl : n = l.length := by omega
    have HNX : Hid (dropM s.off l = []) := Lib.hid (by rw [← hK.d, List.drop_of_length_le (Nat.le_refl _)]; rfl)
    have HK := Lib.hid hK
    have hat := hK.r.at_
    clear hK hlt hn'
    rcases hat with ⟨rfl, h0, rfl, rfl⟩ | ⟨g, off, cur, rfl, rfl, _, hcap, hmx, _⟩
    · obtain rfl : l = [] := List.eq_nil_of_length_eq_zero h0
      simp only [List.length_nil] at *
      go_wp2_with fail
      go_quiet (fail)
      have HT3 : Hid (Tch NoBlk w (wr.drewN nq)) := Lib.hid (HK.out.t.drewN _)
      clear HK
      generalize wr.drewN nq = w3 at *
      go_wp2_with (at_builtin; refine wpList_app _ rfl (.tmp 23) (.tmp 26) 45 rfl 35 (.agg #[.int .i64 0, .int .i64 0, .int .i64 0, .int .i64 0]) 4 32 Tryz.underlying45 infoTk rfl (by decide) (by decide) _ _ _ _ _ _ _ _ [] rfl rfl (Sl.made w3 35 #[] 0 rfl (by decide)) (Src.empty _ _ _) (by simp) (by omega) ?_; intro A6 c6 w6 G6 hs6 ht6 hg6; simp only [Nat.zero_add, List.nil_append] at hs6; have HS6 := Lib.hid hs6; have HT6 : Hid (Tch NoBlk w3 w6) := Lib.hid (tch_own ((Tch.refl NoBlk w3).alloc (.cells #[] 35)) ht6 (own_some (Nat.le_refl _))); have HN6 : Hid (∀ k, G6 = some k → w3.heap.size ≤ k) := Lib.hid (own_from (Tch.size ((Tch.refl NoBlk w3).alloc (.cells #[] 35))) (own_some (Nat.le_refl _)) hg6); clear hs6 ht6 hg6)
      go_ret
      refine ⟨A6, c6, G6, ?_, ?_, HT3.out.trans HT6.out, fun k hk => Nat.le_trans HT3.out.size (HN6.out k hk)⟩
      · rw [HNX.out]
        rfl
      · rw [HNX.out]
        exact HS6.out.rw
    · have hcap2 : c ≤ 9223372036854775807 := by unfold maxLen at hmx; omega
      clear hmx
      by_cases hcl : c = l.length
      · have hcl2 : (c : Int) = (l.length : Int) := by omega
        go_wp2_with fail
        go_quiet (fail)
        have HT3 : Hid (Tch NoBlk w (wr.drewN nq)) := Lib.hid (HK.out.t.drewN _)
        clear HK
        generalize wr.drewN nq = w3 at *
        go_wp2_with (at_builtin; refine wpList_app _ rfl (.tmp 23) (.tmp 26) 45 rfl 35 (.agg #[.int .i64 0, .int .i64 0, .int .i64 0, .int .i64 0]) 4 32 Tryz.underlying45 infoTk rfl (by decide) (by decide) _ _ _ _ _ _ _ _ [] rfl rfl (Sl.made w3 35 #[] 0 rfl (by decide)) (Src.empty _ _ _) (by simp) (by omega) ?_; intro A6 c6 w6 G6 hs6 ht6 hg6; simp only [Nat.zero_add, List.nil_append] at hs6; have HS6 := Lib.hid hs6; have HT6 : Hid (Tch NoBlk w3 w6) := Lib.hid (tch_own ((Tch.refl NoBlk w3).alloc (.cells #[] 35)) ht6 (own_some (Nat.le_refl _))); have HN6 : Hid (∀ k, G6 = some k → w3.heap.size ≤ k) := Lib.hid (own_from (Tch.size ((Tch.refl NoBlk w3).alloc (.cells #[] 35))) (own_some (Nat.le_refl _)) hg6); clear hs6 ht6 hg6)
        go_ret
        refine ⟨A6, c6, G6, ?_, ?_, HT3.out.trans HT6.out, fun k hk => Nat.le_trans HT3.out.size (HN6.out k hk)⟩
        · rw [HNX.out]
          rfl
        · rw [HNX.out]
          exact HS6.out.rw
      · have hcl2 : ¬ (c = l.length) := hcl
        have hcl3 : l.length < c := by omega
        go_wp2_with fail
        go_quiet (fail)
        have HT3 : Hid (Tch NoBlk w (wr.drewN nq)) := Lib.hid (HK.out.t.drewN _)
        clear HK
        generalize wr.drewN nq = w3 at *
        go_wp2_with (at_builtin; refine wpList_app _ rfl (.tmp 23) (.tmp 26) 45 rfl 35 (.agg #[.int .i64 0, .int .i64 0, .int .i64 0, .int .i64 0]) 4 32 Tryz.underlying45 infoTk rfl (by decide) (by decide) _ _ _ _ _ _ _ _ [] rfl rfl (Sl.made w3 35 #[] 0 rfl (by decide)) (Src.empty _ _ _) (by simp) (by omega) ?_; intro A6 c6 w6 G6 hs6 ht6 hg6; simp only [Nat.zero_add, List.nil_append] at hs6; have HS6 := Lib.hid hs6; have HT6 : Hid (Tch NoBlk w3 w6) := Lib.hid (tch_own ((Tch.refl NoBlk w3).alloc (.cells #[] 35)) ht6 (own_some (Nat.le_refl _))); have HN6 : Hid (∀ k, G6 = some k → w3.heap.size ≤ k) := Lib.hid (own_from (Tch.size ((Tch.refl NoBlk w3).alloc (.cells #[] 35))) (own_some (Nat.le_refl _)) hg6); clear hs6 ht6 hg6)
        go_ret
        refine ⟨A6, c6, G6, ?_, ?_, HT3.out.trans HT6.out, fun k hk => Nat.le_trans HT3.out.size (HN6.out k hk)⟩
        · rw [HNX.out]
          rfl
        · rw [HNX.out]
          exact HS6.out.rw
end
end Go.Proofs.YtipbimbnpikbcaaGreat
