/- Advance: what is due becomes macro tasks. -/
import Derived.Test.YtipbimbnpikbcaaLoopAdv
namespace Go.Proofs.Ytipbimbnpikbcaa
open Go.RowKit

/-- While it goes on: what was asked last said x, ok. -/
structure AdvR (s S : Lp) (now x : Int) (ok : Bool) : Prop where
  yes : ok = true → (0 ≤ x ∧ x < (S.wai.length : Int)) ∧ advL s.L.length s now = advL S.L.length (macL S (getL S x)) now
  no : ok = false → advL s.L.length s now = S
  le : S.mac.length + S.L.length + (if ok then 1 else 0) ≤ s.mac.length + s.L.length
theorem AdvR.start {s : Lp} {now x : Int} {ok : Bool} {L' : List Tm} (h : LOk s) (e : dueM s.L now = (L', x, ok)) : AdvR s { s with L := L' } now x ok := by
  have st := advL_step s now
  cases ok with
  | true =>
    obtain ⟨_, hx⟩ := h.due e
    have hl := dueM_yes (L := s.L) (now := now) (by rw [e])
    rw [e] at st hl
    dsimp only at hl
    refine ⟨fun _ => ⟨hx, ?_⟩, fun h => by simp at h, ?_⟩
    · rw [st, if_pos rfl]
      rfl
    · simp
      omega
  | false =>
    have hl := dueM_no (L := s.L) (now := now) (by rw [e])
    rw [e] at st hl
    dsimp only at hl
    subst hl
    refine ⟨fun h => by simp at h, fun _ => ?_, ?_⟩
    · rw [st, if_neg (by simp)]
    · simp
theorem AdvR.next {s S : Lp} {now x x2 : Int} {ok2 : Bool} {L' : List Tm} (h : AdvR s S now x true) (hok : LOk (macL S (getL S x))) (e : dueM S.L now = (L', x2, ok2)) : AdvR s { macL S (getL S x) with L := L' } now x2 ok2 := by
  have k := AdvR.start (s := macL S (getL S x)) hok e
  have e1 := (h.yes rfl).2
  have hle := h.le
  refine ⟨fun ho => ?_, fun ho => ?_, ?_⟩
  · rw [e1]
    exact k.yes ho
  · rw [e1]
    exact k.no ho
  · have := k.le
    simp [macL] at this hle ⊢
    omega
def okN : Value → Nat
  | .bool true => 1
  | _ => 0
/-- How many timers wait, as memory has it. -/
def timLen (w : World) (b : Nat) : Nat := match w.cell? ⟨b, 6, none⟩ with
  | some (.pointer (some a)) => (match w.cell? a with
    | some (.slice _ n _) => n
    | _ => 0)
  | _ => 0
theorem LoopQ.timLen {w : World} {b : Nat} {s : Lp} {F : Nat → Prop} (h : LoopQ w b s F) : timLen w b = s.L.length := by
  obtain ⟨o, P, H, hF⟩ := h
  have c6 := (H.part 0).1.cellOf 6 _ rfl
  obtain ⟨hh, ⟨A, c, G, hT, _⟩, _, hp⟩ := H.part 4
  have c0 := hT.blk.cellOf 0 _ rfl
  unfold Go.Proofs.Ytipbimbnpikbcaa.timLen
  rw [c6]
  dsimp only
  rw [c0]
  exact hp.length_eq
set_option maxHeartbeats 4000000 in
set_option maxRecDepth 100000 in
theorem loop_advance {w : World} {b : Nat} {s : Lp} {F : Nat → Prop} (h : LoopQ w b s F) (now : Int) (hn : s.mac.length + s.L.length < 1000000) :
    Calls Try.prog 12 #[.pointer (some ⟨b, 0, none⟩), .int .i64 now] w fun e w' => e = .returned (.tuple #[]) ∧ LoopLeft w w' b F (advL s.L.length s now) := by
  obtain ⟨t, c6, hd⟩ := loop_tdue h now
  obtain ⟨⟨L1, x1, ok1⟩, he⟩ : ∃ p, dueM s.L now = p := ⟨_, rfl⟩
  rw [he] at hd
  dsimp only at hd
  have HA := Lib.hid (AdvR.start h.ok he)
  have HD := Lib.hid hd
  have HN := Lib.hid hn
  clear hd h hn he
  go_enter Try.func12, Try.ntmps12
  go_wp2_with fail
  refine HD.out.mono ?_
  rintro e w2 ⟨rfl, h2⟩
  have H2 := Lib.hid h2
  clear h2 c6 HD
  go_wp2_with fail
  go_loopw [4, 5] (fun y z wr => ∃ (S : Lp) (x : Int) (ok : Bool), y = .int .i64 x ∧ z = .bool ok ∧ AdvR s S now x ok ∧ LoopLeft w wr b F S) (fun _ z wr => timLen wr b + okN z)
  case atStart => exact ⟨_, _, _, rfl, rfl, HA.out, H2.out⟩
  case round =>
    clear HA H2
    obtain ⟨S, x, ok, rfl, rfl, hA, hL⟩ := hrel
    cases ok with
    | false =>
      have e1 := hA.no rfl
      have HL := Lib.hid hL
      have HE := Lib.hid e1
      clear e1 hA hL
      go_wp2
      go_end0
      rw [HE.out]
      exact ⟨rfl, HL.out⟩
    | true =>
      obtain ⟨⟨hx0, hx1⟩, e1⟩ := hA.yes rfl
      obtain ⟨q, rfl⟩ := Int.eq_ofNat_of_zero_le hx0
      have hq : q < S.wai.length := by omega
      have hqI : (q : Int) < (S.wai.length : Int) := hx1
      have hq0 : (0 : Int) ≤ (q : Int) := hx0
      have hle := hA.le
      obtain ⟨l1, F3, q3, l3⟩ := hL
      obtain ⟨gw, ow, cw, k5, hw1, hw2, m0, m1, m2, m3⟩ := q3.wait (k := q) hq
      have htok := q3.ok.get (k := (q : Int)) ⟨hx0, hx1⟩
      have hmac : S.mac.length < 1000000 := by have := HN.out; omega
      have hlen := q3.timLen
      obtain ⟨tk, hg⟩ : ∃ tk, getL S (q : Int) = tk := ⟨_, rfl⟩
      rw [hg] at m0 m1 m2 m3 htok
      obtain ⟨kd, f, a, tok⟩ := tk
      dsimp only at m0 m1 m2 m3 htok
      have HPUT := Lib.hid (loop_put_mac (q3.keep (Tch.refl NoBlk wr).drew (fun _ _ h => h)) ⟨kd, f, a, tok⟩ htok hmac)
      have HAA := Lib.hid hA
      have L1' := Lib.hid l1
      have L3' := Lib.hid l3
      have HG := Lib.hid hg
      have HLEN := Lib.hid hlen
      clear hA hx0 hx1 e1 hle l1 q3 l3 htok hmac hlen hg hq
      unfold tkv at HPUT
      go_wp2_with fail
      go_region_law (go_simp; go_at_call 31; refine HPUT.out.mono ?_; rintro e w6 ⟨rfl, h6⟩; have H6 := Lib.hid h6; clear h6)
      all_goals
        obtain ⟨l6, F6, q6, n6⟩ := H6.out
        obtain ⟨t', c6', hd'⟩ := loop_tdue q6 now
        obtain ⟨⟨L2, x2, ok2⟩, he⟩ : ∃ p, dueM S.L now = p := ⟨_, rfl⟩
        rw [show dueM (macL S ⟨kd, f, a, tok⟩).L now = (L2, x2, ok2) from he] at hd'
        dsimp only at hd'
        have HD := Lib.hid hd'
        have hok6 := q6.ok
        have HAN : Hid (AdvR s { macL S ⟨kd, f, a, tok⟩ with L := L2 } now x2 ok2) := Lib.hid (by
          have := HAA.out.next (by rw [HG.out]; exact hok6) he
          rw [HG.out] at this
          exact this)
        have T6 := Lib.hid l6
        have N6 := Lib.hid n6
        have HYES := Lib.hid (fun e => dueM_yes (L := S.L) (now := now) (by rw [he]; exact e))
        rw [he] at HYES
        have HNO := Lib.hid (fun e => dueM_no (L := S.L) (now := now) (by rw [he]; exact e))
        rw [he] at HNO
        clear hd' he hok6 l6 n6 q6 H6 m0 m1 m2 m3 k5
        go_wp2_with fail
        refine HD.out.mono ?_
        rintro e w7 ⟨rfl, h7⟩
        have hfin : LoopLeft w w7 b F { macL S ⟨kd, f, a, tok⟩ with L := L2 } := LoopLeft.comp L1'.out L3'.out ((LoopLeft.comp T6.out N6.out h7).ahead (Tch.refl NoBlk wr).drew)
        have hl7 : timLen w7 b = L2.length := by
          obtain ⟨_, _, q7, _⟩ := h7
          exact q7.timLen
        have HF := Lib.hid hfin
        have HL7 := Lib.hid hl7
        clear hfin hl7 h7 HD c6'
        go_wp2
        go_roundw
        case rel => exact ⟨_, _, _, rfl, rfl, HAN.out, HF.out⟩
        case measure =>
          rw [HL7.out, HLEN.out]
          cases ok2 with
          | true =>
            have := HYES.out rfl
            try dsimp only at this
            simp [okN]
            omega
          | false =>
            have := HNO.out rfl
            try dsimp only at this
            subst this
            simp [okN]
end Go.Proofs.Ytipbimbnpikbcaa
