/- Settle: what waited becomes micro tasks. -/
import Derived.Test.YtipbimbnpikbcaaLoopProm
namespace Go.Proofs.Ytipbimbnpikbcaa
open Go.RowKit

/-- What the first j of those that waited made of the loop. -/
def setS (s : Lp) (id v : Int) (out : List Int) (j : Nat) : Lp := { s with prs := (settleM s.prs id v).1, mic := s.mic ++ (out.take j).map fun k => withArg v (getL s k) }
structure SetK (w2 wr : World) (b : Nat) (F : Nat → Prop) (s : Lp) (id v : Int) (out : List Int) (j : Nat) (A : Option Addr) (cap : Nat) (G : Option Nat) : Prop where
  left : LoopLeft w2 wr b F (setS s id v out j)
  sl : Sl wr 3 1 A out.length cap (ints out) G
section
variable {w : World} {b : Nat} {s : Lp} {F : Nat → Prop}
set_option maxHeartbeats 4000000 in
set_option maxRecDepth 100000 in
theorem loop_settle (h : LoopQ w b s F) (id v : Int) (hn : s.mic.length + (settleM s.prs id v).2.1.length < 1000000) :
    Calls Try.prog 26 #[.pointer (some ⟨b, 0, none⟩), .int .i64 id, .int .i64 v] w fun e w' => e = .returned (.int .i64 (settleL s id v).2) ∧ LoopLeft w w' b F (settleL s id v).1 := by
  obtain ⟨p, c7, hset⟩ := loop_psettle h id v
  have hre := settleM_reacts h.ok id v
  have hlt := h.lt
  obtain ⟨r, hr⟩ : ∃ r, settleL s id v = r := ⟨_, rfl⟩
  rw [hr]
  have HR := Lib.hid hr
  clear hr
  have hfin : settleL s id v = (setS s id v (settleM s.prs id v).2.1 (settleM s.prs id v).2.1.length, (settleM s.prs id v).2.2) := by simp [settleL, setS]
  obtain ⟨out, ho⟩ : ∃ out, (settleM s.prs id v).2.1 = out := ⟨_, rfl⟩
  obtain ⟨en, he⟩ : ∃ en, (settleM s.prs id v).2.2 = en := ⟨_, rfl⟩
  rw [ho, he] at hfin
  rw [ho] at hn hre
  rw [ho, he] at hset
  have HS := Lib.hid hset
  have HFIN := Lib.hid hfin
  have HRE := Lib.hid hre
  have HN := Lib.hid hn
  have HLT := Lib.hid hlt
  clear hset hfin hre hn hlt ho he h
  go_enter Try.func26, Try.ntmps26
  go_wp2_with fail
  refine HS.out.mono ?_
  rintro e w2 ⟨⟨A, cap, G, rfl, hsl, hG⟩, q2, T2⟩
  have hcap := hsl.cap_le
  have HK : Hid (SetK w2 w2 b F s id v out 0 A cap G) := Lib.hid ⟨by have := LoopLeft.same q2; simpa [setS] using this, hsl⟩
  have HT2 := Lib.hid T2
  have HG := Lib.hid hG
  have HGL := Lib.hid (fun g (e : G = some g) => hsl.lt g e)
  clear HS hsl hG q2 T2 c7
  go_wp2_with fail
  go_loopw [26] (fun y wr => ∃ j : Nat, y = .int .i64 j ∧ j ≤ out.length ∧ SetK w2 wr b F s id v out j A cap G) (fun y _ => out.length - (intOf y).toNat)
  case atStart => exact ⟨0, rfl, Nat.zero_le _, HK.out⟩
  case round =>
    clear HK
    obtain ⟨j, rfl, hj, hK⟩ := hrel
    by_cases hjl : j < out.length
    · have hjI : (j : Int) < (out.length : Int) := by omega
      obtain ⟨x, hx⟩ : ∃ x, out[j]? = some x := ⟨out[j], by simp [hjl]⟩
      have hxm := HRE.out x (List.mem_of_getElem? hx)
      obtain ⟨q, rfl⟩ := Int.eq_ofNat_of_zero_le hxm.1
      have hq : q < s.wai.length := by omega
      have hqI : (q : Int) < (s.wai.length : Int) := by omega
      obtain ⟨g, rfl, rfl, hcl⟩ := hK.sl.cells (by omega)
      have cj := hcl j (.int .i64 q) (by simp [ints, hx])
      obtain ⟨l1, F3, q3, l3⟩ := hK.left
      obtain ⟨gw, ow, cw, k5, hw1, hw2, m0, m1, m2, m3⟩ := q3.wait (k := q) hq
      have eg : getL (setS s id v out j) (q : Int) = getL s q := rfl
      rw [eg] at m0 m1 m2 m3
      have hsw : (setS s id v out j).wai = s.wai := rfl
      rw [hsw] at k5 hw1
      have htok : TokOk (setS s id v out j).ab (getL s q).tok := q3.ok.get (s := setS s id v out j) (k := (q : Int)) ⟨by omega, by rw [hsw]; omega⟩
      have hmicl : (setS s id v out j).mic.length < 1000000 := by have := HN.out; simp [setS]; omega
      have hnext : micL (setS s id v out j) (withArg v (getL s q)) = setS s id v out (j + 1) := by
        simp [micL, setS, List.take_add_one, hx]
      generalize hg : getL s (q : Int) = tk at *
      obtain ⟨kd, f, a, tok⟩ := tk
      dsimp only at m0 m1 m2 m3 htok
      have TB := (Tch.refl NoBlk wr).alloc (.cells #[.int .i64 kd, .int .i64 f, .int .i64 v, .int .i64 tok] 31)
      have hbz : Blk (wr.alloc (.cells #[.int .i64 kd, .int .i64 f, .int .i64 v, .int .i64 tok] 31)) wr.heap.size 31 [.int .i64 kd, .int .i64 f, .int .i64 v, .int .i64 tok] := heap_alloc_new wr _
      have Q3 := Lib.hid q3
      have L1 := Lib.hid l1
      have L3 := Lib.hid l3
      have HSL := Lib.hid hK.sl
      have HTK := Lib.hid htok
      have HMI := Lib.hid hmicl
      have HNX := Lib.hid hnext
      have HX := Lib.hid hx
      have HJ := Lib.hid hjl
      clear hK q3 l1 l3 htok hmicl hnext hx hcl hxm hg eg hsw hj
      go_wp2_with fail
      generalize wr.alloc (.cells #[.int .i64 kd, .int .i64 f, .int .i64 v, .int .i64 tok] 31) = w5 at *
      have p0 := hbz.cellOf 0 _ rfl
      have p1 := hbz.cellOf 1 _ rfl
      have p2 := hbz.cellOf 2 _ rfl
      have p3 := hbz.cellOf 3 _ rfl
      have HPUT := Lib.hid (loop_put_mic (Q3.out.keep (TB.trans (Tch.refl NoBlk w5).drew) (fun _ _ h => h)) ⟨kd, f, v, tok⟩ HTK.out HMI.out)
      have HTB := Lib.hid TB
      clear TB hbz cj m0 m1 m2 m3 k5
      go_region_law (go_simp; go_at_call 31; refine HPUT.out.mono ?_; rintro e w6 ⟨rfl, h6⟩; have H6 := Lib.hid h6; clear h6)
      all_goals
        go_wp2
        have hlf := LoopLeft.comp L1.out L3.out (H6.out.ahead (HTB.out.trans (Tch.refl NoBlk w5).drew))
        rw [show micL (setS s id v out j) ⟨kd, f, v, tok⟩ = setS s id v out (j + 1) from HNX.out] at hlf
        have hslf := (HSL.out.keep (HTB.out.trans (Tch.refl NoBlk w5).drew) (fun _ _ h => h)).keep H6.out.1 (fun g' e hf => by
          have h1 := HG.out g' e
          have h2 := HGL.out g' e
          rcases L3.out g' hf with h3 | h3
          · have := HLT.out g' h3
            omega
          · omega)
        have HLF := Lib.hid hlf
        have HSF := Lib.hid hslf
        clear hlf hslf
        go_roundw
        case rel => exact ⟨j + 1, num (by omega), HJ.out, ⟨HLF.out, HSF.out⟩⟩
        case measure => simp [intOf]; omega
    · have hjI : ¬ ((j : Int) < (out.length : Int)) := by omega
      have hje : j = out.length := by omega
      subst hje
      have HL := Lib.hid hK.left
      clear hK hj hjl
      go_wp2
      go_ret
      rw [← HR.out, HFIN.out]
      exact ⟨rfl, LoopLeft.comp HT2.out (fun _ hk => .inl hk) HL.out⟩
end
end Go.Proofs.Ytipbimbnpikbcaa
