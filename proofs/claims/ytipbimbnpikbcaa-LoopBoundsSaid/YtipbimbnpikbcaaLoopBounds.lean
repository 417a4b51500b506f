/- LoopBounds: how far behind a task is told. -/
import Derived.Test.YtipbimbnpikbcaaLoopQS
import Derived.Test.YtipbimbnpikbcaaLoopLaw
namespace Go.Proofs.Ytipbimbnpikbcaa
open Go.RowKit

/-- After i turns: a macro tasks and c micro tasks were told, t micro ones since the last macro one; ma and mi are when those asked for were told. -/
structure BdK (n m k q i a c t : Nat) (ma mi : Int) : Prop where
  sum : i = a + c
  ha : a ≤ m + 1
  hc : c ≤ k
  ht : t ≤ n
  i1 : a ≤ m → c ≤ a * n + t
  i2 : c < k → a * n + t ≤ c
  mac : m < a → (m : Int) ≤ ma ∧ ma ≤ (m : Int) + ((m + 1) * n : Nat)
  mic : q < c → (q : Int) ≤ mi ∧ mi ≤ (q : Int) + (q / n : Nat)
theorem BdK.step {n m k q i a c t : Nat} {ma mi : Int} (h : BdK n m k q i a c t ma mi) (hn : 1 ≤ n) (hm : m ≤ 40) (hi : i < m + 1 + k) :
    ∃ a' c' t' kd fn, nextQ n t (rowI 0 a (m + 1)) (rowI 1000 c k) = (t', rowI 0 a' (m + 1), rowI 1000 c' k, some (kd, fn)) ∧
      BdK n m k q (i + 1) a' c' t' (if fn = (m : Int) then (i : Int) else ma) (if fn = 1000 + (q : Int) then (i : Int) else mi) := by
  obtain ⟨h1, h2, h3, h4, h5, h6, h7, h8⟩ := h
  have e1 : (a + 1) * n = a * n + n := by rw [Nat.add_mul, Nat.one_mul]
  have dv : c = q → a * n ≤ q → a ≤ q / n := fun _ h => (Nat.le_div_iff_mul_le (by omega)).2 h
  have micro : ∀ t', t' ≤ n → (a ≤ m → c + 1 ≤ a * n + t') → (c + 1 < k → a * n + t' ≤ c + 1) → c < k → a * n ≤ c →
      BdK n m k q (i + 1) a (c + 1) t' (if (1000 + (c : Int)) = (m : Int) then (i : Int) else ma) (if (1000 + (c : Int)) = 1000 + (q : Int) then (i : Int) else mi) := by
    intro t' k1 k2 k3 k4 k5
    rw [if_neg (by omega)]
    refine ⟨by omega, h2, by omega, k1, k2, k3, h7, fun hq => ?_⟩
    by_cases e : c = q
    · rw [if_pos (by omega)]
      have := dv e (by omega)
      omega
    · rw [if_neg (by omega)]
      exact h8 (by omega)
  have macro_ : a < m + 1 → (c < k → t = n) →
      BdK n m k q (i + 1) (a + 1) c 0 (if (a : Int) = (m : Int) then (i : Int) else ma) (if (a : Int) = 1000 + (q : Int) then (i : Int) else mi) := by
    intro k1 k2
    rw [if_neg (show ¬ ((a : Int) = 1000 + (q : Int)) by omega)]
    refine ⟨by omega, by omega, h3, by omega, fun hle => ?_, fun hlt => ?_, fun hlt => ?_, h8⟩
    · have := h5 (by omega)
      omega
    · have := h6 hlt
      have := k2 hlt
      omega
    · by_cases e : a = m
      · rw [if_pos (by omega)]
        have := h5 (by omega)
        subst e
        omega
      · rw [if_neg (by omega)]
        exact h7 (by omega)
  unfold nextQ
  by_cases hc : c < k
  · rw [rowI_cons 1000 hc]
    dsimp only
    by_cases ht : t < n
    · rw [if_pos ht]
      refine ⟨a, c + 1, t + 1, 2, 1000 + (c : Int), by simp, micro (t + 1) (by omega) (fun h => ?_) (fun h => ?_) hc ?_⟩
      · have := h5 h
        omega
      · have := h6 hc
        omega
      · have := h6 hc
        omega
    · rw [if_neg ht]
      by_cases ha : a < m + 1
      · rw [rowI_cons 0 ha]
        refine ⟨a + 1, c, 0, 1, (a : Int), by simp [rowI_cons 1000 hc], macro_ ha (fun _ => by omega)⟩
      · rw [rowI_nil 0 (show m + 1 ≤ a by omega)]
        refine ⟨a, c + 1, 1, 2, 1000 + (c : Int), by simp [rowI_nil 0 (show m + 1 ≤ a by omega)], micro 1 (by omega) (fun h => by omega) (fun h => ?_) hc ?_⟩
        · have := h6 hc
          omega
        · have := h6 hc
          omega
  · rw [rowI_nil 1000 (show k ≤ c by omega)]
    have ha : a < m + 1 := by omega
    rw [rowI_cons 0 ha]
    refine ⟨a + 1, c, 0, 1, (a : Int), by simp [rowI_nil 1000 (show k ≤ c by omega)], macro_ ha (fun h => by omega)⟩
theorem BdK.done {n m k q a c t : Nat} {ma mi : Int} (h : BdK n m k q (m + 1 + k) a c t ma mi) (hq : k = 0 ∨ q < k) : ((m : Int) ≤ ma ∧ ma ≤ (m : Int) + ((m + 1) * n : Nat)) ∧ (k = 0 ∨ ((q : Int) ≤ mi ∧ mi ≤ (q : Int) + (q / n : Nat))) := by
  have := h.sum
  have := h.ha
  have := h.hc
  refine ⟨h.mac (by omega), ?_⟩
  rcases hq with e | e
  · exact .inl e
  · exact .inr (h.mic (by omega))

set_option maxHeartbeats 8000000 in
set_option maxRecDepth 100000 in
theorem loopBounds_walk (x0 x1 x2 x3 : Int) (w : World) (h0 : IntKind.u8.min ≤ x0 ∧ x0 ≤ IntKind.u8.max) (h1 : IntKind.u8.min ≤ x1 ∧ x1 ≤ IntKind.u8.max) (h2 : IntKind.u8.min ≤ x2 ∧ x2 ≤ IntKind.u8.max) (h3 : IntKind.u8.min ≤ x3 ∧ x3 ≤ IntKind.u8.max) :
    Calls Try.prog 5 #[.int .u8 x0, .int .u8 x1, .int .u8 x2, .int .u8 x3] w fun e w' => e = .returned (.bool true) ∧ Below w.heap.size w w' := by
  have b0 : 0 ≤ x0 ∧ x0 ≤ 255 := h0
  have b1 : 0 ≤ x1 ∧ x1 ≤ 255 := h1
  have b2 : 0 ≤ x2 ∧ x2 ≤ 255 := h2
  have b3 : 0 ≤ x3 ∧ x3 ≤ 255 := h3
  clear h0 h1 h2 h3
  obtain ⟨a0, rfl⟩ := Int.eq_ofNat_of_zero_le b0.1
  obtain ⟨a1, rfl⟩ := Int.eq_ofNat_of_zero_le b1.1
  obtain ⟨a2, rfl⟩ := Int.eq_ofNat_of_zero_le b2.1
  obtain ⟨a3, rfl⟩ := Int.eq_ofNat_of_zero_le b3.1
  obtain ⟨n0, hn0⟩ : ∃ n0, n0 = a0 % 64 := ⟨_, rfl⟩
  obtain ⟨m, hm⟩ : ∃ m, m = a1 % 41 := ⟨_, rfl⟩
  obtain ⟨k, hk⟩ : ∃ k, k = a2 % 201 := ⟨_, rfl⟩
  have u0 : (a0 : Int) % 64 = (n0 : Int) := by omega
  have u1 : (a1 : Int) % 41 = (m : Int) := by omega
  have u2 : (a2 : Int) % 201 = (k : Int) := by omega
  have v0 : (a0 : Int).tmod 64 = (n0 : Int) := by rw [Int.tmod_eq_emod_of_nonneg (by omega)]; exact u0
  have v1 : (a1 : Int).tmod 41 = (m : Int) := by rw [Int.tmod_eq_emod_of_nonneg (by omega)]; exact u1
  have v2 : (a2 : Int).tmod 201 = (k : Int) := by rw [Int.tmod_eq_emod_of_nonneg (by omega)]; exact u2
  have ln : n0 ≤ 63 := by omega
  have lm : m ≤ 40 := by omega
  have lk : k ≤ 200 := by omega
  clear hn0 hm hk
  have s0 : IntKind.i64.wrap (n0 : Int) = (n0 : Int) := by rw [IntKind.wrap_i64]; omega
  have s2 : IntKind.i64.wrap (k : Int) = (k : Int) := by rw [IntKind.wrap_i64]; omega
  have s3 : IntKind.i64.wrap ((n0 : Int) + 1) = (n0 : Int) + 1 := by rw [IntKind.wrap_i64]; omega
  obtain ⟨q, hq⟩ : ∃ q : Nat, min (a3 : Int) (max ((k : Int) - 1) 0) = (q : Int) := ⟨min a3 (k - 1), by omega⟩
  have HQK : Hid (k = 0 ∨ q < k) := Lib.hid (by omega)
  have lq : q ≤ 255 := by omega
  go_enter Try.func5, Try.ntmps5
  go_wp2_with fail
  refine (loop_shown w).mono ?_
  rintro e w1 ⟨rfl, hT1⟩
  have HB1 := Lib.hid (below_no (Below.refl _ w) hT1)
  clear hT1
  go_wp2_with fail
  have hnew := lpi_new (O := fun _ => False) HB1.out (fun _ h => h.elim) (n0 + 1) (by omega) (by omega)
  rw [show ((n0 + 1 : Nat) : Int) = (n0 : Int) + 1 from by omega] at hnew
  refine hnew.mono ?_
  rintro e w2 ⟨b, rfl, hI2, _⟩
  clear hnew HB1
  go_wp2_with fail
  have sm : IntKind.i64.wrap ((m : Int) + 1) = (m : Int) + 1 := by rw [IntKind.wrap_i64]; omega
  go_loopw [52] (fun y wr => ∃ (i : Nat) (s : Lp), y = .int .i64 i ∧ i ≤ m + 1 ∧ LpI w wr b s (fun _ => False) ∧ QS s (n0 + 1) 0 (rowI 0 0 i) [] i) (fun y _ => m + 1 - (intOf y).toNat)
  case atStart => exact ⟨0, _, rfl, by omega, hI2, QS.new _⟩
  case round =>
    clear hI2
    obtain ⟨i, s, rfl, hi, hI, hQ⟩ := hrel
    by_cases hlt : i < m + 1
    · have d1 : decide ((i : Int) < (m : Int) + 1) = true := by simp; omega
      obtain ⟨s', e', q'⟩ := hQ.spawn i (by omega)
      have HQ' := Lib.hid q'
      have hlen : s.mac.length < 1000000 := by rw [hQ.macLen, rowI_length]; omega
      have HK : Hid (i + 1 ≤ m + 1) := Lib.hid (by omega)
      have hlt2 : (i : Int) < (m : Int) + 1 := by omega
      clear hQ q'
      go_wp2_with fail
      refine (lpi_spawn hI i hlen e').mono ?_
      rintro e w3 ⟨rfl, hI3, _⟩
      clear hI hlen e'
      go_wp2
      go_roundw
      case rel => exact ⟨i + 1, s', num (by omega), HK.out, hI3, by rw [rowI_snoc 0 (Nat.zero_le i)]; simpa using HQ'.out⟩
      case measure => simp [intOf]; omega
    · have hi2 : i = m + 1 := by omega
      have hlt2 : ¬ ((i : Int) < (m : Int) + 1) := by omega
      have HI2 := Lib.hid hi2
      have HI3 := Lib.hid hI
      have HQ3 := Lib.hid hQ
      clear hi2 hlt hi hI hQ
      go_wp2_with fail
      go_loopw [65] (fun y wr => ∃ (j : Nat) (s : Lp), y = .int .i64 j ∧ j ≤ k ∧ LpI w wr b s (fun _ => False) ∧ QS s (n0 + 1) 0 (rowI 0 0 (m + 1)) (rowI 1000 0 j) (m + 1 + j)) (fun y _ => k - (intOf y).toNat)
      case atStart => exact ⟨0, s, rfl, by omega, HI3.out, by rw [← HI2.out]; exact HQ3.out⟩
      case round =>
        clear HI3 HQ3
        obtain ⟨j, s, rfl, hj, hI, hQ⟩ := hrel
        by_cases hlt : j < k
        · have hlt3 : (j : Int) < (k : Int) := by omega
          have sj : IntKind.i64.wrap (1000 + (j : Int)) = 1000 + (j : Int) := by rw [IntKind.wrap_i64]; omega
          obtain ⟨s', e', q'⟩ := hQ.micro (1000 + (j : Int)) (by omega)
          have HQ' := Lib.hid q'
          have hlen : s.mic.length < 1000000 := by rw [hQ.micLen, rowI_length]; omega
          have HK : Hid (j + 1 ≤ k) := Lib.hid (by omega)
          clear hQ q'
          go_wp2_with fail
          refine (lpi_micro hI _ hlen e').mono ?_
          rintro e w3 ⟨rfl, hI3, _⟩
          clear hI hlen e'
          go_wp2
          go_roundw
          case rel => exact ⟨j + 1, s', num (by omega), HK.out, hI3, by rw [rowI_snoc 1000 (Nat.zero_le j), ← Nat.add_assoc]; simpa using HQ'.out⟩
          case measure => simp [intOf]; omega
        · have hj2 : j = k := by omega
          have hlt3 : ¬ ((j : Int) < (k : Int)) := by omega
          have HJ2 := Lib.hid hj2
          have HI3 := Lib.hid hI
          have HQ3 := Lib.hid hQ
          clear hj2 hlt hj hI hQ
          go_wp2_with fail
          have smk : IntKind.i64.wrap ((m : Int) + 1 + (k : Int)) = (m : Int) + 1 + (k : Int) := by rw [IntKind.wrap_i64]; omega
          go_loopw [22, 23, 89] (fun yma ymi yi wr => ∃ (i a c t : Nat) (ma mi : Int) (s : Lp), yma = .int .i64 ma ∧ ymi = .int .i64 mi ∧ yi = .int .i64 i ∧ i ≤ m + 1 + k ∧ LpI w wr b s (fun _ => False) ∧ QS s (n0 + 1) t (rowI 0 a (m + 1)) (rowI 1000 c k) (m + 1 + k) ∧ BdK (n0 + 1) m k q i a c t ma mi) (fun _ _ yi _ => m + 1 + k - (intOf yi).toNat)
          case atStart => exact ⟨0, 0, 0, 0, -1, -1, s, rfl, rfl, rfl, by omega, HI3.out, by rw [← HJ2.out]; exact HQ3.out, ⟨rfl, by omega, by omega, by omega, fun _ => by omega, fun _ => by omega, fun h => by omega, fun h => by omega⟩⟩
          case round =>
            clear HI3 HQ3
            obtain ⟨i, a, c, t, ma, mi, s, rfl, rfl, rfl, hi, hI, hQ, hB⟩ := hrel
            by_cases hlt : i < m + 1 + k
            · have hlt4 : (i : Int) < (m : Int) + 1 + (k : Int) := by omega
              obtain ⟨a', c', t', kd, fn, e1, hB'⟩ := hB.step (by omega) lm hlt
              obtain ⟨s', x, e2, hQ', e3⟩ := hQ.next
              rw [e1] at hQ' e3
              dsimp only at hQ' e3
              cases x with
              | none => simp at e3
              | some x =>
                obtain ⟨kd', fn', arg, tok⟩ := x
                simp only [Option.map_some, Option.some.injEq, Prod.mk.injEq] at e3
                obtain ⟨rfl, rfl⟩ := e3
                have HB' := Lib.hid hB'
                have HQ' := Lib.hid hQ'
                have HK : Hid (i + 1 ≤ m + 1 + k) := Lib.hid (by omega)
                clear hB hB' hQ hQ' e1
                go_wp2_with fail
                refine (lpi_next hI e2).mono ?_
                rintro e w3 ⟨rfl, hI3, _⟩
                have hI4 := Lib.hid (hI3.nothing ((Tch.refl NoBlk w3).alloc (.cells #[.int .i64 kd', .int .i64 fn', .int .i64 arg, .int .i64 tok] 31)))
                clear hI hI3 e2
                simp only [Option.getD_some, Option.isSome_some, tkv]
                by_cases hA : fn' = (m : Int) <;> by_cases hC : fn' = 1000 + (q : Int)
                · exfalso
                  omega
                all_goals
                  first | rw [if_pos hA] at HB' | rw [if_neg hA] at HB'
                  first | rw [if_pos hC] at HB' | rw [if_neg hC] at HB'
                  try subst hA
                  try subst hC
                  go_wp2
                  go_roundw
                  case rel => exact ⟨i + 1, a', c', t', _, _, s', rfl, rfl, num (by omega), HK.out, hI4.out, HQ'.out, HB'.out⟩
                  case measure => simp [intOf]; omega
            · have hie : i = m + 1 + k := by omega
              have hlt4 : ¬ ((i : Int) < (m : Int) + 1 + (k : Int)) := by omega
              subst hie
              obtain ⟨⟨g1, g2⟩, g3⟩ := hB.done HQK.out
              have HBL := Lib.hid hI.below
              have hP : (m + 1) * (n0 + 1) ≤ 41 * 64 := Nat.mul_le_mul (by omega) (by omega)
              have ePc : ((m : Int) + 1) * ((n0 : Int) + 1) = (((m + 1) * (n0 + 1) : Nat) : Int) := by simp
              have eQc : Int.tdiv (q : Int) ((n0 : Int) + 1) = ((q / (n0 + 1) : Nat) : Int) := by
                rw [Int.tdiv_eq_ediv_of_nonneg (by omega), show (n0 : Int) + 1 = ((n0 + 1 : Nat) : Int) from by omega]
                rfl
              have hQ1 : q / (n0 + 1) ≤ 255 := Nat.le_trans (Nat.div_le_self _ _) lq
              generalize (m + 1) * (n0 + 1) = PP at *
              generalize q / (n0 + 1) = QQ at *
              have w1 : IntKind.i64.wrap (PP : Int) = (PP : Int) := by rw [IntKind.wrap_i64]; omega
              have w2 : IntKind.i64.wrap ((m : Int) + (PP : Int)) = (m : Int) + (PP : Int) := by rw [IntKind.wrap_i64]; omega
              have w3 : IntKind.i64.wrap ((q : Int) + (QQ : Int)) = (q : Int) + (QQ : Int) := by rw [IntKind.wrap_i64]; omega
              have w4 : IntKind.i64.wrap (QQ : Int) = (QQ : Int) := by rw [IntKind.wrap_i64]; omega
              have w5 : IntKind.i64.wrap (1000 + (q : Int) - 1000) = (q : Int) := by rw [IntKind.wrap_i64]; omega
              have nz : ¬ ((n0 : Int) + 1 = 0) := by omega
              clear hlt hi hI hQ hB
              by_cases hk0 : k = 0
              · subst hk0
                go_wp2
                go_ret
                exact ⟨rfl, HBL.out⟩
              · have hk1 : ¬ ((k : Int) = 0) := by omega
                obtain ⟨g4, g5⟩ := g3.resolve_left hk0
                clear g3
                go_wp2
                go_ret
                exact ⟨rfl, HBL.out⟩
end Go.Proofs.Ytipbimbnpikbcaa
