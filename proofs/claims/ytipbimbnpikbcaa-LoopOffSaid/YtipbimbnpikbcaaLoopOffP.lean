/- LoopOff: its phases. No program in sight. -/
import Derived.Test.YtipbimbnpikbcaaLoopOffL
namespace Go.Proofs.Ytipbimbnpikbcaa

def T5 : Tk := ⟨1, 500, 0, 0⟩
/-- i tasks were asked for outside; the task 500 is to come. -/
structure PB (s : Lp) (O i : Nat) (q : List Int) (seen j : Nat) : Prop where
  prs : s.prs = [⟨false, 0, q⟩]
  due : ∀ y ∈ s.L, y.1 = 3
  fn : ∀ x, Mem x s → gdB O x = true → 100 ≤ x.fn ∧ x.fn ≤ 120
  ab : s.ab = List.replicate (i + 1) (-1)
  off : s.off = List.replicate (i + 1) false
  mem : ∀ x, Mem x s → gdB O x = true ∨ x = T5
  t5 : T5 ∈ s.mac
  cnt : lvG O s + wtG O s q + seen = i
  len : s.mac.length + s.mic.length + j ≤ i + 1
  sm : s.L.length ≤ i ∧ q.length ≤ i
/-- The task 500 goes on, and asked for m. -/
structure PC (s : Lp) (O m : Nat) (q : List Int) (seen j : Nat) : Prop where
  prs : s.prs = [⟨false, 0, q⟩]
  due : ∀ y ∈ s.L, y.1 = 3
  fn : ∀ x, Mem x s → gdB O x = true → 100 ≤ x.fn ∧ x.fn ≤ 120
  ab : s.ab = List.replicate (O + 1) (-1) ++ List.replicate m 0
  off : s.off = List.replicate (O + 1 + m) false
  tok : s.token = 0
  mem : ∀ x, Mem x s → gdB O x = true ∨ x.tok = 0 ∨ (O : Int) < x.tok
  cnt : lvG O s + wtG O s q + seen = O
  lv : lvG O s + j ≤ O + 1
  len : s.mac.length + s.mic.length ≤ O + 1 + m
  sm : s.L.length ≤ O + m ∧ q.length ≤ O + m
/-- What it asked for is called off. -/
structure PD (s : Lp) (O : Nat) (q : List Int) (seen j : Nat) : Prop where
  due : ∀ y ∈ s.L, y.1 = 3
  fn : ∀ x, Mem x s → gdB O x = true → 100 ≤ x.fn ∧ x.fn ≤ 120
  gd : ∀ x : Tk, gdB O x = true → toffM s.off x.tok = false
  mem : ∀ x, Mem x s → gdB O x = true ∨ toffM s.off x.tok = true
  cnt : lvG O s + wtG O s q + seen = O
  lv : lvG O s + j ≤ O + 1
  sm : q.length ≤ 60
theorem gdB_T5 (O : Nat) : gdB O T5 = false := by simp [gdB, T5]
theorem toff_rep (N : Nat) (x : Int) : toffM (List.replicate N false) x = false := by
  unfold toffM
  rw [List.getD_eq_getElem?_getD, List.getElem?_replicate]
  split <;> simp
theorem wtG_same {O : Nat} {s s' : Lp} (h : Same s s') (q : List Int) : wtG O s' q = wtG O s q := by
  unfold wtG getL
  rw [h.L, h.wai]
theorem mem_same {s s' : Lp} {t : Tk} (h : Same s s') (n : Nxt s s' t) {x : Tk} (hx : Mem x s') : Mem x s := by
  rcases hx with hx | hx | hx
  · exact .inl (n.mac x hx)
  · exact .inr (.inl (n.mic x hx))
  · exact .inr (.inr (by rw [← h.wai]; exact hx))
theorem nxt_lv {O : Nat} {s s' : Lp} {t : Tk} (n : Nxt s s' t) (hg : ∀ x : Tk, toffM s.off x.tok = true → gdB O x = false) : lvG O s = lvG O s' + one (gdB O t) := n.cnt (gdB O) hg
theorem nxt_len {s s' : Lp} {t : Tk} (n : Nxt s s' t) (hg : ∀ x : Tk, toffM s.off x.tok = false) : s.mac.length + s.mic.length = s'.mac.length + s'.mic.length + 1 := by
  have := n.cnt (fun _ => true) (fun x hx => by rw [hg x] at hx; cases hx)
  simpa [one] using this
theorem PB.start (O : Nat) : ∃ s1 s2, promiseL (newL 5) = (s1, 0, 0) ∧ spawnL s1 500 = (s2, 0, 0) ∧ PB s2 O 0 [] 0 0 ∧ s2.token = -1 ∧ s1.mac.length = 0 := by
  refine ⟨⟨5, 0, -1, [], [], [], [], 0, [⟨false, 0, []⟩], [], [], []⟩, ⟨5, 0, -1, [T5], [], [], [], 0, [⟨false, 0, []⟩], [-1], [false], []⟩, rfl, rfl, ⟨rfl, fun y hy => by simp at hy, fun x hx hg => ?_, rfl, rfl, fun x hx => ?_, by simp, ?_, by simp, by simp⟩, rfl, rfl⟩
  · rcases hx with hx | hx | hx
    · rw [List.mem_singleton.1 hx, gdB_T5] at hg
      cases hg
    · simp at hx
    · simp at hx
  · rcases hx with hx | hx | hx
    · exact .inr (List.mem_singleton.1 hx)
    · simp at hx
    · simp at hx
  · simp [lvG, wtG, gdB_T5]
section
variable {s : Lp} {O i m seen j : Nat} {q : List Int}
theorem PB.ask (h : PB s O i q 0 0) (ht : s.token = -1) (hok : LOk s) (hi : i < O) (hO : O ≤ 20) (k : Nat) : ∃ s' y q', askL s k (100 + (i : Int)) = (s', y, 0) ∧ PB s' O (i + 1) q' 0 0 ∧ s'.token = -1 := by
  obtain ⟨h1, h2, h3, h4, h5, h6, h7, h8, h9, h10⟩ := h
  have hab : s.ab.length = i + 1 := by rw [h4, List.length_replicate]
  obtain ⟨s', y, q', t, e, A⟩ := ask_spec hok h1 (by omega) (by omega) (by omega) O k (100 + (i : Int))
  have hgt : gdB O t = true := decide_eq_true (by rw [A.ttok, hab]; omega)
  refine ⟨s', y, q', e, ⟨A.prs, fun y hy => (A.due y hy).elim (h2 y) id, fun x hx hg => ?_, ?_, ?_, fun x hx => ?_, A.keep _ h7, ?_, ?_, ?_⟩, by rw [A.tok, ht]⟩
  · rcases A.mem x hx with hx | rfl
    · exact h3 x hx hg
    · rw [A.tfn]
      omega
  · rw [A.ab, h4, ht, List.replicate_succ' (n := i + 1)]
  · rw [A.off, h5, toff_rep, List.replicate_succ' (n := i + 1)]
  · rcases A.mem x hx with hx | rfl
    · exact h6 x hx
    · exact .inl hgt
  · have := A.cnt
    rw [hgt] at this
    simp [one] at this
    omega
  · have := A.len
    omega
  · have := A.Ll
    have := A.ql
    omega
theorem PB.next (h : PB s O O q seen j) : ∃ s' t, nextL s = (s', some t) ∧ ((gdB O t = true ∧ (100 ≤ t.fn ∧ t.fn ≤ 120) ∧ PB s' O O q (seen + 1) (j + 1)) ∨ (t = T5 ∧ PC s' O 0 q seen (j + 1))) := by
  obtain ⟨h1, h2, h3, h4, h5, h6, h7, h8, h9, h10⟩ := h
  have hoff : ∀ x : Tk, toffM s.off x.tok = false := fun x => by rw [h5]; exact toff_rep _ _
  obtain ⟨s', hs, ⟨_, n⟩ | ⟨t, e, n⟩⟩ := nextL_spec s
  · have := n.offs T5 (.inl h7)
    rw [hoff] at this
    cases this
  · have hm : Mem t s := n.mem.elim .inl (fun h => .inr (.inl h))
    have hlv := nxt_lv (O := O) n (fun x hx => by rw [hoff] at hx; cases hx)
    have hln := nxt_len n hoff
    have hw := wtG_same (O := O) hs q
    refine ⟨s', t, e, ?_⟩
    by_cases hg : gdB O t = true
    · refine .inl ⟨hg, h3 t hm hg, by rw [hs.prs]; exact h1, by rw [hs.L]; exact h2, fun x hx => h3 x (mem_same hs n hx), by rw [hs.ab]; exact h4, by rw [hs.off]; exact h5, fun x hx => h6 x (mem_same hs n hx), ?_, ?_, by omega, by rw [hs.L]; exact h10⟩
      · rcases n.keep T5 h7 (hoff _) with e | e
        · rw [← e, gdB_T5] at hg
          cases hg
        · exact e
      · rw [hg] at hlv
        simp [one] at hlv
        omega
    · have ht : t = T5 := (h6 t hm).resolve_left hg
      have hg' : gdB O t = false := by simpa using hg
      rw [hg'] at hlv
      simp [one] at hlv
      refine .inr ⟨ht, by rw [hs.prs]; exact h1, by rw [hs.L]; exact h2, fun x hx => h3 x (mem_same hs n hx), by rw [hs.ab, h4]; simp, by rw [hs.off]; exact h5, by rw [n.tok, ht]; rfl, fun x hx => ?_, by omega, ?_, by omega, by rw [hs.L]; omega⟩
      · rcases h6 x (mem_same hs n hx) with h | h
        · exact .inl h
        · exact .inr (.inl (by rw [h]; rfl))
      · have k1 : s'.mac.countP (gdB O) ≤ s'.mac.length := List.countP_le_length
        have k2 : s'.mic.countP (gdB O) ≤ s'.mic.length := List.countP_le_length
        unfold lvG
        omega
theorem PC.ask (h : PC s O m q seen j) (hok : LOk s) (hm : m < 21) (hO : O ≤ 20) (k : Nat) (f : Int) : ∃ s' y q', askL s k f = (s', y, 0) ∧ PC s' O (m + 1) q' seen j := by
  obtain ⟨h1, h2, h3, h4, h5, h6, h7, h8, h9, h10, h11⟩ := h
  have hab : s.ab.length = O + 1 + m := by rw [h4]; simp
  obtain ⟨s', y, q', t, e, A⟩ := ask_spec hok h1 (by omega) (by omega) (by omega) O k f
  have hgt : gdB O t = false := decide_eq_false (by rw [A.ttok, hab]; omega)
  have hlv := A.lv hgt
  refine ⟨s', y, q', e, A.prs, fun y hy => (A.due y hy).elim (h2 y) id, fun x hx hg => ?_, ?_, ?_, by rw [A.tok, h6], fun x hx => ?_, ?_, by omega, ?_, ?_⟩
  · rcases A.mem x hx with hx | rfl
    · exact h3 x hx hg
    · rw [hgt] at hg
      cases hg
  · rw [A.ab, h4, h6, List.append_assoc, ← List.replicate_succ' (n := m)]
  · rw [A.off, h5, toff_rep, show O + 1 + (m + 1) = (O + 1 + m) + 1 by omega, List.replicate_succ' (n := O + 1 + m)]
  · rcases A.mem x hx with hx | rfl
    · exact h7 x hx
    · exact .inr (.inr (by rw [A.ttok, hab]; omega))
  · have := A.cnt
    rw [hgt] at this
    simp [one] at this
    omega
  · have := A.len
    omega
  · have := A.Ll
    have := A.ql
    omega
theorem comes_top {ab : List Int} {j : Nat} (h : ab[j]? = some (-1)) (hj : j ≠ 0) : comes ab 0 j = false := by
  unfold comes
  obtain ⟨f, rfl⟩ : ∃ f, j = f + 1 := ⟨j - 1, by omega⟩
  unfold comesB
  rw [up_none h]
  simp
theorem comes_zero (ab : List Int) (f : Nat) : comesB ab 0 f 0 = true := by cases f <;> simp [comesB]
theorem comes_under {ab : List Int} {j : Nat} (h : ab[j]? = some 0) : comes ab 0 j = true := by
  unfold comes
  cases j with
  | zero => exact comes_zero ab 0
  | succ f =>
    unfold comesB
    rw [up_of (k := 0) h]
    simp [comes_zero]
/-- Resume, and the task is called off. -/
theorem PC.cancel (h : PC s O m q seen j) (hok : LOk s) (hO : O ≤ 20) (hm : m ≤ 21) : ∃ s', cancelL (resumeL s 300) 0 = (s', 0) ∧ PD s' O q seen j ∧ s'.prs = [⟨false, 0, q⟩] := by
  obtain ⟨h1, h2, h3, h4, h5, h6, h7, h8, h9, h10, h11⟩ := h
  have hab : s.ab.length = O + 1 + m := by rw [h4]; simp
  have e : tcancelM (resumeL s 300).ab (resumeL s 300).off 0 = (offWith s.ab s.off 0, (newOff s.ab s.off 0).map (fun (j : Nat) => (j : Int)), 0) := by
    unfold tcancelM
    show (if 0 ≤ (0 : Int) ∧ (0 : Int) < (s.ab.length : Int) then _ else _) = _
    rw [if_pos (by omega)]
    rfl
  have hget : ∀ k : Nat, k < O + 1 + m → toffM (offWith s.ab s.off 0) (k : Int) = comes s.ab 0 k := fun k hk => by
    have e2 : s.off.getD k false = false := by
      rw [h5, List.getD_eq_getElem?_getD, List.getElem?_replicate, if_pos hk]
      rfl
    unfold toffM
    rw [show ((k : Int)).toNat = k from rfl, offWith_get (by omega), e2]
    simp
  have hgd : ∀ x : Tk, gdB O x = true → toffM (offWith s.ab s.off 0) x.tok = false := fun x hx => by
    have hx' : 1 ≤ x.tok ∧ x.tok ≤ (O : Int) := of_decide_eq_true hx
    obtain ⟨k, hk⟩ := Int.eq_ofNat_of_zero_le (show 0 ≤ x.tok by omega)
    rw [hk, hget k (by omega)]
    refine comes_top ?_ (by omega)
    rw [h4, List.getElem?_append_left (by simp; omega), List.getElem?_replicate, if_pos (by omega)]
  have hoff : ∀ x : Tk, TokOk s.ab x.tok → x.tok = 0 ∨ (O : Int) < x.tok → toffM (offWith s.ab s.off 0) x.tok = true := fun x hx hc => by
    unfold TokOk at hx
    obtain ⟨k, hk⟩ := Int.eq_ofNat_of_zero_le (show 0 ≤ x.tok by omega)
    rw [hk, hget k (by omega)]
    by_cases hk0 : k = 0
    · subst hk0
      exact comes_zero s.ab 0
    · refine comes_under ?_
      rw [h4, List.getElem?_append_right (by simp; omega), List.getElem?_replicate, if_pos (by simp; omega)]
  have hg0 : gdB O ⟨5, 300, 0, s.token⟩ = false := decide_eq_false (show ¬ (1 ≤ s.token ∧ s.token ≤ (O : Int)) by rw [h6]; omega)
  have hlv : lvG O (cancelL (resumeL s 300) 0).1 = lvG O s := by
    show (s.mac ++ [(⟨5, 300, 0, s.token⟩ : Tk)]).countP (gdB O) + s.mic.countP (gdB O) = _
    rw [countP_snoc, hg0]
    simp [lvG, one]
  have hmm : ∀ x, Mem x (cancelL (resumeL s 300) 0).1 → Mem x s ∨ x = ⟨5, 300, 0, s.token⟩ := fun x hx => by
    rcases hx with hx | hx | hx
    · rcases List.mem_append.1 hx with hx | hx
      · exact .inl (.inl hx)
      · exact .inr (List.mem_singleton.1 hx)
    · exact .inl (.inr (.inl hx))
    · exact .inl (.inr (.inr hx))
  have ho : (cancelL (resumeL s 300) 0).1.off = offWith s.ab s.off 0 := by
    show (tcancelM _ _ _).1 = _
    rw [e]
  refine ⟨(cancelL (resumeL s 300) 0).1, ?_, ⟨h2, fun x hx hg => ?_, fun x hg => by rw [ho]; exact hgd x hg, fun x hx => ?_, ?_, by rw [hlv]; exact h9, by omega⟩, h1⟩
  · unfold cancelL
    rw [e]
  · rcases hmm x hx with hx | rfl
    · exact h3 x hx hg
    · rw [hg0] at hg
      cases hg
  · rw [ho]
    rcases hmm x hx with hx | rfl
    · rcases h7 x hx with h | h
      · exact .inl h
      · refine .inr (hoff x ?_ h)
        rcases hx with hx | hx | hx
        · exact hok.mac x hx
        · exact hok.mic x hx
        · exact hok.wai x hx
    · exact .inr (hoff _ hok.tok (.inl h6))
  · rw [hlv]
    exact h8
theorem PD.next (h : PD s O q seen j) : ∃ s', Same s s' ∧ ((nextL s = (s', none) ∧ s'.mac = [] ∧ s'.mic = [] ∧ PD s' O q seen j) ∨ ∃ t, nextL s = (s', some t) ∧ (100 ≤ t.fn ∧ t.fn ≤ 120) ∧ PD s' O q (seen + 1) (j + 1)) := by
  obtain ⟨h1, h2, h3, h4, h5, h6, h7⟩ := h
  have hg : ∀ x : Tk, toffM s.off x.tok = true → gdB O x = false := fun x hx => by
    cases e : gdB O x with
    | false => rfl
    | true =>
      rw [h3 x e] at hx
      cases hx
  obtain ⟨s', hs, ⟨e, n⟩ | ⟨t, e, n⟩⟩ := nextL_spec s
  · refine ⟨s', hs, .inl ⟨e, n.mac, n.mic, ?_⟩⟩
    have hw := wtG_same (O := O) hs q
    have h0 : lvG O s = 0 := by
      unfold lvG
      rw [countP_zero hg (fun x hx => n.offs x (.inl hx)), countP_zero hg (fun x hx => n.offs x (.inr hx))]
    have h0' : lvG O s' = 0 := by
      unfold lvG
      rw [n.mac, n.mic]
      rfl
    have hm : ∀ x, Mem x s' → Mem x s := fun x hx => by
      rcases hx with hx | hx | hx
      · rw [n.mac] at hx
        simp at hx
      · rw [n.mic] at hx
        simp at hx
      · exact .inr (.inr (by rw [← hs.wai]; exact hx))
    exact ⟨by rw [hs.L]; exact h1, fun x hx => h2 x (hm x hx), by rw [hs.off]; exact h3, fun x hx => by rw [hs.off]; exact h4 x (hm x hx), by omega, by omega, h7⟩
  · have hm : Mem t s := n.mem.elim .inl (fun h => .inr (.inl h))
    have hgt : gdB O t = true := (h4 t hm).resolve_right (fun h => by rw [n.live] at h; cases h)
    have hlv := nxt_lv (O := O) n hg
    have hw := wtG_same (O := O) hs q
    rw [hgt] at hlv
    simp [one] at hlv
    exact ⟨s', hs, .inr ⟨t, e, h2 t hm hgt, by rw [hs.L]; exact h1, fun x hx => h2 x (mem_same hs n hx), by rw [hs.off]; exact h3, fun x hx => by rw [hs.off]; exact h4 x (mem_same hs n hx), by omega, by omega, h7⟩⟩
end
theorem adv_all (O : Nat) {now : Int} (k : Nat) : ∀ s : Lp, s.L.length = k → LOk s → (∀ y ∈ s.L, y.1 ≤ now) →
    (advL k s now).L = [] ∧ (advL k s now).mic = s.mic ∧ (advL k s now).wai = s.wai ∧ (advL k s now).off = s.off ∧ (advL k s now).prs = s.prs ∧ (∀ x ∈ (advL k s now).mac, x ∈ s.mac ∨ x ∈ s.wai) ∧ (advL k s now).mac.countP (gdB O) = s.mac.countP (gdB O) + s.L.countP (fun y => gdB O (getL s y.2.2)) := by
  induction k with
  | zero =>
    intro s hl hok hd
    have hL : s.L = [] := List.eq_nil_of_length_eq_zero hl
    exact ⟨hL, rfl, rfl, rfl, rfl, fun x hx => .inl hx, by rw [hL]; rfl⟩
  | succ k ih =>
    intro s hl hok hd
    cases hf : firstM s.L with
    | none =>
      rw [firstM_none hf] at hl
      simp at hl
    | some m =>
      have hm := (firstM_of hf).1
      have hdm : dueM s.L now = (s.L.erase m, m.2.2, true) := by
        unfold dueM
        rw [hf]
        dsimp only
        rw [if_neg (by have := hd m hm; omega)]
      obtain ⟨hok', hit⟩ := hok.due hdm
      have hel := erase_len hm
      have e : advL (k + 1) s now = advL k { s with L := s.L.erase m, mac := s.mac ++ [getL s m.2.2] } now := by
        conv => lhs; unfold advL
        rw [hdm]
        rfl
      rw [e]
      obtain ⟨i1, i2, i3, i4, i5, i6, i7⟩ := ih { s with L := s.L.erase m, mac := s.mac ++ [getL s m.2.2] } (by show (s.L.erase m).length = k; omega) hok' (fun y hy => hd y (List.mem_of_mem_erase hy))
      refine ⟨i1, i2, i3, i4, i5, fun x hx => ?_, ?_⟩
      · rcases i6 x hx with h | h
        · rcases List.mem_append.1 h with h | h
          · exact .inl h
          · rw [List.mem_singleton.1 h]
            exact .inr (getL_mem hok hit)
        · exact .inr h
      · rw [i7]
        show (s.mac ++ [getL s m.2.2]).countP (gdB O) + (s.L.erase m).countP (fun y => gdB O (getL s y.2.2)) = _
        rw [countP_snoc, (List.perm_cons_erase hm).countP_eq, List.countP_cons]
        simp [one]
        omega
section
variable {s : Lp} {O seen j : Nat} {q : List Int}
theorem PD.adv (h : PD s O q seen j) (hok : LOk s) (hm : s.mac = []) (hc : s.mic = []) : PD (advL s.L.length s 3) O q seen 0 ∧ (advL s.L.length s 3).L = [] ∧ (advL s.L.length s 3).mic = [] ∧ (advL s.L.length s 3).prs = s.prs := by
  obtain ⟨h1, h2, h3, h4, h5, h6, h7⟩ := h
  obtain ⟨i1, i2, i3, i4, i5, i6, i7⟩ := adv_all O s.L.length s rfl hok (now := 3) (fun y hy => by rw [h1 y hy]; omega)
  generalize advL s.L.length s 3 = s' at *
  have hm' : ∀ x, Mem x s' → Mem x s := fun x hx => by
    rcases hx with hx | hx | hx
    · exact (i6 x hx).elim .inl (fun h => .inr (.inr h))
    · exact .inr (.inl (by rw [← i2]; exact hx))
    · exact .inr (.inr (by rw [← i3]; exact hx))
  have e1 : lvG O s' = s.L.countP (fun y => gdB O (getL s y.2.2)) := by
    unfold lvG
    rw [i7, i2, hm, hc]
    simp
  have e2 : wtG O s' q = q.countP (fun k => gdB O (getL s k)) := by
    unfold wtG getL
    rw [i1, i3]
    simp
  have e3 : lvG O s = 0 := by
    unfold lvG
    rw [hm, hc]
    rfl
  have e4 : wtG O s q = s.L.countP (fun y => gdB O (getL s y.2.2)) + q.countP (fun k => gdB O (getL s k)) := rfl
  exact ⟨⟨by rw [i1]; simp, fun x hx => h2 x (hm' x hx), by rw [i4]; exact h3, fun x hx => by rw [i4]; exact h4 x (hm' x hx), by omega, by omega, h7⟩, i1, by rw [i2, hc], i5⟩
theorem PD.settle (h : PD s O q seen 0) (hok : LOk s) (hp : s.prs = [⟨false, 0, q⟩]) : ∃ s', settleL s 0 1 = (s', 0) ∧ PD s' O [] seen 0 ∧ s'.L = s.L := by
  obtain ⟨h1, h2, h3, h4, h5, h6, h7⟩ := h
  have e : settleM s.prs 0 1 = ([⟨true, 1, []⟩], q, 0) := by rw [hp]; rfl
  have hre : ∀ j ∈ q, 0 ≤ j ∧ j < (s.wai.length : Int) := fun j hj => hok.reacts ⟨false, 0, q⟩ (by rw [hp]; simp) j hj
  have es : settleL s 0 1 = ({ s with prs := [⟨true, 1, []⟩], mic := s.mic ++ q.map fun k => withArg 1 (getL s k) }, 0) := by
    unfold settleL
    rw [e]
  have hmm : ∀ x, Mem x { s with prs := [⟨true, 1, []⟩], mic := s.mic ++ q.map fun k => withArg 1 (getL s k) } → ∃ y, Mem y s ∧ x.tok = y.tok ∧ x.fn = y.fn := fun x hx => by
    rcases hx with hx | hx | hx
    · exact ⟨x, .inl hx, rfl, rfl⟩
    · rcases List.mem_append.1 hx with hx | hx
      · exact ⟨x, .inr (.inl hx), rfl, rfl⟩
      · obtain ⟨k, hk, rfl⟩ := List.mem_map.1 hx
        exact ⟨getL s k, .inr (.inr (getL_mem hok (hre k hk))), rfl, rfl⟩
    · exact ⟨x, .inr (.inr hx), rfl, rfl⟩
  have hgt : ∀ x y : Tk, x.tok = y.tok → gdB O x = gdB O y := fun x y h => by unfold gdB; rw [h]
  have ec : (q.map fun k => withArg 1 (getL s k)).countP (gdB O) = q.countP (fun k => gdB O (getL s k)) := by
    rw [List.countP_map]
    rfl
  have e1 : lvG O { s with prs := [⟨true, 1, []⟩], mic := s.mic ++ q.map fun k => withArg 1 (getL s k) } = lvG O s + q.countP (fun k => gdB O (getL s k)) := by
    show s.mac.countP (gdB O) + (s.mic ++ _).countP (gdB O) = _
    rw [List.countP_append, ec]
    unfold lvG
    omega
  have e2 : wtG O { s with prs := [⟨true, 1, []⟩], mic := s.mic ++ q.map fun k => withArg 1 (getL s k) } [] = s.L.countP (fun y => gdB O (getL s y.2.2)) := rfl
  have e4 : wtG O s q = s.L.countP (fun y => gdB O (getL s y.2.2)) + q.countP (fun k => gdB O (getL s k)) := rfl
  refine ⟨_, es, ⟨h1, fun x hx hg => ?_, h3, fun x hx => ?_, by omega, by omega, by simp⟩, rfl⟩
  · obtain ⟨y, hy, ht, hf⟩ := hmm x hx
    rw [hf]
    exact h2 y hy (by rw [← hgt x y ht]; exact hg)
  · obtain ⟨y, hy, ht, hf⟩ := hmm x hx
    rcases h4 y hy with h | h
    · exact .inl (by rw [hgt x y ht]; exact h)
    · exact .inr (by show toffM s.off x.tok = true; rw [ht]; exact h)
theorem PD.done (h : PD s O [] seen j) (hm : s.mac = []) (hc : s.mic = []) (hL : s.L = []) : seen = O := by
  have := h.cnt
  have e1 : lvG O s = 0 := by
    unfold lvG
    rw [hm, hc]
    rfl
  have e2 : wtG O s [] = 0 := by
    unfold wtG
    rw [hL]
    rfl
  omega
end
end Go.Proofs.Ytipbimbnpikbcaa
