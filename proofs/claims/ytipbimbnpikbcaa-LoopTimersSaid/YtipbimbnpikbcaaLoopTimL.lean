/- LoopTimers: a loop at which timers alone wait. No program in sight. -/
import Derived.Test.YtipbimbnpikbcaaLoopAdvW
import Derived.Test.YtipbimbnpikbcaaTimPlain
import Derived.Test.YtipbimbnpikbcaaBools
namespace Go.Proofs.Ytipbimbnpikbcaa

def tkT (i : Nat) : Tk := ⟨3, (i : Int), 0, (i : Int)⟩
def trT (D : Nat → Nat) (i : Nat) : Tm := ((D i : Int), (i : Int), (i : Int))
/-- Timers are put, and called off. -/
structure T1 (s : Lp) (D : Nat → Nat) (g : List Bool) (i : Nat) : Prop where
  tok : s.token = -1
  mac : s.mac = []
  mic : s.mic = []
  wai : s.wai = (List.range i).map tkT
  L : s.L = (List.range i).map (trT D)
  n : s.n = i
  ab : s.ab = List.replicate i (-1)
  off : s.off = g
theorem T1.new (D : Nat → Nat) : T1 (newL 1) D [] 0 := ⟨rfl, rfl, rfl, rfl, rfl, rfl, rfl, rfl⟩
theorem T1.after {s : Lp} {D : Nat → Nat} {g : List Bool} {i : Nat} (h : T1 s D g i) (hi : i < 60) : ∃ s', afterL s (D i : Int) (i : Int) = (s', i, 0) ∧ T1 s' D (g ++ [false]) (i + 1) := by
  have e1 : s.ab.length = i := by rw [h.ab, List.length_replicate]
  have e2 : s.L.length = i := by rw [h.L, List.length_map, List.length_range]
  have e3 : s.wai.length = i := by rw [h.wai, List.length_map, List.length_range]
  refine ⟨putL (waiL (moreL s) ⟨3, (i : Int), 0, s.ab.length⟩) (D i : Int), ?_, h.tok, h.mac, h.mic, ?_, ?_, ?_, ?_, ?_⟩
  · unfold afterL
    rw [if_neg (by omega), if_neg (by omega), e1]
  · simp [putL, waiL, moreL, h.wai, List.range_succ, tkT, h.ab]
  · simp [putL, waiL, moreL, h.L, h.n, e3, List.range_succ, trT]
  · simp [putL, waiL, moreL, h.n]
  · simp [putL, waiL, moreL, h.ab, h.tok, List.replicate_succ']
  · simp [putL, waiL, moreL, h.off, h.tok, toffM]
theorem up_rep (i j : Nat) : up (List.replicate i (-1)) j = none := by
  unfold up
  rw [List.getElem?_replicate]
  split <;> rename_i h
  · split at h
    · injection h with h
      subst h
      simp
    · cases h
  · rfl
theorem comes_rep (i c j : Nat) : comes (List.replicate i (-1)) c j = (j == c) := by
  unfold comes
  cases j with
  | zero => rfl
  | succ j =>
    unfold comesB
    rw [up_rep]
    simp
theorem T1.cancel {s : Lp} {D : Nat → Nat} {g : List Bool} {i : Nat} (h : T1 s D (g ++ [false]) (i + 1)) (hg : g.length = i) : ∃ s', cancelL s (i : Int) = (s', 0) ∧ T1 s' D (g ++ [true]) (i + 1) := by
  have e1 : s.ab.length = i + 1 := by rw [h.ab, List.length_replicate]
  have e : tcancelM s.ab s.off (i : Int) = (offWith s.ab s.off i, (newOff s.ab s.off i).map (fun (j : Nat) => (j : Int)), 0) := by
    unfold tcancelM
    rw [if_pos (by omega)]
    rfl
  refine ⟨(cancelL s (i : Int)).1, ?_, h.tok, h.mac, h.mic, h.wai, h.L, h.n, h.ab, ?_⟩
  · unfold cancelL
    rw [e]
  · unfold cancelL
    rw [e]
    show offWith s.ab s.off i = _
    unfold offWith
    rw [e1, h.ab, h.off]
    refine List.ext_getElem? fun j => ?_
    rw [List.getElem?_map, List.getElem?_append]
    by_cases hj : j < i
    · rw [if_pos (by omega), List.getElem?_range (by omega)]
      simp only [Option.map_some, comes_rep, List.getD_eq_getElem?_getD, List.getElem?_append]
      rw [if_pos (by omega), List.getElem?_eq_getElem (by omega)]
      simp
      omega
    · rw [if_neg (by omega)]
      by_cases hj2 : j = i
      · subst hj2
        rw [List.getElem?_range (by omega)]
        simp [comes_rep, hg]
      · rw [List.getElem?_eq_none (by simp; omega), List.getElem?_eq_none (by simp; omega)]
        rfl
/-- cur is what the time was at last (-1: it did not go on yet); M is due and not yet told. -/
structure T2 (s : Lp) (D : Nat → Nat) (n : Nat) (g : List Bool) (M : List Nat) (cur : Int) : Prop where
  mic : s.mic = []
  wai : s.wai = (List.range n).map tkT
  off : s.off = g
  mac : s.mac = M.map tkT
  sub : ∀ y ∈ s.L, ∃ i, i < n ∧ y = trT D i ∧ cur < D i
  all : ∀ i, i < n → cur < D i → trT D i ∈ s.L
  len : M.length + s.L.length ≤ n
theorem T1.two {s : Lp} {D : Nat → Nat} {g : List Bool} {n : Nat} (h : T1 s D g n) : T2 s D n g [] (-1) := by
  refine ⟨h.mic, h.wai, h.off, h.mac, fun y hy => ?_, fun i hi _ => ?_, ?_⟩
  · rw [h.L] at hy
    obtain ⟨i, hi, rfl⟩ := List.mem_map.1 hy
    exact ⟨i, by simpa using hi, rfl, by omega⟩
  · rw [h.L]
    exact List.mem_map.2 ⟨i, by simpa using hi, rfl⟩
  · rw [h.L]
    simp
def ltT (D : Nat → Nat) (i j : Nat) : Prop := D i < D j ∨ (D i = D j ∧ i < j)
theorem ltT_of {D : Nat → Nat} {i j : Nat} (h : Tlt (trT D i) (trT D j)) : ltT D i j := by
  unfold Tlt trT at h
  unfold ltT
  dsimp only at h
  omega
theorem dueM_split' (L : List Tm) (now : Int) : ((dueM L now).2.2 = false ∧ ∀ y ∈ L, now < y.1) ∨ ∃ m, firstM L = some m ∧ m.1 ≤ now ∧ dueM L now = (L.erase m, m.2.2, true) := by
  unfold dueM
  cases e : firstM L with
  | none =>
    have := firstM_none e
    subst this
    exact .inl ⟨rfl, fun y hy => by simp at hy⟩
  | some m =>
    dsimp only
    by_cases h : now < m.1
    · rw [if_pos h]
      refine .inl ⟨rfl, fun y hy => ?_⟩
      have := (firstM_of e).2 y hy
      unfold Tlt at this
      omega
    · rw [if_neg h]
      exact .inr ⟨m, rfl, by omega, rfl⟩
/-- While it goes on. -/
structure AI (s : Lp) (D : Nat → Nat) (n : Nat) (g : List Bool) (M : List Nat) (cur now : Int) : Prop where
  mic : s.mic = []
  wai : s.wai = (List.range n).map tkT
  off : s.off = g
  mac : s.mac = M.map tkT
  row : RowOk s.L s.n
  sub : ∀ y ∈ s.L, ∃ i, i < n ∧ y = trT D i ∧ cur < D i
  all : ∀ i, i < n → cur < D i → i ∈ M ∨ trT D i ∈ s.L
  len : M.length + s.L.length ≤ n
  srt : M.Pairwise (ltT D)
  mem : ∀ i ∈ M, i < n ∧ cur < D i ∧ (D i : Int) ≤ now
  ahead : ∀ i ∈ M, ∀ y ∈ s.L, Tlt (trT D i) y
theorem adv_aux {D : Nat → Nat} {n : Nat} {g : List Bool} {cur now : Int} (hc : cur ≤ now) (k : Nat) : ∀ (s : Lp) (M : List Nat), s.L.length = k → AI s D n g M cur now → ∃ M', T2 (advL k s now) D n g M' now ∧ M'.Pairwise (ltT D) ∧ (∀ i ∈ M', i < n ∧ cur < D i ∧ (D i : Int) ≤ now) ∧ ∀ i, i < n → cur < D i → (D i : Int) ≤ now → i ∈ M' := by
  induction k with
  | zero =>
    intro s M hl h
    have hL : s.L = [] := List.eq_nil_of_length_eq_zero hl
    refine ⟨M, ⟨h.mic, h.wai, h.off, h.mac, fun y hy => ?_, fun i hi hn => ?_, h.len⟩, h.srt, h.mem, fun i hi h1 h2 => ?_⟩
    · unfold advL at hy
      rw [hL] at hy
      simp at hy
    · rcases h.all i hi (by omega) with h1 | h1
      · have := (h.mem i h1).2.2
        omega
      · rw [hL] at h1
        simp at h1
    · rcases h.all i hi h1 with h3 | h3
      · exact h3
      · rw [hL] at h3
        simp at h3
  | succ k ih =>
    intro s M hl h
    rcases dueM_split' s.L now with e | ⟨m, hm, hle, e⟩
    · have e2 : advL (k + 1) s now = s := by
        unfold advL
        rw [e.1]
        rfl
      rw [e2]
      refine ⟨M, ⟨h.mic, h.wai, h.off, h.mac, fun y hy => ?_, fun i hi hn => ?_, h.len⟩, h.srt, h.mem, fun i hi h1 h2 => ?_⟩
      · obtain ⟨i, hi, rfl, _⟩ := h.sub y hy
        have := e.2 _ hy
        unfold trT at this
        exact ⟨i, hi, rfl, this⟩
      · rcases h.all i hi (by omega) with h1 | h1
        · have := (h.mem i h1).2.2
          omega
        · exact h1
      · rcases h.all i hi h1 with h3 | h3
        · exact h3
        · have := e.2 _ h3
          unfold trT at this
          dsimp only at this
          omega
    · have hfo := firstM_of hm
      obtain ⟨i, hi, rfl, hci⟩ := h.sub m hfo.1
      have hle' : (D i : Int) ≤ now := hle
      have hg : getL s (i : Int) = tkT i := by
        unfold getL
        rw [h.wai]
        simp [List.getD_eq_getElem?_getD, hi]
      have e2 : advL (k + 1) s now = advL k { s with L := s.L.erase (trT D i), mac := s.mac ++ [tkT i] } now := by
        conv => lhs; unfold advL
        rw [e]
        dsimp only
        rw [if_pos rfl, show (trT D i).2.2 = (i : Int) from rfl, hg]
      rw [e2]
      have hel := erase_len hfo.1
      refine ih _ (M ++ [i]) (by show (s.L.erase _).length = k; omega) ⟨h.mic, h.wai, h.off, by simp [h.mac], h.row.erase _, fun y hy => h.sub y (h.row.mem_erase _ hy).2, fun j hj hcj => ?_, ?_, ?_, ?_, ?_⟩
      · rcases h.all j hj hcj with h1 | h1
        · exact .inl (List.mem_append_left _ h1)
        · by_cases hji : j = i
          · subst hji
            exact .inl (by simp)
          · refine .inr (h.row.nodup.mem_erase_iff.2 ⟨fun he => hji ?_, h1⟩)
            have : ((j : Int)) = (i : Int) := congrArg (fun t => t.2.1) he
            omega
      · have := h.len
        simp only [List.length_append, List.length_cons, List.length_nil]
        omega
      · refine List.pairwise_append.2 ⟨h.srt, List.pairwise_singleton _ _, fun a ha b hb => ?_⟩
        rw [List.mem_singleton.1 hb]
        exact ltT_of (h.ahead a ha _ hfo.1)
      · intro j hj
        rcases List.mem_append.1 hj with hj | hj
        · exact h.mem j hj
        · rw [List.mem_singleton.1 hj]
          exact ⟨hi, hci, hle'⟩
      · intro j hj y hy
        rcases List.mem_append.1 hj with hj | hj
        · exact h.ahead j hj y (h.row.mem_erase _ hy).2
        · rw [List.mem_singleton.1 hj]
          exact h.row.ahead hfo hy
theorem T2.adv {s : Lp} {D : Nat → Nat} {n : Nat} {g : List Bool} {cur now : Int} (h : T2 s D n g [] cur) (hok : LOk s) (hc : cur ≤ now) : ∃ M, T2 (advL s.L.length s now) D n g M now ∧ M.Pairwise (ltT D) ∧ (∀ i ∈ M, i < n ∧ cur < D i ∧ (D i : Int) ≤ now) ∧ ∀ i, i < n → cur < D i → (D i : Int) ≤ now → i ∈ M :=
  adv_aux hc s.L.length s [] rfl ⟨h.mic, h.wai, h.off, h.mac, hok.row, h.sub, fun i hi hd => .inr (h.all i hi hd), h.len, List.Pairwise.nil, fun i hi => by simp at hi, fun i hi => by simp at hi⟩
theorem take_tkT (g : List Bool) (M : List Nat) : (takeM g (M.map tkT) = (none, []) ∧ ∀ i ∈ M, g.getD i false = true) ∨ ∃ A i B, M = A ++ i :: B ∧ takeM g (M.map tkT) = (some (tkT i), B.map tkT) ∧ g.getD i false = false ∧ ∀ j ∈ A, g.getD j false = true := by
  induction M with
  | nil => exact .inl ⟨rfl, fun i hi => by simp at hi⟩
  | cons x M ih =>
    have e : toffM g (tkT x).tok = g.getD x false := by simp [toffM, tkT]
    simp only [List.map_cons, takeM, e]
    cases hx : g.getD x false with
    | true =>
      rw [if_pos rfl]
      rcases ih with ⟨h1, h2⟩ | ⟨A, i, B, h1, h2, h3, h4⟩
      · refine .inl ⟨h1, fun i hi => ?_⟩
        rcases List.mem_cons.1 hi with rfl | hi
        · exact hx
        · exact h2 i hi
      · refine .inr ⟨x :: A, i, B, by rw [h1]; rfl, h2, h3, fun j hj => ?_⟩
        rcases List.mem_cons.1 hj with rfl | hj
        · exact hx
        · exact h4 j hj
    | false =>
      rw [if_neg (by simp)]
      exact .inr ⟨[], x, M, rfl, rfl, hx, fun j hj => by simp at hj⟩
theorem T2.next {s : Lp} {D : Nat → Nat} {n : Nat} {g : List Bool} {M : List Nat} {cur : Int} (h : T2 s D n g M cur) :
    (∃ s', nextL s = (s', none) ∧ T2 s' D n g [] cur ∧ ∀ i ∈ M, g.getD i false = true) ∨ ∃ s' A i B, nextL s = (s', some (tkT i)) ∧ T2 s' D n g B cur ∧ M = A ++ i :: B ∧ g.getD i false = false ∧ ∀ j ∈ A, g.getD j false = true := by
  obtain ⟨h1, h2, h3, h4, h5, h6, h7⟩ := h
  obtain ⟨bud, told, token, mac, mic, wai, L, nn, prs, ab, off, str⟩ := s
  dsimp only at h1 h2 h3 h4 h5 h6 h7
  subst h1 h3 h4
  have e0 : (if told < bud then takeM off [] else ((none : Option Tk), ([] : List Tk))) = (none, []) := by split <;> rfl
  rcases take_tkT off M with ⟨k1, k2⟩ | ⟨A, i, B, k1, k2, k3, k4⟩
  · refine .inl ⟨⟨bud, 0, token, [], [], wai, L, nn, prs, ab, off, str⟩, ?_, ⟨rfl, h2, rfl, rfl, h5, h6, by simp; omega⟩, k2⟩
    unfold nextL
    dsimp only
    rw [e0]
    dsimp only
    rw [k1]
    rfl
  · refine .inr ⟨⟨bud, 0, (i : Int), B.map tkT, [], wai, L, nn, prs, ab, off, str⟩, A, i, B, ?_, ⟨rfl, h2, rfl, rfl, h5, h6, ?_⟩, k1, k3, k4⟩
    · unfold nextL
      dsimp only
      rw [e0]
      dsimp only
      rw [k2]
      rfl
    · rw [k1] at h7
      simp at h7 ⊢
      omega
/-- While those that are due are told: the program's own row says who was. -/
structure InI (D : Nat → Nat) (n : Nat) (g : List Bool) (M : List Nat) (now : Int) (tl : List Bool) (last : Int) : Prop where
  len : tl.length = n
  srt : M.Pairwise (ltT D)
  mem : ∀ i ∈ M, i < n ∧ (D i : Int) ≤ now
  ahead : last = -1 ∨ ∃ k : Nat, last = k ∧ k < n ∧ ∀ i ∈ M, ltT D k i
  told : ∀ i, i < n → (tl.getD i false = true ↔ g.getD i false = false ∧ (D i : Int) ≤ now ∧ i ∉ M)
/-- What was told is as it should be. -/
def ToldT (D : Nat → Nat) (n : Nat) (g : List Bool) (cur : Int) (tl : List Bool) : Prop := tl.length = n ∧ ∀ i, i < n → (tl.getD i false = true ↔ g.getD i false = false ∧ (D i : Int) ≤ cur)
theorem InI.start {D : Nat → Nat} {n : Nat} {g : List Bool} {M : List Nat} {cur now : Int} {tl : List Bool} (h : ToldT D n g cur tl) (hc : cur ≤ now) (h1 : M.Pairwise (ltT D)) (h2 : ∀ i ∈ M, i < n ∧ cur < D i ∧ (D i : Int) ≤ now) (h3 : ∀ i, i < n → cur < D i → (D i : Int) ≤ now → i ∈ M) : InI D n g M now tl (-1) := by
  refine ⟨h.1, h1, fun i hi => ⟨(h2 i hi).1, (h2 i hi).2.2⟩, .inl rfl, fun i hi => ?_⟩
  rw [h.2 i hi]
  constructor
  · rintro ⟨a, b⟩
    refine ⟨a, by omega, fun hm => ?_⟩
    have := (h2 i hm).2.1
    omega
  · rintro ⟨a, b, c⟩
    refine ⟨a, ?_⟩
    apply Classical.byContradiction
    intro hn
    exact c (h3 i hi (by omega) b)
theorem InI.done {D : Nat → Nat} {n : Nat} {g : List Bool} {M : List Nat} {now : Int} {tl : List Bool} {last : Int} (h : InI D n g M now tl last) (hg : ∀ i ∈ M, g.getD i false = true) : ToldT D n g now tl := by
  refine ⟨h.len, fun i hi => ?_⟩
  rw [h.told i hi]
  constructor
  · rintro ⟨a, b, _⟩
    exact ⟨a, b⟩
  · rintro ⟨a, b⟩
    refine ⟨a, b, fun hm => ?_⟩
    rw [hg i hm] at a
    cases a
theorem ltT_irrefl (D : Nat → Nat) (i : Nat) : ¬ ltT D i i := by
  unfold ltT
  omega
theorem InI.step {D : Nat → Nat} {n : Nat} {g : List Bool} {A B : List Nat} {i : Nat} {now : Int} {tl : List Bool} {last : Int} (h : InI D n g (A ++ i :: B) now tl last) (hg : g.getD i false = false) (hA : ∀ j ∈ A, g.getD j false = true) :
    i < n ∧ (D i : Int) ≤ now ∧ tl.getD i false = false ∧ (last = -1 ∨ ∃ k : Nat, last = k ∧ k < n ∧ ltT D k i) ∧ InI D n g B now (tl.set i true) i := by
  have hm : i ∈ A ++ i :: B := by simp
  obtain ⟨hi, hd⟩ := h.mem i hm
  have hp := List.pairwise_append.1 h.srt
  have hp2 := List.pairwise_cons.1 hp.2.1
  refine ⟨hi, hd, ?_, h.ahead.imp_right (fun ⟨k, e, hk, hl⟩ => ⟨k, e, hk, hl i hm⟩), by rw [List.length_set]; exact h.len, hp2.2, fun j hj => h.mem j (by simp [hj]), .inr ⟨i, rfl, hi, hp2.1⟩, fun j hj => ?_⟩
  · cases ht : tl.getD i false with
    | false => rfl
    | true => exact absurd hm ((h.told i hi).1 ht).2.2
  · rw [bools_set_get _ _ _ _ (by rw [h.len]; exact hj)]
    by_cases e : j = i
    · subst e
      rw [if_pos rfl]
      refine ⟨fun _ => ⟨hg, hd, fun hb => ltT_irrefl D j (hp2.1 j hb)⟩, fun _ => rfl⟩
    · rw [if_neg e, h.told j hj]
      constructor
      · rintro ⟨a, b, c⟩
        exact ⟨a, b, fun hb => c (by simp [hb])⟩
      · rintro ⟨a, b, c⟩
        refine ⟨a, b, fun hb => ?_⟩
        rcases List.mem_append.1 hb with hb | hb
        · rw [hA j hb] at a
          cases a
        · rcases List.mem_cons.1 hb with hb | hb
          · exact e hb
          · exact c hb
end Go.Proofs.Ytipbimbnpikbcaa
