/- LoopOff: what is asked for within a task is called off with it. No program in sight. -/
import Derived.Test.YtipbimbnpikbcaaLoopM
import Derived.Test.YtipbimbnpikbcaaTimPlain
namespace Go.Proofs.Ytipbimbnpikbcaa

/-- Is a task asked for outside (its token is 1 .. O)? -/
def gdB (O : Nat) (t : Tk) : Bool := decide (1 ≤ t.tok ∧ t.tok ≤ (O : Int))
def Mem (x : Tk) (s : Lp) : Prop := x ∈ s.mac ∨ x ∈ s.mic ∨ x ∈ s.wai
def lvG (O : Nat) (s : Lp) : Nat := s.mac.countP (gdB O) + s.mic.countP (gdB O)
def wtG (O : Nat) (s : Lp) (q : List Int) : Nat := s.L.countP (fun y => gdB O (getL s y.2.2)) + q.countP (fun k => gdB O (getL s k))
def askL (s : Lp) (k : Nat) (fn : Int) : Lp × Nat × Nat := if k = 0 then spawnL s fn else if k = 1 then microL s fn else if k = 2 then afterL s 3 fn else thenL s 0 fn
def one (b : Bool) : Nat := if b then 1 else 0
theorem countP_snoc {α : Type} (p : α → Bool) (l : List α) (x : α) : (l ++ [x]).countP p = l.countP p + one (p x) := by simp [List.countP_append, List.countP_cons, one]
theorem getL_wai (s : Lp) (x : Tk) {k : Int} (hk : 0 ≤ k ∧ k < (s.wai.length : Int)) : (s.wai ++ [x]).getD k.toNat tk0 = s.wai.getD k.toNat tk0 := by
  rw [List.getD_eq_getElem?_getD, List.getD_eq_getElem?_getD, List.getElem?_append_left (by omega)]
theorem getL_last (s : Lp) (x : Tk) : (s.wai ++ [x]).getD s.wai.length tk0 = x := by simp [List.getD_eq_getElem?_getD]
theorem countP_same {α : Type} {p q : α → Bool} {l : List α} (h : ∀ x ∈ l, p x = q x) : l.countP p = l.countP q := List.countP_congr fun x hx => by rw [h x hx]
/-- What an ask made of the loop. -/
structure Asked (O : Nat) (s : Lp) (q : List Int) (fn : Int) (s' : Lp) (q' : List Int) (t : Tk) : Prop where
  prs : s'.prs = [⟨false, 0, q'⟩]
  tfn : t.fn = fn
  ttok : t.tok = s.ab.length
  ab : s'.ab = s.ab ++ [s.token]
  off : s'.off = s.off ++ [toffM s.off s.token]
  tok : s'.token = s.token
  ql : q'.length ≤ q.length + 1
  Ll : s'.L.length ≤ s.L.length + 1
  due : ∀ y ∈ s'.L, y ∈ s.L ∨ y.1 = 3
  mem : ∀ x, Mem x s' → Mem x s ∨ x = t
  cnt : lvG O s' + wtG O s' q' = lvG O s + wtG O s q + one (gdB O t)
  lv : gdB O t = false → lvG O s' = lvG O s
  len : s'.mac.length + s'.mic.length ≤ s.mac.length + s.mic.length + 1
  keep : ∀ x ∈ s.mac, x ∈ s'.mac
theorem ask_spec {s : Lp} {q : List Int} (hok : LOk s) (hp : s.prs = [⟨false, 0, q⟩]) (hab : s.ab.length < 1024) (hL : s.L.length < 64) (hq : q.length < 256) (O k : Nat) (fn : Int) :
    ∃ s' y q' t, askL s k fn = (s', y, 0) ∧ Asked O s q fn s' q' t := by
  have hit := hok.items
  have hre : ∀ j ∈ q, 0 ≤ j ∧ j < (s.wai.length : Int) := fun j hj => hok.reacts ⟨false, 0, q⟩ (by rw [hp]; simp) j hj
  unfold askL
  by_cases k0 : k = 0
  · rw [if_pos k0]
    refine ⟨macL (moreL s) ⟨1, fn, 0, s.ab.length⟩, s.ab.length, q, ⟨1, fn, 0, s.ab.length⟩, ?_, hp, rfl, rfl, rfl, rfl, rfl, Nat.le_succ _, Nat.le_succ _, fun y hy => .inl hy, fun x hx => ?_, ?_, fun h => ?_, ?_, fun x hx => List.mem_append_left _ hx⟩
    · unfold spawnL
      rw [if_neg (by omega)]
    · rcases hx with hx | hx | hx
      · rcases List.mem_append.1 hx with hx | hx
        · exact .inl (.inl hx)
        · exact .inr (List.mem_singleton.1 hx)
      · exact .inl (.inr (.inl hx))
      · exact .inl (.inr (.inr hx))
    · show (s.mac ++ [_]).countP (gdB O) + s.mic.countP (gdB O) + wtG O s q = _
      rw [countP_snoc]
      simp only [lvG]
      omega
    · show (s.mac ++ [_]).countP (gdB O) + s.mic.countP (gdB O) = _
      rw [countP_snoc, h]
      simp [lvG, one]
    · simp [macL, moreL]
      omega
  · rw [if_neg k0]
    by_cases k1 : k = 1
    · rw [if_pos k1]
      refine ⟨micL (moreL s) ⟨2, fn, 0, s.ab.length⟩, s.ab.length, q, ⟨2, fn, 0, s.ab.length⟩, ?_, hp, rfl, rfl, rfl, rfl, rfl, Nat.le_succ _, Nat.le_succ _, fun y hy => .inl hy, fun x hx => ?_, ?_, fun h => ?_, ?_, fun x hx => hx⟩
      · unfold microL
        rw [if_neg (by omega)]
      · rcases hx with hx | hx | hx
        · exact .inl (.inl hx)
        · rcases List.mem_append.1 hx with hx | hx
          · exact .inl (.inr (.inl hx))
          · exact .inr (List.mem_singleton.1 hx)
        · exact .inl (.inr (.inr hx))
      · show s.mac.countP (gdB O) + (s.mic ++ [_]).countP (gdB O) + wtG O s q = _
        rw [countP_snoc]
        simp only [lvG]
        omega
      · show s.mac.countP (gdB O) + (s.mic ++ [_]).countP (gdB O) = _
        rw [countP_snoc, h]
        simp [lvG, one]
      · simp [micL, moreL]
        omega
    · rw [if_neg k1]
      by_cases k2 : k = 2
      · rw [if_pos k2]
        refine ⟨putL (waiL (moreL s) ⟨3, fn, 0, s.ab.length⟩) 3, s.ab.length, q, ⟨3, fn, 0, s.ab.length⟩, ?_, hp, rfl, rfl, rfl, rfl, rfl, Nat.le_succ _, ?_, fun y hy => ?_, fun x hx => ?_, ?_, fun _ => rfl, Nat.le_succ _, fun x hx => hx⟩
        · unfold afterL
          rw [if_neg (by omega), if_neg (by omega)]
        · simp [putL, waiL, moreL]
        · rcases List.mem_append.1 hy with hy | hy
          · exact .inl hy
          · rw [List.mem_singleton.1 hy]
            exact .inr rfl
        · rcases hx with hx | hx | hx
          · exact .inl (.inl hx)
          · exact .inl (.inr (.inl hx))
          · rcases List.mem_append.1 hx with hx | hx
            · exact .inl (.inr (.inr hx))
            · exact .inr (List.mem_singleton.1 hx)
        · have e1 : (s.L ++ [((3 : Int), s.n, (((s.wai ++ [(⟨3, fn, 0, s.ab.length⟩ : Tk)]).length : Int) - 1))]).countP (fun y => gdB O ((s.wai ++ [(⟨3, fn, 0, s.ab.length⟩ : Tk)]).getD y.2.2.toNat tk0)) = s.L.countP (fun y => gdB O (getL s y.2.2)) + one (gdB O ⟨3, fn, 0, s.ab.length⟩) := by
            rw [countP_snoc]
            congr 1
            · exact countP_same fun y hy => by rw [getL_wai s _ (hit y hy)]; rfl
            · have : ((((s.wai ++ [(⟨3, fn, 0, s.ab.length⟩ : Tk)]).length : Int) - 1)).toNat = s.wai.length := by simp
              dsimp only
              rw [this, getL_last]
          have e2 : q.countP (fun k => gdB O ((s.wai ++ [(⟨3, fn, 0, s.ab.length⟩ : Tk)]).getD k.toNat tk0)) = q.countP (fun k => gdB O (getL s k)) := countP_same fun y hy => by rw [getL_wai s _ (hre y hy)]; rfl
          show lvG O s + ((s.L ++ [((3 : Int), s.n, (((s.wai ++ [(⟨3, fn, 0, s.ab.length⟩ : Tk)]).length : Int) - 1))]).countP (fun y => gdB O ((s.wai ++ [(⟨3, fn, 0, s.ab.length⟩ : Tk)]).getD y.2.2.toNat tk0)) + q.countP (fun k => gdB O ((s.wai ++ [(⟨3, fn, 0, s.ab.length⟩ : Tk)]).getD k.toNat tk0))) = _
          rw [e1, e2]
          unfold wtG
          omega
      · rw [if_neg k2]
        have e0 : prOf s.prs 0 = some ⟨false, 0, q⟩ := by rw [hp]; rfl
        have e1 : valueM s.prs 0 = (0, false, 0) := by unfold valueM; rw [e0]
        have e2 : waitsM s.prs 0 = q.length := by unfold waitsM; rw [e0]
        have e3 : (thenM s.prs 0 (s.wai.length : Int)).1 = [⟨false, 0, q ++ [(s.wai.length : Int)]⟩] := by
          unfold thenM
          rw [e0]
          dsimp only
          rw [if_neg (by simp), if_pos hq, hp]
          rfl
        refine ⟨{ waiL (moreL s) ⟨4, fn, 0, s.ab.length⟩ with prs := (thenM s.prs 0 s.wai.length).1 }, s.ab.length, q ++ [(s.wai.length : Int)], ⟨4, fn, 0, s.ab.length⟩, ?_, e3, rfl, rfl, rfl, rfl, rfl, by simp, Nat.le_succ _, fun y hy => .inl hy, fun x hx => ?_, ?_, fun _ => rfl, Nat.le_succ _, fun x hx => hx⟩
        · unfold thenL
          rw [e1, e2]
          dsimp only
          rw [if_neg (by simp), if_neg (by omega), if_neg (by omega), if_neg (by simp)]
        · rcases hx with hx | hx | hx
          · exact .inl (.inl hx)
          · exact .inl (.inr (.inl hx))
          · rcases List.mem_append.1 hx with hx | hx
            · exact .inl (.inr (.inr hx))
            · exact .inr (List.mem_singleton.1 hx)
        · have e4 : s.L.countP (fun y => gdB O ((s.wai ++ [(⟨4, fn, 0, s.ab.length⟩ : Tk)]).getD y.2.2.toNat tk0)) = s.L.countP (fun y => gdB O (getL s y.2.2)) := countP_same fun y hy => by rw [getL_wai s _ (hit y hy)]; rfl
          have e5 : (q ++ [(s.wai.length : Int)]).countP (fun k => gdB O ((s.wai ++ [(⟨4, fn, 0, s.ab.length⟩ : Tk)]).getD k.toNat tk0)) = q.countP (fun k => gdB O (getL s k)) + one (gdB O ⟨4, fn, 0, s.ab.length⟩) := by
            rw [countP_snoc]
            congr 1
            · exact countP_same fun y hy => by rw [getL_wai s _ (hre y hy)]; rfl
            · rw [show ((s.wai.length : Int)).toNat = s.wai.length from rfl, getL_last]
          show lvG O s + (s.L.countP (fun y => gdB O ((s.wai ++ [(⟨4, fn, 0, s.ab.length⟩ : Tk)]).getD y.2.2.toNat tk0)) + (q ++ [(s.wai.length : Int)]).countP (fun k => gdB O ((s.wai ++ [(⟨4, fn, 0, s.ab.length⟩ : Tk)]).getD k.toNat tk0))) = _
          rw [e4, e5]
          unfold wtG
          omega
theorem takeM_spec (off : List Bool) (l : List Tk) : (takeM off l = (none, []) ∧ ∀ x ∈ l, toffM off x.tok = true) ∨ ∃ A t B, l = A ++ t :: B ∧ takeM off l = (some t, B) ∧ toffM off t.tok = false ∧ ∀ x ∈ A, toffM off x.tok = true := by
  induction l with
  | nil => exact .inl ⟨rfl, fun x hx => by simp at hx⟩
  | cons y l ih =>
    cases e : toffM off y.tok with
    | true =>
      have eq : takeM off (y :: l) = takeM off l := by conv => lhs; unfold takeM; rw [if_pos e]
      rcases ih with ⟨h1, h2⟩ | ⟨A, t, B, h1, h2, h3, h4⟩
      · refine .inl ⟨eq.trans h1, fun x hx => ?_⟩
        rcases List.mem_cons.1 hx with rfl | hx
        · exact e
        · exact h2 x hx
      · refine .inr ⟨y :: A, t, B, by rw [h1]; rfl, eq.trans h2, h3, fun x hx => ?_⟩
        rcases List.mem_cons.1 hx with rfl | hx
        · exact e
        · exact h4 x hx
    | false => exact .inr ⟨[], y, l, rfl, by unfold takeM; rw [if_neg (by rw [e]; simp)], e, fun x hx => by simp at hx⟩
/-- What Next made of the loop. -/
structure Nxt (s s' : Lp) (t : Tk) : Prop where
  live : toffM s.off t.tok = false
  tok : s'.token = t.tok
  mac : ∀ x ∈ s'.mac, x ∈ s.mac
  mic : ∀ x ∈ s'.mic, x ∈ s.mic
  mem : t ∈ s.mac ∨ t ∈ s.mic
  cnt : ∀ g : Tk → Bool, (∀ x, toffM s.off x.tok = true → g x = false) → s.mac.countP g + s.mic.countP g = s'.mac.countP g + s'.mic.countP g + one (g t)
  keep : ∀ x ∈ s.mac, toffM s.off x.tok = false → x = t ∨ x ∈ s'.mac
structure NxtNo (s s' : Lp) : Prop where
  mac : s'.mac = []
  mic : s'.mic = []
  offs : ∀ x, x ∈ s.mac ∨ x ∈ s.mic → toffM s.off x.tok = true
structure Same (s s' : Lp) : Prop where
  wai : s'.wai = s.wai
  L : s'.L = s.L
  prs : s'.prs = s.prs
  ab : s'.ab = s.ab
  off : s'.off = s.off
theorem countP_zero {off : List Bool} {g : Tk → Bool} (hg : ∀ x : Tk, toffM off x.tok = true → g x = false) {A : List Tk} (hA : ∀ x ∈ A, toffM off x.tok = true) : A.countP g = 0 := by
  rw [List.countP_eq_zero]
  intro x hx
  rw [hg x (hA x hx)]
  simp
theorem countP_take {off : List Bool} {g : Tk → Bool} (hg : ∀ x : Tk, toffM off x.tok = true → g x = false) {A B : List Tk} {t : Tk} (hA : ∀ x ∈ A, toffM off x.tok = true) : (A ++ t :: B).countP g = B.countP g + one (g t) := by
  rw [List.countP_append, countP_zero hg hA, List.countP_cons]
  simp [one]
theorem nextL_spec (s : Lp) : ∃ s', Same s s' ∧ ((nextL s = (s', none) ∧ NxtNo s s') ∨ ∃ t, nextL s = (s', some t) ∧ Nxt s s' t) := by
  obtain ⟨bud, told, token, mac, mic, wai, L, nn, prs, ab, off, str⟩ := s
  -- behind the first try: what is left of the micro tasks is m
  have rest : ∀ m, (m = mic ∨ (m = [] ∧ ∀ x ∈ mic, toffM off x.tok = true)) → ∀ R, R = (match (takeM off mac).1 with
      | some t => (turnL ⟨bud, told, token, (takeM off mac).2, m, wai, L, nn, prs, ab, off, str⟩ t 0, some t)
      | none => match (takeM off m).1 with
        | some t => (turnL ⟨bud, told, token, (takeM off mac).2, (takeM off m).2, wai, L, nn, prs, ab, off, str⟩ t 1, some t)
        | none => ((⟨bud, 0, token, (takeM off mac).2, (takeM off m).2, wai, L, nn, prs, ab, off, str⟩ : Lp), none)) →
      ∃ s', Same ⟨bud, told, token, mac, mic, wai, L, nn, prs, ab, off, str⟩ s' ∧ ((R = (s', none) ∧ NxtNo ⟨bud, told, token, mac, mic, wai, L, nn, prs, ab, off, str⟩ s') ∨ ∃ t, R = (s', some t) ∧ Nxt ⟨bud, told, token, mac, mic, wai, L, nn, prs, ab, off, str⟩ s' t) := by
    intro m hm R hR
    have hc : ∀ g : Tk → Bool, (∀ x : Tk, toffM off x.tok = true → g x = false) → mic.countP g = m.countP g := fun g hg => by
      rcases hm with rfl | ⟨rfl, h⟩
      · rfl
      · rw [countP_zero hg h]; rfl
    have hms : ∀ x ∈ m, x ∈ mic := fun x hx => by
      rcases hm with rfl | ⟨rfl, h⟩
      · exact hx
      · simp at hx
    rcases takeM_spec off mac with ⟨k1, k2⟩ | ⟨A, t, B, k1, k2, k3, k4⟩
    · rw [k1] at hR
      dsimp only at hR
      rcases takeM_spec off m with ⟨j1, j2⟩ | ⟨A, t, B, j1, j2, j3, j4⟩
      · rw [j1] at hR
        refine ⟨⟨bud, 0, token, [], [], wai, L, nn, prs, ab, off, str⟩, ⟨rfl, rfl, rfl, rfl, rfl⟩, .inl ⟨hR, rfl, rfl, fun x hx => ?_⟩⟩
        rcases hx with hx | hx
        · exact k2 x hx
        · rcases hm with rfl | ⟨rfl, h⟩
          · exact j2 x hx
          · exact h x hx
      · rw [j2] at hR
        refine ⟨⟨bud, 1, t.tok, [], B, wai, L, nn, prs, ab, off, str⟩, ⟨rfl, rfl, rfl, rfl, rfl⟩, .inr ⟨t, hR, j3, rfl, fun x hx => by simp at hx, fun x hx => hms x (by rw [j1]; simp at hx ⊢; exact .inr (.inr hx)), .inr (hms t (by rw [j1]; simp)), fun g hg => ?_, fun x hx hl => ?_⟩⟩
        · show mac.countP g + mic.countP g = ([] : List Tk).countP g + B.countP g + one (g t)
          rw [hc g hg, countP_zero hg k2, j1, countP_take hg j4]
          simp
        · rw [show toffM off x.tok = true from k2 x hx] at hl
          cases hl
    · rw [k2] at hR
      refine ⟨⟨bud, 0, t.tok, B, m, wai, L, nn, prs, ab, off, str⟩, ⟨rfl, rfl, rfl, rfl, rfl⟩, .inr ⟨t, hR, k3, rfl, fun x hx => ?_, hms, .inl (by show t ∈ mac; rw [k1]; simp), fun g hg => ?_, fun x hx hl => ?_⟩⟩
      · show x ∈ mac
        rw [k1]
        simp at hx ⊢
        exact .inr (.inr hx)
      · show mac.countP g + mic.countP g = B.countP g + m.countP g + one (g t)
        rw [hc g hg, k1, countP_take hg k4]
        omega
      · have hx' : x ∈ A ++ t :: B := by rw [← k1]; exact hx
        rcases List.mem_append.1 hx' with h | h
        · rw [show toffM off x.tok = true from k4 x h] at hl
          cases hl
        · rcases List.mem_cons.1 h with h | h
          · exact .inl h
          · exact .inr h
  unfold nextL
  dsimp only
  by_cases hb : told < bud
  · rw [if_pos hb]
    rcases takeM_spec off mic with ⟨k1, k2⟩ | ⟨A, t, B, k1, k2, k3, k4⟩
    · rw [k1]
      exact rest [] (.inr ⟨rfl, k2⟩) _ rfl
    · rw [k2]
      refine ⟨⟨bud, told + 1, t.tok, mac, B, wai, L, nn, prs, ab, off, str⟩, ⟨rfl, rfl, rfl, rfl, rfl⟩, .inr ⟨t, rfl, k3, rfl, fun x hx => hx, fun x hx => ?_, .inr (by show t ∈ mic; rw [k1]; simp), fun g hg => ?_, fun x hx _ => .inr hx⟩⟩
      · show x ∈ mic
        rw [k1]
        simp at hx ⊢
        exact .inr (.inr hx)
      · show mac.countP g + mic.countP g = mac.countP g + B.countP g + one (g t)
        rw [k1, countP_take hg k4]
        omega
  · rw [if_neg hb]
    exact rest mic (.inl rfl) _ rfl
end Go.Proofs.Ytipbimbnpikbcaa
