/- A loop of budget 64 at which nothing is called off and no timer or macro task is: a row of micro tasks, and promises. No program in sight. -/
import Derived.Test.YtipbimbnpikbcaaLoopM
namespace Go.Proofs.Ytipbimbnpikbcaa

/-- The row of micro tasks, those that wait for a promise, the promises, the streams, how many tokens there are. -/
structure RS (s : Lp) (mi : List (Int × Int × Int)) (wa : List (Int × Int)) (prs : List Pr) (str : List (Nat × St)) (N : Nat) : Prop where
  mac : s.mac = []
  mic : s.mic.map (fun x => (x.kind, x.fn, x.arg)) = mi
  wai : s.wai.map (fun x => (x.kind, x.fn)) = wa
  prs : s.prs = prs
  str : s.str = str
  off : s.off = List.replicate N false
  ab : s.ab.length = N
theorem toffM_rep' (N : Nat) (x : Int) : toffM (List.replicate N false) x = false := by
  unfold toffM
  rw [List.getD_eq_getElem?_getD, List.getElem?_replicate]
  split <;> simp
theorem takeM_rep' (N : Nat) (l : List Tk) : takeM (List.replicate N false) l = (l.head?, l.tail) := by
  cases l with
  | nil => rfl
  | cons x r => simp [takeM, toffM_rep']
theorem prOf_nat (l : List Pr) (i : Nat) : prOf l (i : Int) = l[i]? := by
  simp only [prOf]
  rw [if_neg (by omega)]
  simp
section
variable {s : Lp} {N : Nat} {mi : List (Int × Int × Int)} {wa : List (Int × Int)} {prs : List Pr} {str : List (Nat × St)}
theorem RS.new (n : Nat) : RS (newL n) [] [] [] [] 0 := ⟨rfl, rfl, rfl, rfl, rfl, rfl, rfl⟩
theorem RS.micLen (h : RS s mi wa prs str N) : s.mic.length = mi.length := by have := congrArg List.length h.mic; simpa using this
theorem RS.waiLen (h : RS s mi wa prs str N) : s.wai.length = wa.length := by have := congrArg List.length h.wai; simpa using this
theorem RS.offs (h : RS s mi wa prs str N) : s.off ++ [toffM s.off s.token] = List.replicate (N + 1) false := by
  rw [h.off, toffM_rep', List.replicate_succ']
theorem RS.promise (h : RS s mi wa prs str N) (hl : prs.length < 512) : ∃ s', promiseL s = (s', prs.length, 0) ∧ RS s' mi wa (prs ++ [⟨false, 0, []⟩]) str N := by
  refine ⟨{ s with prs := prs ++ [⟨false, 0, []⟩] }, ?_, h.mac, h.mic, h.wai, rfl, h.str, h.off, h.ab⟩
  unfold promiseL makeM
  rw [h.prs, if_neg (by omega)]
theorem RS.micro (h : RS s mi wa prs str N) (f : Int) (hN : N < 1024) : ∃ s', microL s f = (s', N, 0) ∧ RS s' (mi ++ [(2, f, 0)]) wa prs str (N + 1) := by
  have := h.ab
  refine ⟨micL (moreL s) ⟨2, f, 0, s.ab.length⟩, ?_, h.mac, ?_, h.wai, h.prs, h.str, h.offs, ?_⟩
  · unfold microL
    rw [if_neg (by omega), h.ab]
  · simp only [micL, moreL, List.map_append, h.mic, List.map_cons, List.map_nil]
  · simp [micL, moreL, h.ab]
theorem RS.thenWait (h : RS s mi wa prs str N) (i : Nat) (f : Int) {v0 : Int} {q : List Int} (hp : prs[i]? = some ⟨false, v0, q⟩) (hq : q.length < 256) (hN : N < 1024) :
    ∃ s', thenL s i f = (s', N, 0) ∧ RS s' mi (wa ++ [(4, f)]) (prs.set i ⟨false, v0, q ++ [(wa.length : Int)]⟩) str (N + 1) := by
  have hab := h.ab
  have hpr := h.prs
  have e1 : valueM s.prs (i : Int) = (v0, false, 0) := by unfold valueM; rw [prOf_nat, hpr, hp]
  have e2 : waitsM s.prs (i : Int) = q.length := by unfold waitsM; rw [prOf_nat, hpr, hp]
  have e3 : (thenM s.prs (i : Int) (s.wai.length : Int)).1 = prs.set i ⟨false, v0, q ++ [(wa.length : Int)]⟩ := by
    unfold thenM
    rw [prOf_nat, hpr, hp]
    dsimp only
    rw [if_neg (by simp), if_pos hq, h.waiLen]
    simp
  refine ⟨{ waiL (moreL s) ⟨4, f, 0, s.ab.length⟩ with prs := (thenM s.prs (i : Int) (s.wai.length : Int)).1 }, ?_, h.mac, h.mic, ?_, e3, h.str, h.offs, ?_⟩
  · unfold thenL
    rw [e1, e2]
    dsimp only
    rw [if_neg (by simp), if_neg (by omega), if_neg (by omega), if_neg (by simp), hab]
  · simp only [waiL, moreL, List.map_append, h.wai, List.map_cons, List.map_nil]
  · simp [waiL, moreL, h.ab]
theorem RS.thenTold (h : RS s mi wa prs str N) (i : Nat) (f : Int) {v : Int} {q : List Int} (hp : prs[i]? = some ⟨true, v, q⟩) (hN : N < 1024) :
    ∃ s', thenL s i f = (s', N, 0) ∧ RS s' (mi ++ [(4, f, v)]) wa prs str (N + 1) := by
  have hab := h.ab
  have hpr := h.prs
  have e1 : valueM s.prs (i : Int) = (v, true, 0) := by unfold valueM; rw [prOf_nat, hpr, hp]
  refine ⟨micL (moreL s) ⟨4, f, v, s.ab.length⟩, ?_, h.mac, ?_, h.wai, h.prs, h.str, h.offs, ?_⟩
  · unfold thenL
    rw [e1]
    dsimp only
    rw [if_neg (by simp), if_neg (by simp), if_neg (by omega), if_pos rfl, hab]
  · simp only [micL, moreL, List.map_append, h.mic, List.map_cons, List.map_nil]
  · simp [micL, moreL, h.ab]
/-- What waits, told v. -/
def toldW (wa : List (Int × Int)) (v : Int) (k : Int) : Int × Int × Int := ((wa.getD k.toNat (0, 0)).1, (wa.getD k.toNat (0, 0)).2, v)
theorem RS.get (h : RS s mi wa prs str N) (k : Int) : ((getL s k).kind, (getL s k).fn) = wa.getD k.toNat (0, 0) := by
  have := h.wai
  unfold getL
  subst this
  simp only [List.getD_eq_getElem?_getD, List.getElem?_map]
  cases s.wai[k.toNat]? <;> rfl
theorem RS.settle (h : RS s mi wa prs str N) (i : Nat) (v : Int) {v0 : Int} {q : List Int} (hp : prs[i]? = some ⟨false, v0, q⟩) :
    ∃ s', settleL s i v = (s', 0) ∧ RS s' (mi ++ q.map (toldW wa v)) wa (prs.set i ⟨true, v, []⟩) str N := by
  have e : settleM s.prs (i : Int) v = (prs.set i ⟨true, v, []⟩, q, 0) := by
    unfold settleM
    rw [prOf_nat, h.prs, hp]
    dsimp only
    rw [if_neg (by simp)]
    simp
  refine ⟨(settleL s i v).1, ?_, h.mac, ?_, h.wai, ?_, h.str, h.off, h.ab⟩
  · unfold settleL
    rw [e]
  · unfold settleL
    rw [e]
    simp only [List.map_append, h.mic, List.map_map]
    congr 1
    refine List.map_congr_left fun k _ => ?_
    have := h.get k
    simp only [Function.comp, withArg, toldW, ← this]
  · unfold settleL
    rw [e]
theorem RS.settled (h : RS s mi wa prs str N) (i : Nat) (v : Int) {v0 : Int} {q : List Int} (hp : prs[i]? = some ⟨true, v0, q⟩) :
    ∃ s', settleL s i v = (s', 160) ∧ RS s' mi wa prs str N := by
  have e : settleM s.prs (i : Int) v = (prs, [], 160) := by
    unfold settleM
    rw [prOf_nat, h.prs, hp]
    dsimp only
    rw [if_pos rfl]
  refine ⟨(settleL s i v).1, ?_, h.mac, ?_, h.wai, ?_, h.str, h.off, h.ab⟩
  · unfold settleL
    rw [e]
  · unfold settleL
    rw [e]
    simpa using h.mic
  · unfold settleL
    rw [e]
theorem RS.next {x : Int × Int × Int} {r : List (Int × Int × Int)} (h : RS s (x :: r) wa prs str N) : ∃ s' k, nextL s = (s', some k) ∧ RS s' r wa prs str N ∧ (k.kind, k.fn, k.arg) = x := by
  obtain ⟨h1, h2, h3, h4, h4', h5, h6⟩ := h
  obtain ⟨bud, told, token, mac, mic, wai, L, nn, pp, ab, off, ss⟩ := s
  dsimp only at h1 h2 h3 h4 h4' h5 h6
  subst h1 h4 h4' h5
  cases mic with
  | nil => simp at h2
  | cons y r' =>
    simp only [List.map_cons, List.cons.injEq] at h2
    unfold nextL
    simp only [takeM_rep']
    by_cases hl : told < bud
    · simp only [hl, if_true, List.head?_cons, List.tail_cons, turnL]
      exact ⟨_, _, rfl, ⟨rfl, h2.2, h3, rfl, rfl, rfl, h6⟩, h2.1⟩
    · simp only [hl, if_false, List.head?_nil, List.tail_nil, List.head?_cons, List.tail_cons, turnL]
      exact ⟨_, _, rfl, ⟨rfl, h2.2, h3, rfl, rfl, rfl, h6⟩, h2.1⟩
theorem RS.nextNone (h : RS s [] wa prs str N) : ∃ s', nextL s = (s', none) ∧ RS s' [] wa prs str N := by
  obtain ⟨h1, h2, h3, h4, h4', h5, h6⟩ := h
  obtain ⟨bud, told, token, mac, mic, wai, L, nn, pp, ab, off, ss⟩ := s
  dsimp only at h1 h2 h3 h4 h4' h5 h6
  subst h1 h4 h4' h5
  have e2 : mic = [] := List.eq_nil_of_length_eq_zero (by simpa using congrArg List.length h2)
  subst e2
  unfold nextL
  simp only [takeM_rep']
  by_cases hl : told < bud
  · simp only [hl, if_true, List.head?_nil, List.tail_nil]
    exact ⟨_, rfl, ⟨rfl, rfl, h3, rfl, rfl, rfl, h6⟩⟩
  · simp only [hl, if_false, List.head?_nil, List.tail_nil]
    exact ⟨_, rfl, ⟨rfl, rfl, h3, rfl, rfl, rfl, h6⟩⟩
end
end Go.Proofs.Ytipbimbnpikbcaa
