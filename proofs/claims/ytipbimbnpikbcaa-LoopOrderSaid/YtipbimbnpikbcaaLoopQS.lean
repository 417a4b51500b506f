/- A loop at which nothing is called off, and no timer, promise or stream is: two rows of numbers. No program in sight. -/
import Derived.Test.YtipbimbnpikbcaaLoopM
namespace Go.Proofs.Ytipbimbnpikbcaa

/-- The budget, how many micro tasks were told, both rows, how many tokens there are. -/
structure QS (s : Lp) (n t : Nat) (ma mi : List Int) (N : Nat) : Prop where
  bud : s.budget = n
  told : s.told = t
  mac : s.mac.map (fun x => (x.kind, x.fn)) = ma.map (fun f => ((1 : Int), f))
  mic : s.mic.map (fun x => (x.kind, x.fn)) = mi.map (fun f => ((2 : Int), f))
  off : s.off = List.replicate N false
  ab : s.ab.length = N
def nextQ (n t : Nat) (ma mi : List Int) : Nat × List Int × List Int × Option (Int × Int) :=
  match mi with
  | f :: r => if t < n then (t + 1, ma, r, some (2, f)) else match ma with
    | g :: q => (0, q, f :: r, some (1, g))
    | [] => (1, [], r, some (2, f))
  | [] => match ma with
    | g :: q => (0, q, [], some (1, g))
    | [] => (0, [], [], none)
theorem toffM_rep (N : Nat) (x : Int) : toffM (List.replicate N false) x = false := by
  unfold toffM
  rw [List.getD_eq_getElem?_getD, List.getElem?_replicate]
  split <;> simp
theorem takeM_rep (N : Nat) (l : List Tk) : takeM (List.replicate N false) l = (l.head?, l.tail) := by
  cases l with
  | nil => rfl
  | cons x r => simp [takeM, toffM_rep]
section
variable {s : Lp} {n t N : Nat} {ma mi : List Int}
theorem QS.new (n : Nat) : QS (newL n) n 0 [] [] 0 := ⟨rfl, rfl, rfl, rfl, rfl, rfl⟩
theorem QS.macLen (h : QS s n t ma mi N) : s.mac.length = ma.length := by have := congrArg List.length h.mac; simpa using this
theorem QS.micLen (h : QS s n t ma mi N) : s.mic.length = mi.length := by have := congrArg List.length h.mic; simpa using this
theorem QS.offs (h : QS s n t ma mi N) : s.off ++ [toffM s.off s.token] = List.replicate (N + 1) false := by
  rw [h.off, toffM_rep, List.replicate_succ']
theorem QS.spawn (h : QS s n t ma mi N) (f : Int) (hN : N < 1024) : ∃ s', spawnL s f = (s', N, 0) ∧ QS s' n t (ma ++ [f]) mi (N + 1) := by
  have := h.ab
  refine ⟨macL (moreL s) ⟨1, f, 0, s.ab.length⟩, ?_, h.bud, h.told, ?_, h.mic, h.offs, ?_⟩
  · unfold spawnL
    rw [if_neg (by omega), h.ab]
  · simp only [macL, moreL, List.map_append, h.mac, List.map_cons, List.map_nil]
  · simp [macL, moreL, h.ab]
theorem QS.micro (h : QS s n t ma mi N) (f : Int) (hN : N < 1024) : ∃ s', microL s f = (s', N, 0) ∧ QS s' n t ma (mi ++ [f]) (N + 1) := by
  have := h.ab
  refine ⟨micL (moreL s) ⟨2, f, 0, s.ab.length⟩, ?_, h.bud, h.told, h.mac, ?_, h.offs, ?_⟩
  · unfold microL
    rw [if_neg (by omega), h.ab]
  · simp only [micL, moreL, List.map_append, h.mic, List.map_cons, List.map_nil]
  · simp [micL, moreL, h.ab]
theorem QS.next (h : QS s n t ma mi N) : ∃ s' k, nextL s = (s', k) ∧ QS s' n (nextQ n t ma mi).1 (nextQ n t ma mi).2.1 (nextQ n t ma mi).2.2.1 N ∧ k.map (fun x => (x.kind, x.fn)) = (nextQ n t ma mi).2.2.2 := by
  obtain ⟨hb, ht, h1, h2, ho, ha⟩ := h
  refine ⟨(nextL s).1, (nextL s).2, rfl, ?_⟩
  obtain ⟨bud, told, token, mac, mic, wai, L, nn, prs, ab, off, str⟩ := s
  dsimp only at hb ht h1 h2 ho ha
  subst hb ht ho
  unfold nextL nextQ
  simp only [takeM_rep]
  cases mi with
  | nil =>
    have e2 : mic = [] := List.eq_nil_of_length_eq_zero (by simpa using congrArg List.length h2)
    subst e2
    cases ma with
    | nil =>
      have e1 : mac = [] := List.eq_nil_of_length_eq_zero (by simpa using congrArg List.length h1)
      subst e1
      by_cases hl : told < bud
      · simp only [hl, if_true, List.head?_nil, List.tail_nil]
        exact ⟨⟨rfl, rfl, rfl, rfl, rfl, ha⟩, rfl⟩
      · simp only [hl, if_false, List.head?_nil, List.tail_nil]
        exact ⟨⟨rfl, rfl, rfl, rfl, rfl, ha⟩, rfl⟩
    | cons g q =>
      cases mac with
      | nil => simp at h1
      | cons y m =>
        simp only [List.map_cons, List.cons.injEq] at h1
        by_cases hl : told < bud
        · simp only [hl, if_true, List.head?_nil, List.tail_nil, List.head?_cons, List.tail_cons, turnL]
          exact ⟨⟨rfl, rfl, h1.2, rfl, rfl, ha⟩, by simp [h1.1]⟩
        · simp only [hl, if_false, List.head?_nil, List.tail_nil, List.head?_cons, List.tail_cons, turnL]
          exact ⟨⟨rfl, rfl, h1.2, rfl, rfl, ha⟩, by simp [h1.1]⟩
  | cons f r =>
    cases mic with
    | nil => simp at h2
    | cons x l =>
      have h3 := h2
      simp only [List.map_cons, List.cons.injEq] at h3
      by_cases hl : told < bud
      · simp only [hl, if_true, List.head?_cons, List.tail_cons, turnL]
        exact ⟨⟨rfl, rfl, h1, h3.2, rfl, ha⟩, by simp [h3.1]⟩
      · cases ma with
        | nil =>
          have e1 : mac = [] := List.eq_nil_of_length_eq_zero (by simpa using congrArg List.length h1)
          subst e1
          simp only [hl, if_false, List.head?_nil, List.tail_nil, List.head?_cons, List.tail_cons, turnL]
          exact ⟨⟨rfl, rfl, rfl, h3.2, rfl, ha⟩, by simp [h3.1]⟩
        | cons g q =>
          cases mac with
          | nil => simp at h1
          | cons y m =>
            simp only [List.map_cons, List.cons.injEq] at h1
            simp only [hl, if_false, List.head?_cons, List.tail_cons, turnL]
            exact ⟨⟨rfl, rfl, h1.2, h2, rfl, ha⟩, by simp [h1.1]⟩
end
/-- base + a, .., base + b - 1. -/
def rowI (base a b : Nat) : List Int := (List.range' a (b - a)).map fun (i : Nat) => ((base + i : Nat) : Int)
theorem rowI_nil (base : Nat) {a b : Nat} (h : b ≤ a) : rowI base a b = [] := by simp [rowI, Nat.sub_eq_zero_of_le h]
theorem rowI_cons (base : Nat) {a b : Nat} (h : a < b) : rowI base a b = ((base + a : Nat) : Int) :: rowI base (a + 1) b := by
  unfold rowI
  rw [show b - a = (b - (a + 1)) + 1 from by omega, List.range'_succ]
  rfl
theorem rowI_snoc (base : Nat) {a b : Nat} (h : a ≤ b) : rowI base a (b + 1) = rowI base a b ++ [((base + b : Nat) : Int)] := by
  unfold rowI
  rw [show b + 1 - a = (b - a) + 1 from by omega, List.range'_concat, List.map_append]
  simp
  omega
theorem rowI_length (base a b : Nat) : (rowI base a b).length = b - a := by simp [rowI]
end Go.Proofs.Ytipbimbnpikbcaa
