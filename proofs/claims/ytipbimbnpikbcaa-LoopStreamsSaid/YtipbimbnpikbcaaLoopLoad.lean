/- How many micro tasks there are and may come: what bounds Settle's work. No program in sight. -/
import Derived.Test.YtipbimbnpikbcaaLoopM
namespace Go.Proofs.Ytipbimbnpikbcaa

def qsum (l : List Pr) : Nat := (l.map fun p => p.q.length).sum
theorem qsum_set {l : List Pr} {i : Nat} {x : Pr} (y : Pr) (h : l[i]? = some x) : qsum (l.set i y) + x.q.length = qsum l + y.q.length := by
  induction l generalizing i with
  | nil => simp at h
  | cons a l ih =>
    cases i with
    | zero =>
      simp at h
      subst h
      simp [qsum]
      omega
    | succ i =>
      have := ih (i := i) (by simpa using h)
      simp [qsum] at this ⊢
      omega
theorem qsum_mem {l : List Pr} {i : Nat} {x : Pr} (h : l[i]? = some x) : x.q.length ≤ qsum l := by
  have := qsum_set ⟨true, 0, []⟩ h
  simp at this
  omega
def loadL (s : Lp) : Nat := s.mic.length + qsum s.prs
theorem settleM_sum (l : List Pr) (id v : Int) : qsum (settleM l id v).1 + (settleM l id v).2.1.length = qsum l := by
  unfold settleM
  cases e : prOf l id with
  | none => simp
  | some x =>
    obtain ⟨i, rfl, hi⟩ := prOf_some e
    dsimp only
    by_cases ht : x.told = true
    · rw [if_pos ht]
      simp
    · rw [if_neg ht]
      have := qsum_set ⟨true, v, []⟩ hi
      simpa using this
theorem loadL_settle (s : Lp) (id v : Int) : loadL (settleL s id v).1 = loadL s := by
  have := settleM_sum s.prs id v
  simp [loadL, settleL]
  omega
theorem settle_le (s : Lp) (id v : Int) : s.mic.length + (settleM s.prs id v).2.1.length ≤ loadL s := by
  have := settleM_sum s.prs id v
  unfold loadL
  omega
theorem loadL_promise (s : Lp) : loadL (promiseL s).1 = loadL s := by
  unfold promiseL makeM
  split
  · rfl
  · simp [loadL, qsum]
theorem loadL_settles (l : List (Int × Int)) : ∀ s : Lp, loadL (settlesL s l) = loadL s := by
  induction l with
  | nil => intro s; rfl
  | cons x l ih =>
    intro s
    show loadL (settlesL (settleL s x.1 x.2).1 l) = _
    rw [ih, loadL_settle]
theorem settlesL_snoc (s : Lp) (l : List (Int × Int)) (x : Int × Int) : settlesL s (l ++ [x]) = (settleL (settlesL s l) x.1 x.2).1 := by simp [settlesL]
end Go.Proofs.Ytipbimbnpikbcaa
