/- LoopReacts' rows. No program in sight. -/
import Derived.Test.YtipbimbnpikbcaaLoopRS
namespace Go.Proofs.Ytipbimbnpikbcaa

def qR (m : Nat) : List Int := (List.range m).map fun (j : Nat) => (j : Int)
def waR (m : Nat) : List (Int × Int) := (List.range m).map fun (j : Nat) => ((4 : Int), 100 + (j : Int))
def micR (n : Nat) : List (Int × Int × Int) := (List.range n).map fun (j : Nat) => ((2 : Int), (j : Int), (0 : Int))
/-- What is told in the i-th turn. -/
def wantR (n m : Nat) (v : Int) (i : Nat) : Int × Int × Int :=
  if i < n then (2, (i : Int), 0) else if i < n + m then (4, 100 + ((i - n : Nat) : Int), v) else if (i - n - m) % 2 = 0 then (2, 200 + ((i - n - m : Nat) : Int), 0) else (4, 200 + ((i - n - m : Nat) : Int), v)
def wantL (n m : Nat) (v : Int) (T : Nat) : List (Int × Int × Int) := (List.range T).map (wantR n m v)
def wantF (n m : Nat) (v : Int) (i T : Nat) : List (Int × Int × Int) := (List.range' i (T - i)).map (wantR n m v)
theorem qR_len (m : Nat) : (qR m).length = m := by simp [qR]
theorem waR_len (m : Nat) : (waR m).length = m := by simp [waR]
theorem micR_len (m : Nat) : (micR m).length = m := by simp [micR]
theorem wantL_len (n m : Nat) (v : Int) (T : Nat) : (wantL n m v T).length = T := by simp [wantL]
theorem qR_snoc (m : Nat) : qR m ++ [(m : Int)] = qR (m + 1) := by simp [qR, List.range_succ]
theorem waR_snoc (m : Nat) : waR m ++ [(4, 100 + (m : Int))] = waR (m + 1) := by simp [waR, List.range_succ]
theorem micR_snoc (m : Nat) : micR m ++ [(2, (m : Int), 0)] = micR (m + 1) := by simp [micR, List.range_succ]
theorem want_settle (n m : Nat) (v : Int) : micR n ++ (qR m).map (toldW (waR m) v) = wantL n m v (n + m) := by
  refine List.ext_getElem? fun i => ?_
  unfold wantL micR qR
  rw [List.getElem?_append]
  simp only [List.length_map, List.length_range, List.getElem?_map, List.map_map]
  by_cases h1 : i < n
  · rw [if_pos h1]
    simp [h1, show i < n + m by omega, wantR]
  · rw [if_neg h1]
    by_cases h2 : i < n + m
    · have h3 : i - n < m := by omega
      simp [h1, h2, h3, wantR, toldW, waR, List.getD_eq_getElem?_getD]
    · have h3 : ¬ i - n < m := by omega
      simp [h2, h3]
theorem wantL_even (n m : Nat) (v : Int) (i : Nat) (h : i % 2 = 0) : wantL n m v (n + m + i) ++ [(2, 200 + (i : Int), 0)] = wantL n m v (n + m + (i + 1)) := by
  rw [← Nat.add_assoc]
  simp only [wantL, List.range_succ, List.map_append, List.map_cons, List.map_nil, wantR]
  rw [if_neg (by omega), if_neg (by omega), if_pos (by omega), show n + m + i - n - m = i by omega]
theorem wantL_odd (n m : Nat) (v : Int) (i : Nat) (h : i % 2 = 1) : wantL n m v (n + m + i) ++ [(4, 200 + (i : Int), v)] = wantL n m v (n + m + (i + 1)) := by
  rw [← Nat.add_assoc]
  simp only [wantL, List.range_succ, List.map_append, List.map_cons, List.map_nil, wantR]
  rw [if_neg (by omega), if_neg (by omega), if_neg (by omega), show n + m + i - n - m = i by omega]
theorem wantF_zero (n m : Nat) (v : Int) (T : Nat) : wantL n m v T = wantF n m v 0 T := by simp [wantL, wantF, List.range_eq_range']
theorem wantF_cons (n m : Nat) (v : Int) (i T : Nat) (h : i < T) : wantF n m v i T = wantR n m v i :: wantF n m v (i + 1) T := by
  unfold wantF
  rw [show T - i = (T - (i + 1)) + 1 by omega, List.range'_succ]
  rfl
theorem wantF_nil (n m : Nat) (v : Int) (T : Nat) : wantF n m v T T = [] := by simp [wantF]
end Go.Proofs.Ytipbimbnpikbcaa
