/- Numbers in a row, and small endings. -/
import Derived.Test.YtipbimbnpikbcaaBase
namespace Go.Proofs.Ytipbimbnpikbcaa

def iota (a n : Nat) : List Int := (List.range n).map (fun i => ((a + i : Nat) : Int))
theorem iota_length (a n : Nat) : (iota a n).length = n := by simp [iota]
theorem iota_zero (a : Nat) : iota a 0 = [] := rfl
theorem iota_snoc (a n : Nat) : iota a (n + 1) = iota a n ++ [((a + n : Nat) : Int)] := by simp [iota, List.range_succ]
theorem iota_cons (a n : Nat) : iota a (n + 1) = (a : Int) :: iota (a + 1) n := by
  apply List.ext_getElem?
  intro i
  cases i with
  | zero => simp [iota]
  | succ i =>
    by_cases h : i < n
    · simp [iota, h]
      omega
    · simp [iota, h]
theorem iota_getD (a n i : Nat) (h : i < n) : (iota a n).getD i 0 = ((a + i : Nat) : Int) := by simp [iota, List.getD_eq_getElem?_getD, h]

theorem num {k : IntKind} {a b : Int} (h : a = b) : Value.int k a = Value.int k b := by rw [h]
theorem ret_bool {a b : Bool} (h : a = b) : Ending.returned (.bool a) = .returned (.bool b) := by rw [h]
theorem take_snoc (l : List Int) (k : Nat) (h : k < l.length) : l.take (k + 1) = l.take k ++ [l.getD k 0] := by
  rw [List.take_succ_eq_append_getElem h]
  simp [List.getD_eq_getElem?_getD, h]
end Go.Proofs.Ytipbimbnpikbcaa
