/- Promises that were made, none told yet. -/
import Derived.Test.YtfmkjnlelijnoaaPromiseLaw
namespace Go.Proofs.Ytfmkjnlelijnoaa
open Go.RowKit

def news (n : Nat) : List Pr := List.replicate n ⟨false, 0, []⟩
theorem news_length (n : Nat) : (news n).length = n := by simp [news]
theorem news_get (n i : Nat) (h : i < n) : (news n)[i]? = some ⟨false, 0, []⟩ := by simp [news, h]
theorem news_make (k : Nat) (h : k < 512) : makeM (news k) = (news (k + 1), k, 0) := by
  simp only [makeM, news_length]
  rw [if_neg (by omega)]
  simp [news, List.replicate_succ']
theorem news_full : makeM (news 512) = (news 512, 0, 3) := by
  simp only [makeM, news_length]
  rw [if_pos (by omega)]
theorem prOf_at (l : List Pr) (i : Nat) : prOf l (i : Int) = l[i]? := by
  simp only [prOf]
  rw [if_neg (by omega)]
  simp
theorem prOf_off (l : List Pr) (id : Int) (h : id < 0 ∨ (l.length : Int) ≤ id) : prOf l id = none := by
  simp only [prOf]
  split
  · rfl
  · exact List.getElem?_eq_none (by omega)
theorem value_off (l : List Pr) (id : Int) (h : id < 0 ∨ (l.length : Int) ≤ id) : valueM l id = (0, false, 2) := by simp only [valueM, prOf_off l id h]
theorem then_off (l : List Pr) (id r : Int) (h : id < 0 ∨ (l.length : Int) ≤ id) : thenM l id r = (l, 0, false, 2) := by simp only [thenM, prOf_off l id h]
theorem settle_off (l : List Pr) (id v : Int) (h : id < 0 ∨ (l.length : Int) ≤ id) : settleM l id v = (l, [], 2) := by simp only [settleM, prOf_off l id h]
theorem waits_off (l : List Pr) (id : Int) (h : id < 0 ∨ (l.length : Int) ≤ id) : waitsM l id = 0 := by simp only [waitsM, prOf_off l id h]
theorem value_at (l : List Pr) (i : Nat) (x : Pr) (h : l[i]? = some x) : valueM l (i : Int) = (x.value, x.told, 0) := by simp only [valueM, prOf_at, h]
theorem waits_at (l : List Pr) (i : Nat) (x : Pr) (h : l[i]? = some x) : waitsM l (i : Int) = x.q.length := by simp only [waitsM, prOf_at, h]
theorem then_told (l : List Pr) (i : Nat) (x : Pr) (r : Int) (h : l[i]? = some x) (ht : x.told = true) : thenM l (i : Int) r = (l, x.value, true, 0) := by
  simp only [thenM, prOf_at, h]
  rw [if_pos ht]
theorem then_at (l : List Pr) (i : Nat) (x : Pr) (r : Int) (h : l[i]? = some x) (ht : x.told = false) (hq : x.q.length < 256) : thenM l (i : Int) r = (l.set i ⟨false, x.value, x.q ++ [r]⟩, 0, false, 0) := by
  simp only [thenM, prOf_at, h]
  rw [if_neg (by simp [ht]), if_pos hq, ht]
  rfl
theorem then_full (l : List Pr) (i : Nat) (x : Pr) (r : Int) (h : l[i]? = some x) (ht : x.told = false) (hq : 256 ≤ x.q.length) : thenM l (i : Int) r = (l, 0, false, 140) := by
  simp only [thenM, prOf_at, h]
  rw [if_neg (by simp [ht]), if_neg (by omega)]
theorem settle_at (l : List Pr) (i : Nat) (x : Pr) (v : Int) (h : l[i]? = some x) (ht : x.told = false) : settleM l (i : Int) v = (l.set i ⟨true, v, []⟩, x.q, 0) := by
  simp only [settleM, prOf_at, h]
  rw [if_neg (by simp [ht])]
  rfl
theorem settle_told (l : List Pr) (i : Nat) (x : Pr) (v : Int) (h : l[i]? = some x) (ht : x.told = true) : settleM l (i : Int) v = (l, [], 160) := by
  simp only [settleM, prOf_at, h]
  rw [if_pos ht]
theorem set_get (l : List Pr) (i : Nat) (x : Pr) (h : i < l.length) : (l.set i x)[i]? = some x := by simp [h]
theorem set_get_ne (l : List Pr) (i j : Nat) (x : Pr) (h : i ≠ j) : (l.set i x)[j]? = l[j]? := by simp [h]
theorem prs_waits {w0 w : World} {b : Nat} {l : List Pr} {F : Nat → Prop} (h : PrsI w0 w b l F) (id : Int) (n : Nat) (hm : waitsM l id = n) :
    Calls Try.prog 21 #[.pointer (some ⟨b, 0, none⟩), .int .i64 id] w fun e w' => e = .returned (.int .i64 n) ∧ w' = w := by
  rw [← hm]
  exact promise_waits b l F id w h.q
theorem prs_len {w0 w : World} {b : Nat} {l : List Pr} {F : Nat → Prop} (h : PrsI w0 w b l F) (n : Nat) (hm : l.length = n) :
    Calls Try.prog 20 #[.pointer (some ⟨b, 0, none⟩)] w fun e w' => e = .returned (.int .i64 n) ∧ w' = w := by
  rw [← hm]
  exact promise_len b l F w h.q
end Go.Proofs.Ytfmkjnlelijnoaa
