/- The plain law of a stream of a room: what it is after so many reads and writes (write k is of v k, by k; read k by -1-k), and whom it has told. -/
import Derived.Test.YtmmnilckdlkggaaStreamFull
namespace Go.Proofs.Ytmmnilckdlkggaa
open Go.RowKit

def downs (a n : Nat) : List Int := (List.range n).map fun i => -1 - ((a + i : Nat) : Int)
def vals (v : Nat → Int) (a n : Nat) : List Int := (List.range n).map fun i => v (a + i)
def pairs (v : Nat → Int) (a n : Nat) : List (Int × Int) := (List.range n).map fun i => (((a + i : Nat) : Int), v (a + i))
def rdt (v : Nat → Int) (n : Nat) : List (Int × Int) := (List.range n).map fun i : Nat => (-1 - (i : Int), v i)
theorem downs_length (a n : Nat) : (downs a n).length = n := by simp [downs]
theorem downs_snoc (a n : Nat) : downs a (n + 1) = downs a n ++ [-1 - ((a + n : Nat) : Int)] := by simp [downs, List.range_succ]
theorem downs_cons (a n : Nat) : downs a (n + 1) = (-1 - (a : Int)) :: downs (a + 1) n := by
  apply List.ext_getElem?
  intro i
  cases i with
  | zero => simp [downs]
  | succ i =>
    by_cases h : i < n
    · simp [downs, h]
      omega
    · simp [downs, h]
theorem vals_length (v : Nat → Int) (a n : Nat) : (vals v a n).length = n := by simp [vals]
theorem vals_zero (v : Nat → Int) (a : Nat) : vals v a 0 = [] := rfl
theorem vals_snoc (v : Nat → Int) (a n : Nat) : vals v a (n + 1) = vals v a n ++ [v (a + n)] := by simp [vals, List.range_succ]
theorem vals_cons (v : Nat → Int) (a n : Nat) : vals v a (n + 1) = v a :: vals v (a + 1) n := by
  apply List.ext_getElem?
  intro i
  cases i with
  | zero => simp [vals]
  | succ i =>
    by_cases h : i < n
    · simp only [vals, List.getElem?_map, List.getElem?_range h, List.getElem?_cons_succ, List.getElem?_range (show i + 1 < n + 1 from by omega), Option.map_some]
      rw [show a + (i + 1) = a + 1 + i from by omega]
    · simp [vals, h]
theorem pairs_length (v : Nat → Int) (a n : Nat) : (pairs v a n).length = n := by simp [pairs]
theorem pairs_snoc (v : Nat → Int) (a n : Nat) : pairs v a (n + 1) = pairs v a n ++ [(((a + n : Nat) : Int), v (a + n))] := by simp [pairs, List.range_succ]
theorem pairs_cons (v : Nat → Int) (a n : Nat) : pairs v a (n + 1) = ((a : Int), v a) :: pairs v (a + 1) n := by
  apply List.ext_getElem?
  intro i
  cases i with
  | zero => simp [pairs]
  | succ i =>
    by_cases h : i < n
    · simp only [pairs, List.getElem?_map, List.getElem?_range h, List.getElem?_cons_succ, List.getElem?_range (show i + 1 < n + 1 from by omega), Option.map_some]
      rw [show a + (i + 1) = a + 1 + i from by omega]
    · simp [pairs, h]
theorem pairs_take (v : Nat → Int) (a n m : Nat) (h : m ≤ n) : (pairs v a n).take m = pairs v a m := by
  apply List.ext_getElem?
  intro i
  by_cases hi : i < m
  · rw [List.getElem?_take_of_lt hi]
    simp [pairs, hi, show i < n from by omega]
  · rw [List.getElem?_take_eq_none (by omega), List.getElem?_eq_none (by rw [pairs_length]; omega)]
theorem rdt_snoc (v : Nat → Int) (n : Nat) : rdt v (n + 1) = rdt v n ++ [(-1 - (n : Int), v n)] := by simp [rdt, List.range_succ]
theorem rdt_length (v : Nat → Int) (n : Nat) : (rdt v n).length = n := by simp [rdt]

/-- What is left of so many reads and so many writes. -/
def roomSt (v : Nat → Int) (room R W : Nat) : St := ⟨vals v R (min W (R + room) - R), downs W (R - W), pairs v (R + room) (W - (R + room))⟩
/-- Whom a row adds: writers (0), readers (1). -/
def ofW (l : List (Int × Int)) : List (Int × Int) := l.filter fun p => !decide (p.1 < 0)
def ofR (l : List (Int × Int)) : List (Int × Int) := l.filter fun p => decide (p.1 < 0)
def toldW (v : Nat → Int) (room R W : Nat) : List (Int × Int) := pairs v 0 (min W (R + room))
def toldR (v : Nat → Int) (R W : Nat) : List (Int × Int) := rdt v (min R W)

theorem room_zero (v : Nat → Int) (room : Nat) : roomSt v room 0 0 = ⟨[], [], []⟩ := by simp [roomSt, vals, downs, pairs]

theorem room_read (v : Nat → Int) (room R W : Nat) (h1 : 1 ≤ room) (h : R < W + 64) : ∃ l, readM (roomSt v room R W) (-1 - (R : Int)) = (roomSt v room (R + 1) W, l, 0) ∧ l.length ≤ 2 ∧ toldW v room R W ++ ofW l = toldW v room (R + 1) W ∧ toldR v R W ++ ofR l = toldR v (R + 1) W := by
  by_cases hW : W ≤ R
  · refine ⟨[], ?_, by simp, ?_, ?_⟩
    · simp only [readM, roomSt]
      rw [show min W (R + room) - R = 0 from by omega, show min W (R + 1 + room) - (R + 1) = 0 from by omega, vals_zero, vals_zero]
      simp only [downs_length]
      rw [if_pos (by omega), show R + 1 - W = (R - W) + 1 from by omega, downs_snoc, show W + (R - W) = R from by omega, show W - (R + room) = 0 from by omega, show W - (R + 1 + room) = 0 from by omega]
      rfl
    · simp only [toldW, ofW, List.filter_nil, List.append_nil]
      rw [show min W (R + room) = min W (R + 1 + room) from by omega]
    · simp only [toldR, ofR, List.filter_nil, List.append_nil]
      rw [show min R W = min (R + 1) W from by omega]
  · by_cases hF : W ≤ R + room
    · refine ⟨[(-1 - (R : Int), v R)], ?_, by simp, ?_, ?_⟩
      · simp only [readM, roomSt]
        rw [show min W (R + room) - R = (min W (R + 1 + room) - (R + 1)) + 1 from by omega, vals_cons, show W - (R + room) = 0 from by omega]
        dsimp only [pairs, List.range_zero, List.map_nil]
        rw [show W - (R + 1 + room) = 0 from by omega, show R - W = 0 from by omega, show R + 1 - W = 0 from by omega]
        rfl
      · have hd : decide ((-1 - (R : Int)) < 0) = true := by simp; omega
        simp only [toldW, ofW, List.filter_cons, List.filter_nil, hd]
        rw [show min W (R + room) = min W (R + 1 + room) from by omega]
        simp
      · have hd : decide ((-1 - (R : Int)) < 0) = true := by simp; omega
        simp only [toldR, ofR, List.filter_cons, List.filter_nil, hd]
        rw [show min R W = R from by omega, show min (R + 1) W = R + 1 from by omega, rdt_snoc]
        simp
    · refine ⟨[(-1 - (R : Int), v R), (((R + room : Nat) : Int), v (R + room))], ?_, by simp, ?_, ?_⟩
      · obtain ⟨m, rfl⟩ : ∃ m, room = m + 1 := ⟨room - 1, by omega⟩
        simp only [readM, roomSt]
        rw [show min W (R + (m + 1)) - R = m + 1 from by omega, show W - (R + (m + 1)) = (W - (R + 1 + (m + 1))) + 1 from by omega, vals_cons, pairs_cons]
        dsimp only
        rw [show min W (R + 1 + (m + 1)) - (R + 1) = m + 1 from by omega, vals_snoc, show R - W = 0 from by omega, show R + 1 - W = 0 from by omega, show R + (m + 1) = R + 1 + m from by omega, show R + 1 + (m + 1) = R + 1 + m + 1 from by omega]
      · have hd : decide ((-1 - (R : Int)) < 0) = true := by simp; omega
        have hd2 : decide (((R + room : Nat) : Int) < 0) = false := by simp; omega
        simp only [toldW, ofW, List.filter_cons, List.filter_nil, hd, hd2]
        rw [show min W (R + room) = R + room from by omega, show min W (R + 1 + room) = R + room + 1 from by omega, pairs_snoc, Nat.zero_add]
        simp
      · have hd : decide ((-1 - (R : Int)) < 0) = true := by simp; omega
        have hd2 : decide (((R + room : Nat) : Int) < 0) = false := by simp; omega
        simp only [toldR, ofR, List.filter_cons, List.filter_nil, hd, hd2]
        rw [show min R W = R from by omega, show min (R + 1) W = R + 1 from by omega, rdt_snoc]
        simp

theorem room_write (v : Nat → Int) (room R W : Nat) (h1 : 1 ≤ room) (h : W < R + room + 64) : ∃ l, writeM room (roomSt v room R W) (v W) (W : Int) = (roomSt v room R (W + 1), l, 0) ∧ l.length ≤ 2 ∧ toldW v room R W ++ ofW l = toldW v room R (W + 1) ∧ toldR v R W ++ ofR l = toldR v R (W + 1) := by
  have hd2 : decide ((W : Int) < 0) = false := by simp
  by_cases hW : W < R
  · have hd : decide ((-1 - (W : Int)) < 0) = true := by simp; omega
    refine ⟨[(-1 - (W : Int), v W), ((W : Int), v W)], ?_, by simp, ?_, ?_⟩
    · simp only [writeM, roomSt]
      rw [show R - W = (R - (W + 1)) + 1 from by omega, downs_cons]
      simp only
      rw [show min W (R + room) - R = 0 from by omega, show min (W + 1) (R + room) - R = 0 from by omega, show W - (R + room) = 0 from by omega, show W + 1 - (R + room) = 0 from by omega]
    · simp only [toldW, ofW, List.filter_cons, List.filter_nil, hd, hd2]
      rw [show min W (R + room) = W from by omega, show min (W + 1) (R + room) = W + 1 from by omega, pairs_snoc, Nat.zero_add]
      simp
    · simp only [toldR, ofR, List.filter_cons, List.filter_nil, hd, hd2]
      rw [show min R W = W from by omega, show min R (W + 1) = W + 1 from by omega, rdt_snoc]
      simp
  · by_cases hF : W < R + room
    · refine ⟨[((W : Int), v W)], ?_, by simp, ?_, ?_⟩
      · simp only [writeM, roomSt]
        rw [show R - W = 0 from by omega, show R - (W + 1) = 0 from by omega]
        simp only [downs, List.range_zero, List.map_nil, vals_length]
        rw [if_pos (by omega), show min (W + 1) (R + room) - R = (W - R) + 1 from by omega, vals_snoc, show min W (R + room) - R = W - R from by omega, show R + (W - R) = W from by omega, show W - (R + room) = 0 from by omega, show W + 1 - (R + room) = 0 from by omega]
      · simp only [toldW, ofW, List.filter_cons, List.filter_nil, hd2]
        rw [show min W (R + room) = W from by omega, show min (W + 1) (R + room) = W + 1 from by omega, pairs_snoc, Nat.zero_add]
        simp
      · simp only [toldR, ofR, List.filter_cons, List.filter_nil, hd2]
        rw [show min R W = min R (W + 1) from by omega]
        simp
    · refine ⟨[], ?_, by simp, ?_, ?_⟩
      · simp only [writeM, roomSt]
        rw [show R - W = 0 from by omega, show R - (W + 1) = 0 from by omega]
        simp only [downs, List.range_zero, List.map_nil, vals_length, pairs_length]
        rw [if_neg (by omega), if_pos (by omega), show W + 1 - (R + room) = (W - (R + room)) + 1 from by omega, pairs_snoc, show R + room + (W - (R + room)) = W from by omega, show min (W + 1) (R + room) = min W (R + room) from by omega]
      · simp only [toldW, ofW, List.filter_nil, List.append_nil]
        rw [show min W (R + room) = min (W + 1) (R + room) from by omega]
      · simp only [toldR, ofR, List.filter_nil, List.append_nil]
        rw [show min R W = min R (W + 1) from by omega]

theorem room_read_full (v : Nat → Int) (room R W : Nat) (h : W + 64 ≤ R) (who : Int) : readM (roomSt v room R W) who = (roomSt v room R W, [], 140) := by
  simp only [readM, roomSt]
  rw [show min W (R + room) - R = 0 from by omega, vals_zero]
  simp only [downs_length]
  rw [if_neg (by omega)]
theorem room_write_full (v : Nat → Int) (room R W : Nat) (h : R + room + 64 ≤ W) (value who : Int) : writeM room (roomSt v room R W) value who = (roomSt v room R W, [], 140) := by
  simp only [writeM, roomSt]
  rw [show R - W = 0 from by omega]
  simp only [downs, List.range_zero, List.map_nil, vals_length, pairs_length]
  rw [if_neg (by omega), if_neg (by omega)]
theorem room_congr (v u : Nat → Int) (room R W : Nat) (h : ∀ k, k < W → v k = u k) : roomSt v room R W = roomSt u room R W := by
  simp only [roomSt, vals, pairs, St.mk.injEq]
  refine ⟨List.map_congr_left fun i hi => h _ (by simp at hi; omega), trivial, List.map_congr_left fun i hi => by rw [h _ (by simp at hi; omega)]⟩
theorem toldW_congr (v u : Nat → Int) (room R W : Nat) (h : ∀ k, k < W → v k = u k) : toldW v room R W = toldW u room R W := by
  simp only [toldW, pairs]
  exact List.map_congr_left fun i hi => by rw [h _ (by simp at hi; omega)]
theorem toldR_congr (v u : Nat → Int) (R W : Nat) (h : ∀ k, k < W → v k = u k) : toldR v R W = toldR u R W := by
  simp only [toldR, rdt]
  exact List.map_congr_left fun i hi => by rw [h _ (by simp at hi; omega)]

theorem ofW_take (l : List (Int × Int)) (k : Nat) (h : k < l.length) : ofW (l.take (k + 1)) = if (l.getD k (0, 0)).1 < 0 then ofW (l.take k) else ofW (l.take k) ++ [l.getD k (0, 0)] := by
  have e : l.getD k (0, 0) = l[k] := by simp [List.getD_eq_getElem?_getD, h]
  rw [List.take_succ_eq_append_getElem h, e]
  simp only [ofW, List.filter_append, List.filter_cons, List.filter_nil]
  by_cases hn : l[k].1 < 0 <;> simp [hn]
theorem ofR_take (l : List (Int × Int)) (k : Nat) (h : k < l.length) : ofR (l.take (k + 1)) = if (l.getD k (0, 0)).1 < 0 then ofR (l.take k) ++ [l.getD k (0, 0)] else ofR (l.take k) := by
  have e : l.getD k (0, 0) = l[k] := by simp [List.getD_eq_getElem?_getD, h]
  rw [List.take_succ_eq_append_getElem h, e]
  simp only [ofR, List.filter_append, List.filter_cons, List.filter_nil]
  by_cases hn : l[k].1 < 0 <;> simp [hn]
end Go.Proofs.Ytmmnilckdlkggaa
