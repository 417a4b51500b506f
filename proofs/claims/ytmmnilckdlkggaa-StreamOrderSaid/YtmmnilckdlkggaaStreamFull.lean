/- StreamFull's walk. -/
import Derived.Test.YtmmnilckdlkggaaStreamWaits
namespace Go.Proofs.Ytmmnilckdlkggaa
open Go.RowKit

/-- k writers from a on, all of the same value. -/
def wrs (a k : Nat) (v : Int) : List (Int × Int) := (List.range k).map fun j => (((a + j : Nat) : Int), v)
theorem wrs_length (a k : Nat) (v : Int) : (wrs a k v).length = k := by simp [wrs]
theorem wrs_snoc (a k : Nat) (v : Int) : wrs a (k + 1) v = wrs a k v ++ [(((a + k : Nat) : Int), v)] := by simp [wrs, List.range_succ]
theorem wrs_cons (a k : Nat) (v : Int) : wrs a (k + 1) v = ((a : Int), v) :: wrs (a + 1) k v := by
  apply List.ext_getElem?
  intro i
  cases i with
  | zero => simp [wrs]
  | succ i =>
    by_cases h : i < k
    · simp [wrs, h]
      omega
    · simp [wrs, h]

def fullW (n i : Nat) (v : Int) : St := ⟨List.replicate (min i n) v, [], wrs n (i - n) v⟩
def fullR (n k : Nat) (v : Int) : St := ⟨List.replicate (min n (n + 64 - k)) v, [], wrs (n + k) (64 - k) v⟩

theorem full_write1 (n i : Nat) (v : Int) (h : i < n) : writeM n (fullW n i v) v i = (fullW n (i + 1) v, [((i : Int), v)], 0) := by
  simp only [writeM, fullW, List.length_replicate]
  rw [if_pos (by omega), Nat.min_eq_left (by omega), Nat.min_eq_left (by omega), List.replicate_succ', show i - n = 0 from by omega, show i + 1 - n = 0 from by omega]
theorem full_write2 (n i : Nat) (v : Int) (h : n ≤ i) (h2 : i < n + 64) : writeM n (fullW n i v) v i = (fullW n (i + 1) v, [], 0) := by
  simp only [writeM, fullW, List.length_replicate, wrs_length]
  rw [if_neg (by omega), if_pos (by omega), Nat.min_eq_right (by omega), Nat.min_eq_right (by omega), show i + 1 - n = (i - n) + 1 from by omega, wrs_snoc, show n + (i - n) = i from by omega]
theorem full_write3 (n : Nat) (v who : Int) : writeM n (fullW n (n + 64) v) v who = (fullR n 0 v, [], 140) := by
  have e : fullW n (n + 64) v = fullR n 0 v := by
    simp only [fullW, fullR]
    rw [Nat.min_eq_right (by omega), Nat.min_eq_left (by omega), show n + 64 - n = 64 - 0 from by omega, Nat.add_zero]
  rw [e]
  simp only [writeM, fullR, List.length_replicate, wrs_length]
  rw [if_neg (by omega), if_neg (by omega)]
theorem full_read1 (n k : Nat) (v who : Int) (h : 1 ≤ n) (hk : k < 64) : readM (fullR n k v) who = (fullR n (k + 1) v, [(who, v), (((n + k : Nat) : Int), v)], 0) := by
  simp only [readM, fullR]
  rw [Nat.min_eq_left (by omega), show 64 - k = (63 - k) + 1 from by omega, wrs_cons]
  obtain ⟨m, rfl⟩ : ∃ m, n = m + 1 := ⟨n - 1, by omega⟩
  rw [List.replicate_succ]
  simp only
  rw [Nat.min_eq_left (by omega), show 64 - (k + 1) = 63 - k from by omega, List.replicate_succ', show m + 1 + (k + 1) = m + 1 + k + 1 from by omega]
theorem full_read2 (n k : Nat) (v who : Int) (hk : 64 ≤ k) (hn : k < n + 64) : readM (fullR n k v) who = (fullR n (k + 1) v, [(who, v)], 0) := by
  simp only [readM, fullR]
  rw [Nat.min_eq_right (by omega), Nat.min_eq_right (by omega), show 64 - k = 0 from by omega, show 64 - (k + 1) = 0 from by omega, show n + 64 - k = (n + 64 - (k + 1)) + 1 from by omega, List.replicate_succ]
  rfl
theorem full_last (room : Nat) (v : Int) : writeM room ⟨[], iota 0 64, []⟩ v 99 = (⟨[], iota 1 63, []⟩, [(0, v), (99, v)], 0) := by
  simp only [writeM, show (64 : Nat) = 63 + 1 from rfl, iota_cons]
  rfl
theorem full_read_no : readM ⟨[], iota 0 64, []⟩ 0 = (⟨[], iota 0 64, []⟩, [], 140) := by
  simp only [readM]
  rw [if_neg (by rw [iota_length]; omega)]

/-- Two streams, each in blocks of its own. -/
structure TwoI (w0 w : World) (b room : Nat) (s : St) (F : Nat → Prop) (b' room' : Nat) (s' : St) (F' : Nat → Prop) : Prop where
  one : StrI w0 w b room s F
  two : StrI w0 w b' room' s' F'
  ne : ∀ i, F i → F' i → False

section
variable {w0 w w' : World} {b room : Nat} {s t : St} {F : Nat → Prop} {b' room' : Nat} {s' : St} {F' : Nat → Prop}
theorem TwoI.swap (h : TwoI w0 w b room s F b' room' s' F') : TwoI w0 w b' room' s' F' b room s F := ⟨h.two, h.one, fun i x y => h.ne i y x⟩
theorem TwoI.keep {S : Nat → Prop} (h : TwoI w0 w b room s F b' room' s' F') (ht : Tch S w w') (hS : ∀ i, S i → ¬ F i ∧ ¬ F' i) (hB : ∀ i, S i → w0.heap.size ≤ i) : TwoI w0 w' b room s F b' room' s' F' :=
  ⟨h.one.keep ht (fun i hi hs => (hS i hs).1 hi) hB, h.two.keep ht (fun i hi hs => (hS i hs).2 hi) hB, h.ne⟩
theorem TwoI.alloc (h : TwoI w0 w b room s F b' room' s' F') (o : Obj) : TwoI w0 (w.alloc o) b room s F b' room' s' F' := ⟨h.one.alloc o, h.two.alloc o, h.ne⟩
theorem TwoI.drewN (h : TwoI w0 w b room s F b' room' s' F') (n : Nat) : TwoI w0 (w.drewN n) b room s F b' room' s' F' := ⟨h.one.drewN n, h.two.drewN n, h.ne⟩

theorem two_write (h : TwoI w0 w b room s F b' room' s' F') (value who : Int) (t : St) (l : List (Int × Int)) (en : Int) (hm : writeM room s value who = (t, l, en)) :
    Calls Try.prog 11 #[.pointer (some ⟨b, 0, none⟩), .int .i64 value, .int .i64 who] w fun e w' =>
      ∃ A cap G, e = .returned (.tuple #[.slice A l.length cap, .int .i64 en]) ∧ Sl w' 34 2 A l.length cap (gots l) G ∧ (∀ g, G = some g → w.heap.size ≤ g) ∧ TwoI w0 w' b room t F b' room' s' F' ∧ Tch F w w' := by
  refine (str_write h.one value who t l en hm).mono ?_
  rintro e w' ⟨A, c, G, rfl, h1, h2, h3, h4⟩
  exact ⟨A, c, G, rfl, h1, h2, ⟨h3, h.two.keep h4 (fun i x y => h.ne i y x) h.one.base, h.ne⟩, h4⟩
theorem two_read (h : TwoI w0 w b room s F b' room' s' F') (who : Int) (t : St) (l : List (Int × Int)) (en : Int) (hm : readM s who = (t, l, en)) :
    Calls Try.prog 10 #[.pointer (some ⟨b, 0, none⟩), .int .i64 who] w fun e w' =>
      ∃ A cap G, e = .returned (.tuple #[.slice A l.length cap, .int .i64 en]) ∧ Sl w' 34 2 A l.length cap (gots l) G ∧ (∀ g, G = some g → w.heap.size ≤ g) ∧ TwoI w0 w' b room t F b' room' s' F' ∧ Tch F w w' := by
  refine (str_read h.one who t l en hm).mono ?_
  rintro e w' ⟨A, c, G, rfl, h1, h2, h3, h4⟩
  exact ⟨A, c, G, rfl, h1, h2, ⟨h3, h.two.keep h4 (fun i x y => h.ne i y x) h.one.base, h.ne⟩, h4⟩
end
end Go.Proofs.Ytmmnilckdlkggaa
