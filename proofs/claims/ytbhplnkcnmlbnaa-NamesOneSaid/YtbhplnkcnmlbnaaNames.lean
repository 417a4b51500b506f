/- Names, by numbers and the other way about: what its functions do, said of the list of names. -/
import Derived.Test.YtbhplnkcnmlbnaaProg
import Derived.Test.YtbhplnkcnmlbnaaSlices
import Derived.Test.YtbhplnkcnmlbnaaMaps
namespace Go.Proofs.Ytbhplnkcnmlbnaa
open Go.RowKit

/-- The number of a name, among names. -/
def npos (s : ByteArray) : List ByteArray → Nat → Option Nat
  | [], _ => none
  | x :: r, i => if s = x then some i else npos s r (i + 1)

def numb : List ByteArray → Nat → List (ByteArray × Value)
  | [], _ => []
  | s :: r, i => (s, .int .i64 i) :: numb r (i + 1)

theorem lk_numb (s : ByteArray) : ∀ (l : List ByteArray) (i : Nat), lk (numb l i) s = (npos s l i).map (fun n => .int .i64 (n : Int))
  | [], i => rfl
  | x :: r, i => by
    rw [numb, lk_cons, npos]
    split
    · rfl
    · exact lk_numb s r (i + 1)

theorem npos_lt (s : ByteArray) : ∀ (l : List ByteArray) (i n : Nat), npos s l i = some n → i ≤ n ∧ n < i + l.length ∧ l[n - i]? = some s
  | [], i, n, h => by simp [npos] at h
  | x :: r, i, n, h => by
    unfold npos at h
    split at h
    · rename_i he
      injection h with h
      subst h
      simp [he]
    · obtain ⟨h1, h2, h3⟩ := npos_lt s r (i + 1) n h
      refine ⟨by omega, by simp; omega, ?_⟩
      rw [show n - i = (n - (i + 1)) + 1 from by omega, List.getElem?_cons_succ]
      exact h3

theorem npos_none (s : ByteArray) : ∀ (l : List ByteArray) (i : Nat), npos s l i = none ↔ s ∉ l
  | [], i => by simp [npos]
  | x :: r, i => by
    unfold npos
    split
    · rename_i he
      simp [he]
    · rename_i he
      rw [npos_none s r (i + 1)]
      simp [he]

theorem npos_snoc (s t : ByteArray) : ∀ (l : List ByteArray) (i : Nat), npos s (l ++ [t]) i = (npos s l i).or (if s = t then some (i + l.length) else none)
  | [], i => by
    simp only [List.nil_append, npos, Option.none_or, List.length_nil, Nat.add_zero]
  | x :: r, i => by
    rw [List.cons_append, npos, npos]
    split
    · rfl
    · rw [npos_snoc s t r (i + 1), List.length_cons, show i + 1 + r.length = i + (r.length + 1) from by omega]

theorem numb_snoc (t : ByteArray) : ∀ (l : List ByteArray) (i : Nat), numb (l ++ [t]) i = numb l i ++ [(t, .int .i64 ((i + l.length : Nat) : Int))]
  | [], i => by simp [numb]
  | x :: r, i => by
    rw [List.cons_append, numb, numb, numb_snoc t r (i + 1), List.cons_append, List.length_cons, show i + 1 + r.length = i + (r.length + 1) from by omega]

theorem upd_numb (s : ByteArray) (l : List ByteArray) (h : npos s l 0 = none) : upd (numb l 0) s (.int .i64 (l.length : Int)) = numb (l ++ [s]) 0 := by
  have h1 : lk (numb l 0) s = none := by rw [lk_numb, h]; rfl
  have h2 : seek s (numb l 0) 0 = none := by
    unfold lk at h1
    exact Option.map_eq_none_iff.1 h1
  unfold upd
  rw [h2, numb_snoc, Nat.zero_add]

def strs (l : List ByteArray) : List Value := l.map .string
theorem strs_one (l : List ByteArray) : ∀ u ∈ strs l, u.oneCell' = true := by
  intro u hu
  simp only [strs, List.mem_map] at hu
  obtain ⟨x, _, rfl⟩ := hu
  rfl

theorem infoStr : (Try.prog.info? 9).map (fun i => (i.zero, i.size, i.bytes)) = some (some (.string ByteArray.empty), 1, 16) := by kernel_rfl
theorem zeroInt (w : World) : (zeroValue 3).run Try.prog w = .ok (.int .i64 0) w := by kernel_rfl
noncomputable def nameKeys : KeyKind Try.prog 9 ByteArray := strKeys Try.underlying9

structure NamesAt (w : World) (b : Nat) (l : List ByteArray) (A : Option Addr) (cap : Nat) (G : Option Nat) (r : Nat) : Prop where
  blk : Blk w b 51 [.slice A l.length cap, .map (some r)]
  sl : Sl w 9 1 A l.length cap (strs l) G
  mp : MapAt w r (ents nameKeys (numb l 0))
  ne : ∀ g, G = some g → g ≠ b ∧ g ≠ r
  rb : r ≠ b
  le : l.length ≤ 4096

/-- Names at block b are l; they lie in the blocks of F alone. -/
def NamesQ (w : World) (b : Nat) (l : List ByteArray) (F : Nat → Prop) : Prop :=
  ∃ A cap G r, NamesAt w b l A cap G r ∧ ∀ k, F k ↔ k = b ∨ k = r ∨ G = some k

theorem NamesQ.keep {w w' : World} {b : Nat} {l : List ByteArray} {F S : Nat → Prop} (h : NamesQ w b l F) (ht : Tch S w w') (hS : ∀ k, F k → ¬ S k) : NamesQ w' b l F := by
  obtain ⟨A, cap, G, r, h, hF⟩ := h
  exact ⟨A, cap, G, r, ⟨h.blk.keep ht (hS _ ((hF _).2 (.inl rfl))), h.sl.keep ht (fun g hg => hS _ ((hF _).2 (.inr (.inr hg)))), h.mp.keep ht (hS _ ((hF _).2 (.inr (.inl rfl)))), h.ne, h.rb, h.le⟩, hF⟩
theorem NamesQ.lt {w : World} {b : Nat} {l : List ByteArray} {F : Nat → Prop} (h : NamesQ w b l F) : ∀ k, F k → k < w.heap.size := by
  obtain ⟨A, cap, G, r, h, hF⟩ := h
  intro k hk
  rcases (hF k).1 hk with rfl | rfl | hk
  · exact h.blk.lt
  · exact h.mp.lt
  · exact h.sl.lt k hk
theorem NamesQ.le {w : World} {b : Nat} {l : List ByteArray} {F : Nat → Prop} (h : NamesQ w b l F) : l.length ≤ 4096 := by
  obtain ⟨A, cap, G, r, h, hF⟩ := h
  exact h.le

theorem names_new (w : World) :
    Calls Try.prog 9 #[] w fun e w' => ∃ b F, e = .returned (.pointer (some ⟨b, 0, none⟩)) ∧ NamesQ w' b [] F ∧ (∀ k, F k → w.heap.size ≤ k) ∧ Tch NoBlk w w' := by
  have hmm := @run_makeMap Try.prog
  go_enter Try.func9, Try.ntmps9
  go_wp2
  go_ret
  refine ⟨w.heap.size + 1, fun k => k = w.heap.size + 1 ∨ k = w.heap.size ∨ none = some k, ?_, ⟨none, 0, none, w.heap.size, ⟨?_, Sl.nil _ _ _, ?_, (fun g h => by cases h), by omega, by simp⟩, fun k => Iff.rfl⟩, fun k hk => ?_, ((Tch.refl _ _).alloc _).alloc _⟩
  · simp
  · have := Blk.new (w.alloc (.map #[] 0)) 51 [.slice none 0 0, .map (some w.heap.size)]
    simpa using this
  · exact (MapAt.new w).keep ((Tch.refl NoBlk _).alloc _) (fun h => h)
  · rcases hk with rfl | rfl | hk
    · omega
    · omega
    · cases hk

theorem names_len (b : Nat) (l : List ByteArray) (F : Nat → Prop) (w : World) (h : NamesQ w b l F) :
    Calls Try.prog 12 #[.pointer (some ⟨b, 0, none⟩)] w fun e w' => e = .returned (.int .i64 l.length) ∧ w' = w := by
  obtain ⟨A, cap, G, r, h, hF⟩ := h
  have hc := h.blk.cellOf 0 _ rfl
  go_enter Try.func12, Try.ntmps12
  go_wp2
  go_ret
  exact ⟨rfl, rfl⟩

theorem names_len_nil (w : World) :
    Calls Try.prog 12 #[.pointer none] w fun e w' => e = .returned (.int .i64 0) ∧ w' = w := by
  go_enter Try.func12, Try.ntmps12
  go_wp2
  go_ret
  exact ⟨rfl, rfl⟩

theorem names_text_yes (b : Nat) (l : List ByteArray) (F : Nat → Prop) (i : Int) (w : World) (h : NamesQ w b l F) (h0 : 0 ≤ i) (h1 : i < l.length) :
    Calls Try.prog 13 #[.pointer (some ⟨b, 0, none⟩), .int .i64 i] w fun e w' => e = .returned (.tuple #[.string (l.getD i.toNat ByteArray.empty), .bool true]) ∧ w' = w := by
  have hq := h
  obtain ⟨A, cap, G, r, h, hF⟩ := h
  obtain ⟨n, rfl⟩ := Int.eq_ofNat_of_zero_le h0
  have hn : n < l.length := by omega
  have hc := h.blk.cellOf 0 _ rfl
  obtain ⟨g, rfl, rfl, hcell⟩ := h.sl.cells (by omega)
  have hcl : w.cell? ⟨g, n, none⟩ = some (.string (l.getD n ByteArray.empty)) := hcell n _ (by simp [strs, List.getD_eq_getElem?_getD, hn])
  have hle := h.le
  clear hcell
  simp only [Int.toNat_natCast]
  generalize l.getD n ByteArray.empty = v at *
  go_enter Try.func13, Try.ntmps13
  go_wp2_with fail
  refine (names_len b l F _ hq).mono ?_
  rintro e w' ⟨rfl, rfl⟩
  go_wp2
  go_ret2
  exact ⟨rfl, rfl⟩

theorem names_text_no (b : Nat) (l : List ByteArray) (F : Nat → Prop) (i : Int) (w : World) (h : NamesQ w b l F) (h1 : i < 0 ∨ l.length ≤ i) :
    Calls Try.prog 13 #[.pointer (some ⟨b, 0, none⟩), .int .i64 i] w fun e w' => e = .returned (.tuple #[.string ByteArray.empty, .bool false]) ∧ w' = w := by
  by_cases h0 : i < 0
  · go_enter Try.func13, Try.ntmps13
    go_wp2
    go_ret2
    exact ⟨rfl, rfl⟩
  · have h2 : (l.length : Int) ≤ i := by omega
    clear h1
    go_enter Try.func13, Try.ntmps13
    go_wp2_with fail
    refine (names_len b l F _ h).mono ?_
    rintro e w' ⟨rfl, rfl⟩
    go_wp2
    go_ret2
    exact ⟨rfl, rfl⟩

theorem names_text_nil (i : Int) (w : World) :
    Calls Try.prog 13 #[.pointer none, .int .i64 i] w fun e w' => e = .returned (.tuple #[.string ByteArray.empty, .bool false]) ∧ w' = w := by
  by_cases h0 : i < 0
  · go_enter Try.func13, Try.ntmps13
    go_wp2
    go_ret2
    exact ⟨rfl, rfl⟩
  · have h2 : 0 ≤ i := by omega
    go_enter Try.func13, Try.ntmps13
    go_wp2_with fail
    refine (names_len_nil _).mono ?_
    rintro e w' ⟨rfl, rfl⟩
    go_wp2
    go_ret2
    exact ⟨rfl, rfl⟩

/-- What Find tells. -/
def told (o : Option Nat) : Value := .tuple #[.int .i64 ((o.getD 0 : Nat) : Int), .bool o.isSome]

theorem names_find (b : Nat) (l : List ByteArray) (F : Nat → Prop) (s : ByteArray) (w : World) (h : NamesQ w b l F) :
    Calls Try.prog 14 #[.pointer (some ⟨b, 0, none⟩), .string s] w fun e w' => e = .returned (told (npos s l 0)) ∧ w' = w := by
  obtain ⟨A, cap, G, r, h, hF⟩ := h
  have hc := h.blk.cellOf 1 _ rfl
  have hmp := h.mp
  have hu := lk_numb s l 0
  unfold told
  cases hn : npos s l 0 with
  | none =>
    rw [hn] at hu
    have HU := Lib.hid hu
    clear hu hn
    go_enter Try.func14, Try.ntmps14
    go_wp2_with (at_lookup; refine wpList_lk nameKeys rfl _ _ 43 3 rfl Try.underlying43 (.int .i64 0) zeroInt r _ s rfl rfl hmp none HU.out ?_)
    go_ret2
    exact ⟨rfl, rfl⟩
  | some n =>
    rw [hn] at hu
    have HU := Lib.hid hu
    clear hu hn
    go_enter Try.func14, Try.ntmps14
    go_wp2_with (at_lookup; refine wpList_lk nameKeys rfl _ _ 43 3 rfl Try.underlying43 (.int .i64 0) zeroInt r _ s rfl rfl hmp (some (.int .i64 n)) HU.out ?_)
    go_ret2
    exact ⟨rfl, rfl⟩

theorem names_find_nil (s : ByteArray) (w : World) :
    Calls Try.prog 14 #[.pointer none, .string s] w fun e w' => e = .returned (told none) ∧ w' = w := by
  go_enter Try.func14, Try.ntmps14
  go_wp2
  go_ret2
  exact ⟨rfl, rfl⟩

end Go.Proofs.Ytbhplnkcnmlbnaa
