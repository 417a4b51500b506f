/- StreamOrder's plain law; the rows that the law keeps. -/
import Derived.Test.YtmmnilckdlkggaaRoomLaw
namespace Go.Proofs.Ytmmnilckdlkggaa
open Go.RowKit

def ofL (l : List Int) (k : Nat) : Int := l.getD k 0
theorem ofL_snoc (l : List Int) (x : Int) (k : Nat) (h : k < l.length) : ofL l k = ofL (l ++ [x]) k := by
  simp only [ofL, List.getD_eq_getElem?_getD]
  rw [List.getElem?_append_left h]
theorem ofL_last (l : List Int) (x : Int) : ofL (l ++ [x]) l.length = x := by simp [ofL, List.getD_eq_getElem?_getD]

theorem order_write (n R : Nat) (l : List Int) (x : Int) (h1 : 1 ≤ n) (h : l.length < R + n + 64) :
    ∃ y, writeM n (roomSt (ofL l) n R l.length) x (l.length : Int) = (roomSt (ofL (l ++ [x])) n R (l ++ [x]).length, y, 0) ∧ y.length ≤ 2 ∧
      toldW (ofL (l ++ [x])) n R l.length ++ ofW y = toldW (ofL (l ++ [x])) n R (l ++ [x]).length ∧ toldR (ofL (l ++ [x])) R l.length ++ ofR y = toldR (ofL (l ++ [x])) R (l ++ [x]).length := by
  obtain ⟨y, h2, h3, h4, h5⟩ := room_write (ofL (l ++ [x])) n R l.length h1 h
  rw [ofL_last] at h2
  refine ⟨y, ?_, h3, ?_, ?_⟩
  · rw [room_congr (ofL l) (ofL (l ++ [x])) n R l.length (fun k hk => ofL_snoc l x k hk), h2, List.length_append]
    rfl
  · rw [h4, List.length_append]
    rfl
  · rw [h5, List.length_append]
    rfl

theorem ofR_split (l : List (Int × Int)) (j : Nat) (h : j < l.length) (hn : (l.getD j (0, 0)).1 < 0) : ofR l = ofR (l.take j) ++ l.getD j (0, 0) :: ofR (l.drop (j + 1)) := by
  have e : l.getD j (0, 0) = l[j] := by simp [List.getD_eq_getElem?_getD, h]
  have e2 : l = l.take j ++ l[j] :: l.drop (j + 1) := by rw [← List.drop_eq_getElem_cons h, List.take_append_drop]
  rw [e]
  rw [e] at hn
  have e3 : ofR l = ofR (l.take j ++ l[j] :: l.drop (j + 1)) := congrArg ofR e2
  rw [e3]
  simp only [ofR, List.filter_append, List.filter_cons]
  rw [if_pos (by simpa using hn)]
theorem ofW_split (l : List (Int × Int)) (j : Nat) (h : j < l.length) (hn : ¬ (l.getD j (0, 0)).1 < 0) : ofW l = ofW (l.take j) ++ l.getD j (0, 0) :: ofW (l.drop (j + 1)) := by
  have e : l.getD j (0, 0) = l[j] := by simp [List.getD_eq_getElem?_getD, h]
  have e2 : l = l.take j ++ l[j] :: l.drop (j + 1) := by rw [← List.drop_eq_getElem_cons h, List.take_append_drop]
  rw [e]
  rw [e] at hn
  have e3 : ofW l = ofW (l.take j ++ l[j] :: l.drop (j + 1)) := congrArg ofW e2
  rw [e3]
  simp only [ofW, List.filter_append, List.filter_cons]
  rw [if_pos (by simpa using hn)]
theorem at_join (X Y Z : List (Int × Int)) (z : Int × Int) (h : X ++ z :: Y = Z) : Z[X.length]? = some z := by
  rw [← h]
  simp
theorem told_item_R (v : Nat → Int) (R W R' W' : Nat) (l : List (Int × Int)) (j : Nat) (h : toldR v R W ++ ofR l = toldR v R' W') (hj : j < l.length) (hn : (l.getD j (0, 0)).1 < 0) :
    l.getD j (0, 0) = (-1 - ((toldR v R W ++ ofR (l.take j)).length : Int), v (toldR v R W ++ ofR (l.take j)).length) ∧ (toldR v R W ++ ofR (l.take j)).length < min R' W' := by
  have h2 := h
  rw [ofR_split l j hj hn, ← List.append_assoc] at h2
  have h3 := at_join _ _ _ _ h2
  generalize (toldR v R W ++ ofR (l.take j)).length = m at h3 ⊢
  have hm : m < min R' W' := by
    rcases Nat.lt_or_ge m (min R' W') with h | h
    · exact h
    · rw [List.getElem?_eq_none (by simp only [toldR, rdt_length]; exact h)] at h3
      cases h3
  refine ⟨?_, hm⟩
  simp only [toldR, rdt, List.getElem?_map, List.getElem?_range hm, Option.map_some] at h3
  exact (Option.some.inj h3).symm
theorem told_item_W (v : Nat → Int) (n R W R' W' : Nat) (l : List (Int × Int)) (j : Nat) (h : toldW v n R W ++ ofW l = toldW v n R' W') (hj : j < l.length) (hn : ¬ (l.getD j (0, 0)).1 < 0) :
    l.getD j (0, 0) = (((toldW v n R W ++ ofW (l.take j)).length : Int), v (toldW v n R W ++ ofW (l.take j)).length) ∧ (toldW v n R W ++ ofW (l.take j)).length < min W' (R' + n) := by
  have h2 := h
  rw [ofW_split l j hj hn, ← List.append_assoc] at h2
  have h3 := at_join _ _ _ _ h2
  generalize (toldW v n R W ++ ofW (l.take j)).length = m at h3 ⊢
  have hm : m < min W' (R' + n) := by
    rcases Nat.lt_or_ge m (min W' (R' + n)) with h | h
    · exact h
    · rw [List.getElem?_eq_none (by simp only [toldW, pairs_length]; exact h)] at h3
      cases h3
  refine ⟨?_, hm⟩
  simp only [toldW, pairs, List.getElem?_map, List.getElem?_range hm, Option.map_some, Nat.zero_add] at h3
  exact (Option.some.inj h3).symm

theorem ofW_le' (l : List (Int × Int)) (j : Nat) : (ofW (l.take j)).length ≤ l.length := Nat.le_trans (List.length_filter_le _ _) (by rw [List.length_take]; omega)
theorem ofR_le' (l : List (Int × Int)) (j : Nat) : (ofR (l.take j)).length ≤ l.length := Nat.le_trans (List.length_filter_le _ _) (by rw [List.length_take]; omega)
/-- What readers were told. -/
def toldV (v : Nat → Int) (R W : Nat) : List Int := (toldR v R W).map (·.2)
theorem toldV_length (v : Nat → Int) (R W : Nat) : (toldV v R W).length = min R W := by simp [toldV, toldR, rdt]
theorem toldV_at (v : Nat → Int) (R W k : Nat) (h : k < min R W) : (toldV v R W).getD k 0 = v k := by
  simp [toldV, toldR, rdt, List.getD_eq_getElem?_getD, h]
theorem toldW_length (v : Nat → Int) (n R W : Nat) : (toldW v n R W).length = min W (R + n) := by simp [toldW, pairs]
theorem toldR_length (v : Nat → Int) (R W : Nat) : (toldR v R W).length = min R W := by simp [toldR, rdt]
theorem roomSt_lens (v : Nat → Int) (n R W : Nat) : (roomSt v n R W).bf.length = min W (R + n) - R ∧ (roomSt v n R W).rd.length = R - W ∧ (roomSt v n R W).wr.length = W - (R + n) := by
  simp [roomSt, vals, downs, pairs]

/-- A stream, what was written, what was told, each in blocks of its own. -/
structure OrdI (w0 w : World) (b n : Nat) (s : St) (F : Nat → Prop) (A9 : Option Addr) (c9 : Nat) (G9 : Option Nat) (wd : List Int) (A10 : Option Addr) (c10 : Nat) (G10 : Option Nat) (td : List Int) : Prop where
  st : StrI w0 w b n s F
  s9 : Sl w 3 1 A9 wd.length c9 (ints wd) G9
  s10 : Sl w 3 1 A10 td.length c10 (ints td) G10
  n9 : ∀ g, G9 = some g → ¬ F g ∧ w0.heap.size ≤ g
  n10 : ∀ g, G10 = some g → ¬ F g ∧ w0.heap.size ≤ g
  n910 : ∀ g, G9 = some g → G10 ≠ some g

section
variable {w0 w w' : World} {b n : Nat} {s t : St} {F : Nat → Prop} {A9 : Option Addr} {c9 : Nat} {G9 : Option Nat} {wd : List Int} {A10 : Option Addr} {c10 : Nat} {G10 : Option Nat} {td : List Int}
theorem OrdI.none (h : OrdI w0 w b n s F A9 c9 G9 wd A10 c10 G10 td) (ht : Tch NoBlk w w') : OrdI w0 w' b n s F A9 c9 G9 wd A10 c10 G10 td :=
  ⟨h.st.keep ht (fun _ _ h => h) (fun _ h => h.elim), h.s9.keep ht (fun _ _ h => h), h.s10.keep ht (fun _ _ h => h), h.n9, h.n10, h.n910⟩
theorem ord_write (h : OrdI w0 w b n s F A9 c9 G9 wd A10 c10 G10 td) (value who : Int) (t : St) (l : List (Int × Int)) (en : Int) (hm : writeM n s value who = (t, l, en)) :
    Calls Try.prog 11 #[.pointer (some ⟨b, 0, none⟩), .int .i64 value, .int .i64 who] w fun e w' =>
      ∃ A cap G, e = .returned (.tuple #[.slice A l.length cap, .int .i64 en]) ∧ Sl w' 34 2 A l.length cap (gots l) G ∧ (∀ g, G = some g → w.heap.size ≤ g) ∧ OrdI w0 w' b n t F A9 c9 G9 wd A10 c10 G10 td ∧ Tch F w w' := by
  refine (str_write h.st value who t l en hm).mono ?_
  rintro e w' ⟨A, c, G, rfl, h1, h2, h3, h4⟩
  exact ⟨A, c, G, rfl, h1, h2, ⟨h3, h.s9.keep h4 (fun g hg => (h.n9 g hg).1), h.s10.keep h4 (fun g hg => (h.n10 g hg).1), h.n9, h.n10, h.n910⟩, h4⟩
theorem ord_read (h : OrdI w0 w b n s F A9 c9 G9 wd A10 c10 G10 td) (who : Int) (t : St) (l : List (Int × Int)) (en : Int) (hm : readM s who = (t, l, en)) :
    Calls Try.prog 10 #[.pointer (some ⟨b, 0, none⟩), .int .i64 who] w fun e w' =>
      ∃ A cap G, e = .returned (.tuple #[.slice A l.length cap, .int .i64 en]) ∧ Sl w' 34 2 A l.length cap (gots l) G ∧ (∀ g, G = some g → w.heap.size ≤ g) ∧ OrdI w0 w' b n t F A9 c9 G9 wd A10 c10 G10 td ∧ Tch F w w' := by
  refine (str_read h.st who t l en hm).mono ?_
  rintro e w' ⟨A, c, G, rfl, h1, h2, h3, h4⟩
  exact ⟨A, c, G, rfl, h1, h2, ⟨h3, h.s9.keep h4 (fun g hg => (h.n9 g hg).1), h.s10.keep h4 (fun g hg => (h.n10 g hg).1), h.n9, h.n10, h.n910⟩, h4⟩
theorem OrdI.app9 (h : OrdI w0 w b n s F A9 c9 G9 wd A10 c10 G10 td) (T : Tch (fun k => G9 = some k) w w') {q : List Int} {A' : Option Addr} {c' : Nat} {G' : Option Nat} (hs : Sl w' 3 1 A' q.length c' (ints q) G') (hG : G' = G9 ∨ ∃ g, G' = some g ∧ w.heap.size ≤ g) :
    OrdI w0 w' b n s F A' c' G' q A10 c10 G10 td := by
  refine ⟨h.st.keep T (fun i hi e => (h.n9 i e).1 hi) (fun i e => (h.n9 i e).2), hs, h.s10.keep T (fun g hg e => h.n910 g e hg), fun g hg => ?_, h.n10, fun g hg e => ?_⟩
  · rcases hG with e | ⟨g', e, hl⟩
    · exact h.n9 g (e ▸ hg)
    · rw [e] at hg
      injection hg with hg
      subst hg
      exact ⟨fun hf => by have := h.st.q.lt _ hf; omega, Nat.le_trans h.st.below.size hl⟩
  · rcases hG with e2 | ⟨g', e2, hl⟩
    · exact h.n910 g (e2 ▸ hg) e
    · rw [e2] at hg
      injection hg with hg
      have := h.s10.lt g e
      omega
theorem OrdI.app10 (h : OrdI w0 w b n s F A9 c9 G9 wd A10 c10 G10 td) (T : Tch (fun k => G10 = some k) w w') {q : List Int} {A' : Option Addr} {c' : Nat} {G' : Option Nat} (hs : Sl w' 3 1 A' q.length c' (ints q) G') (hG : G' = G10 ∨ ∃ g, G' = some g ∧ w.heap.size ≤ g) :
    OrdI w0 w' b n s F A9 c9 G9 wd A' c' G' q := by
  refine ⟨h.st.keep T (fun i hi e => (h.n10 i e).1 hi) (fun i e => (h.n10 i e).2), h.s9.keep T (fun g hg e => h.n910 g hg e), hs, h.n9, fun g hg => ?_, fun g hg e => ?_⟩
  · rcases hG with e | ⟨g', e, hl⟩
    · exact h.n10 g (e ▸ hg)
    · rw [e] at hg
      injection hg with hg
      subst hg
      exact ⟨fun hf => by have := h.st.q.lt _ hf; omega, Nat.le_trans h.st.below.size hl⟩
  · rcases hG with e2 | ⟨g', e2, hl⟩
    · exact h.n910 g hg (e2 ▸ e)
    · rw [e2] at e
      injection e with e
      have := h.s9.lt g hg
      omega
end
end Go.Proofs.Ytmmnilckdlkggaa
