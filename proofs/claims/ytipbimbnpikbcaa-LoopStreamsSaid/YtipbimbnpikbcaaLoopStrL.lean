/- LoopStreams: what reads and writes make of a loop with one stream. No program in sight. -/
import Derived.Test.YtipbimbnpikbcaaLoopRS
import Derived.Test.YtipbimbnpikbcaaLoopLoad
namespace Go.Proofs.Ytipbimbnpikbcaa

/-- For the promise p one reaction waits, fn. -/
def Wt (prs : List Pr) (wa : List (Int × Int)) (p : Nat) (fn : Int) : Prop := ∃ i : Nat, prs[p]? = some ⟨false, 0, [(i : Int)]⟩ ∧ wa[i]? = some (4, fn)
theorem Wt.lt {prs : List Pr} {wa : List (Int × Int)} {p : Nat} {fn : Int} (h : Wt prs wa p fn) : p < prs.length := by
  obtain ⟨i, h1, _⟩ := h
  exact (List.getElem?_eq_some_iff.1 h1).1
theorem Wt.more {prs : List Pr} {wa : List (Int × Int)} {p : Nat} {fn : Int} (h : Wt prs wa p fn) (x : List Pr) (y : List (Int × Int)) : Wt (prs ++ x) (wa ++ y) p fn := by
  obtain ⟨i, h1, h2⟩ := h
  exact ⟨i, by rw [List.getElem?_append_left (List.getElem?_eq_some_iff.1 h1).1]; exact h1, by rw [List.getElem?_append_left (List.getElem?_eq_some_iff.1 h2).1]; exact h2⟩
theorem Wt.set {prs : List Pr} {wa : List (Int × Int)} {p q : Nat} {fn : Int} (h : Wt prs wa p fn) (hq : q ≠ p) (x : Pr) : Wt (prs.set q x) wa p fn := by
  obtain ⟨i, h1, h2⟩ := h
  exact ⟨i, by rw [List.getElem?_set_ne hq]; exact h1, h2⟩
/-- Reads that wait, from number k on. -/
def WtR (prs : List Pr) (wa : List (Int × Int)) : Nat → List Int → Prop
  | _, [] => True
  | k, p :: ps => (∃ q : Nat, p = (q : Int) ∧ Wt prs wa q (k : Int)) ∧ p ∉ ps ∧ WtR prs wa (k + 1) ps
/-- Writes that wait, from number k on. -/
def WtW (prs : List Pr) (wa : List (Int × Int)) : Nat → List (Int × Int) → Prop
  | _, [] => True
  | k, x :: xs => (∃ q : Nat, x = ((q : Int), 7 * (k : Int)) ∧ Wt prs wa q (1000 + (k : Int))) ∧ (∀ y ∈ xs, y.1 ≠ x.1) ∧ WtW prs wa (k + 1) xs
theorem WtR.mono {prs prs' : List Pr} {wa wa' : List (Int × Int)} {l : List Int} : ∀ {k : Nat}, WtR prs wa k l → (∀ (p : Nat) (fn : Int), (p : Int) ∈ l → Wt prs wa p fn → Wt prs' wa' p fn) → WtR prs' wa' k l := by
  induction l with
  | nil => intro k _ _; trivial
  | cons x l ih =>
    rintro k ⟨⟨q, e, hq⟩, h2, h3⟩ H
    exact ⟨⟨q, e, H q _ (by rw [e]; simp) hq⟩, h2, ih h3 (fun p fn hp => H p fn (List.mem_cons_of_mem _ hp))⟩
theorem WtW.mono {prs prs' : List Pr} {wa wa' : List (Int × Int)} {l : List (Int × Int)} : ∀ {k : Nat}, WtW prs wa k l → (∀ (p : Nat) (fn : Int), (∃ y ∈ l, y.1 = (p : Int)) → Wt prs wa p fn → Wt prs' wa' p fn) → WtW prs' wa' k l := by
  induction l with
  | nil => intro k _ _; trivial
  | cons x l ih =>
    rintro k ⟨⟨q, e, hq⟩, h2, h3⟩ H
    exact ⟨⟨q, e, H q _ ⟨x, by simp, by rw [e]⟩ hq⟩, h2, ih h3 (fun p fn ⟨y, hy, e2⟩ => H p fn ⟨y, List.mem_cons_of_mem _ hy, e2⟩)⟩
theorem WtR.lt {prs : List Pr} {wa : List (Int × Int)} {l : List Int} : ∀ {k : Nat}, WtR prs wa k l → ∀ x ∈ l, x < (prs.length : Int) := by
  induction l with
  | nil => intro k _ x hx; simp at hx
  | cons y l ih =>
    rintro k ⟨⟨q, e, hq⟩, h2, h3⟩ x hx
    rcases List.mem_cons.1 hx with rfl | hx
    · have := hq.lt
      omega
    · exact ih h3 x hx
theorem WtW.lt {prs : List Pr} {wa : List (Int × Int)} {l : List (Int × Int)} : ∀ {k : Nat}, WtW prs wa k l → ∀ x ∈ l, x.1 < (prs.length : Int) := by
  induction l with
  | nil => intro k _ x hx; simp at hx
  | cons y l ih =>
    rintro k ⟨⟨q, e, hq⟩, h2, h3⟩ x hx
    rcases List.mem_cons.1 hx with rfl | hx
    · have := hq.lt
      rw [e]
      dsimp only
      omega
    · exact ih h3 x hx
theorem WtR.snoc {prs : List Pr} {wa : List (Int × Int)} {l : List Int} {q : Nat} (hn : (q : Int) ∉ l) : ∀ {k : Nat}, WtR prs wa k l → Wt prs wa q ((k + l.length : Nat) : Int) → WtR prs wa k (l ++ [(q : Int)]) := by
  induction l with
  | nil => intro k _ hq; exact ⟨⟨q, rfl, by simpa using hq⟩, by simp, trivial⟩
  | cons x l ih =>
    rintro k ⟨h1, h2, h3⟩ hq
    have hx : x ≠ (q : Int) := fun e => hn (by rw [e]; simp)
    refine ⟨h1, ?_, ih (fun h => hn (List.mem_cons_of_mem _ h)) h3 ?_⟩
    · simp [h2, hx]
    · rw [show k + 1 + l.length = k + (x :: l).length by simp; omega]
      exact hq
theorem WtW.snoc {prs : List Pr} {wa : List (Int × Int)} {l : List (Int × Int)} {q : Nat} (hn : ∀ y ∈ l, y.1 ≠ (q : Int)) : ∀ {k : Nat}, WtW prs wa k l → Wt prs wa q (1000 + ((k + l.length : Nat) : Int)) → WtW prs wa k (l ++ [((q : Int), 7 * ((k + l.length : Nat) : Int))]) := by
  induction l with
  | nil => intro k _ hq; exact ⟨⟨q, rfl, by simpa using hq⟩, by simp, trivial⟩
  | cons x l ih =>
    rintro k ⟨h1, h2, h3⟩ hq
    have e : k + 1 + l.length = k + (x :: l).length := by simp; omega
    have := ih (fun y hy => hn y (List.mem_cons_of_mem _ hy)) h3 (by rw [e]; exact hq)
    rw [e] at this
    refine ⟨h1, fun y hy => ?_, this⟩
    rcases List.mem_append.1 hy with hy | hy
    · exact h2 y hy
    · rw [List.mem_singleton.1 hy]
      exact fun e => hn x (by simp) e.symm
def bfL (a c : Nat) : List Int := (List.range' a (c - a)).map fun (k : Nat) => 7 * (k : Int)
theorem bfL_nil {a c : Nat} (h : c ≤ a) : bfL a c = [] := by simp [bfL, Nat.sub_eq_zero_of_le h]
theorem bfL_cons {a c : Nat} (h : a < c) : bfL a c = 7 * (a : Int) :: bfL (a + 1) c := by
  unfold bfL
  rw [show c - a = (c - (a + 1)) + 1 by omega, List.range'_succ]
  rfl
theorem bfL_snoc {a c : Nat} (h : a ≤ c) : bfL a c ++ [7 * (c : Int)] = bfL a (c + 1) := by
  unfold bfL
  rw [show c + 1 - a = (c - a) + 1 by omega, List.range'_concat, List.map_append]
  simp
  omega
theorem bfL_len (a c : Nat) : (bfL a c).length = c - a := by simp [bfL]
def rdT (k : Nat) : Int × Int × Int := (4, (k : Int), 7 * (k : Int))
def wrT (k : Nat) : Int × Int × Int := (4, 1000 + (k : Int), 7 * (k : Int))
def isR (x : Int × Int × Int) : Bool := decide (x.2.1 < 1000)
/-- After R reads and W writes at a stream of room n. -/
structure SI (n R W : Nat) (mi : List (Int × Int × Int)) (wa : List (Int × Int)) (prs : List Pr) (st : St) : Prop where
  bf : st.bf = bfL R (min W (R + n))
  rl : st.rd.length = R - W
  wl : st.wr.length = W - (R + n)
  rd : WtR prs wa W st.rd
  wr : WtW prs wa (R + n) st.wr
  len : prs.length = R + W
  mR : mi.filter isR = (List.range (min R W)).map rdT
  mW : mi.filter (fun x => !isR x) = (List.range (min W (R + n))).map wrT
  ml : mi.length ≤ 2 * (R + W)
  ld : qsum prs ≤ R + W
theorem SI.new (n : Nat) : SI n 0 0 [] [] [] ⟨[], [], []⟩ := ⟨by simp [bfL], rfl, by simp, trivial, trivial, rfl, by simp, by simp, by simp, by simp [qsum]⟩
theorem set_last {α : Type} (l : List α) (a b : α) : (l ++ [a]).set l.length b = l ++ [b] := by
  rw [List.set_append_right _ _ (Nat.le_refl _)]
  simp
theorem get_last {α : Type} (l : List α) (a : α) : (l ++ [a])[l.length]? = some a := by simp
theorem qsum_app (l m : List Pr) : qsum (l ++ m) = qsum l + qsum m := by simp [qsum]
theorem isR_rd {k : Nat} (h : k < 1000) : isR (rdT k) = true := decide_eq_true (show (k : Int) < 1000 by omega)
theorem isR_wr (k : Nat) : isR (wrT k) = false := decide_eq_false (show ¬ (1000 + (k : Int) < 1000) by omega)
theorem filt_rd {mi : List (Int × Int × Int)} {k : Nat} (h : k < 1000) : (mi ++ [rdT k]).filter isR = mi.filter isR ++ [rdT k] ∧ (mi ++ [rdT k]).filter (fun x => !isR x) = mi.filter (fun x => !isR x) := by
  simp [List.filter_append, isR_rd h]
theorem filt_wr {mi : List (Int × Int × Int)} (k : Nat) : (mi ++ [wrT k]).filter isR = mi.filter isR ∧ (mi ++ [wrT k]).filter (fun x => !isR x) = mi.filter (fun x => !isR x) ++ [wrT k] := by
  simp [List.filter_append, isR_wr k]
theorem range_snocT {α : Type} (f : Nat → α) (k : Nat) : (List.range k).map f ++ [f k] = (List.range (k + 1)).map f := by simp [List.range_succ]
section
variable {s : Lp} {N n R W : Nat} {mi : List (Int × Int × Int)} {wa : List (Int × Int)} {prs : List Pr} {st st' : St}
/-- A promise more, what is told. -/
theorem RS.moves (h : RS s mi wa prs [(n, st)] N) (hl : prs.length < 512) (f : Nat → St → Int → St × List (Int × Int) × Int) (out : List (Int × Int)) (hf : f n st (prs.length : Int) = (st', out, 0)) :
    ∃ s1, RS s1 mi wa (prs ++ [⟨false, 0, []⟩]) [(n, st')] N ∧ movesL s 0 f = (settlesL s1 out, prs.length, 0) := by
  have h1 : RS { s with str := [(n, st')] } mi wa prs [(n, st')] N := ⟨h.mac, h.mic, h.wai, h.prs, rfl, h.off, h.ab⟩
  obtain ⟨s1, e1, r1⟩ := h1.promise hl
  refine ⟨s1, r1, ?_⟩
  unfold movesL
  rw [h.str, if_neg (by simp), if_neg (by rw [h.prs]; omega), h.prs]
  rw [h.prs] at e1
  simp only [Int.toNat_zero, List.getD_eq_getElem?_getD, List.getElem?_cons_zero, Option.getD_some, List.set_cons_zero, hf, ne_eq, not_true_eq_false, if_false]
  rw [e1]
theorem RS.settle1 (h : RS s mi wa prs [(n, st)] N) (i : Nat) (v : Int) {fn : Int} (hp : Wt prs wa i fn) :
    ∃ s', (settleL s i v).1 = s' ∧ RS s' (mi ++ [(4, fn, v)]) wa (prs.set i ⟨true, v, []⟩) [(n, st)] N := by
  obtain ⟨k, h1, h2⟩ := hp
  obtain ⟨s', e, r⟩ := h.settle i v h1
  refine ⟨s', by rw [e], ?_⟩
  have : [(k : Int)].map (toldW wa v) = [(4, fn, v)] := by simp [toldW, List.getD_eq_getElem?_getD, h2]
  rw [this] at r
  exact r
theorem RS.settle0 (h : RS s mi wa (prs ++ [⟨false, 0, []⟩]) [(n, st)] N) (v : Int) :
    ∃ s', (settleL s (prs.length : Int) v).1 = s' ∧ RS s' mi wa (prs ++ [⟨true, v, []⟩]) [(n, st)] N := by
  obtain ⟨s', e, r⟩ := h.settle prs.length v (v0 := 0) (q := []) (get_last _ _)
  refine ⟨s', by rw [e], ?_⟩
  rw [set_last] at r
  simpa using r
/-- What an act made. -/
structure Acted (s : Lp) (n R W R' W' N : Nat) (m : Lp × Nat × Int) (fn : Int) (s2 : Lp) : Prop where
  mv : m.2 = (R + W, 0)
  mic : m.1.mic.length ≤ 2 * (R + W) + 2
  th : thenL m.1 ((R + W : Nat) : Int) fn = (s2, N, 0)
  rest : ∃ mi wa prs st, RS s2 mi wa prs [(n, st)] (N + 1) ∧ SI n R' W' mi wa prs st
theorem SI.read (h : SI n R W mi wa prs st) (hs : RS s mi wa prs [(n, st)] N) (hn : 1 ≤ n) (hRW : R < W + 64) (hb : R + W < 100) (hN : N < 1024) :
    ∃ s2, Acted s n R W (R + 1) W N (readL s 0) (R : Int) s2 := by
  obtain ⟨bf, rd, wr⟩ := st
  obtain ⟨h1, h2, h3, h4, h5, h6, h7, h8, h9, h10⟩ := h
  dsimp only at h1 h2 h3 h4 h5
  by_cases hc : W ≤ R
  · -- it waits
    rw [bfL_nil (by omega)] at h1
    subst h1
    have hwr : wr = [] := List.eq_nil_of_length_eq_zero (by omega)
    subst hwr
    have hf : readM ⟨[], rd, []⟩ (prs.length : Int) = (⟨[], rd ++ [(prs.length : Int)], []⟩, [], 0) := by
      unfold readM
      dsimp only
      rw [if_pos (by omega)]
    obtain ⟨s1, r1, e1⟩ := hs.moves (by omega) (fun _ st who => readM st who) [] hf
    obtain ⟨s2, e2, r2⟩ := r1.thenWait prs.length (R : Int) (v0 := 0) (q := []) (get_last _ _) (by simp) hN
    have eR : readL s 0 = (s1, prs.length, 0) := e1
    rw [eR]
    refine ⟨s2, by rw [h6], by rw [r1.micLen]; show mi.length ≤ _; omega, by rw [h6] at e2; exact e2, _, _, _, _, r2, ?_⟩
    rw [set_last]
    have hw : Wt (prs ++ [⟨false, 0, [] ++ [(wa.length : Int)]⟩]) (wa ++ [(4, (R : Int))]) prs.length (R : Int) := ⟨wa.length, get_last _ _, get_last _ _⟩
    refine ⟨(bfL_nil (by omega)).symm, by simp; omega, by simp; omega, ?_, trivial, by simp; omega, ?_, ?_, by omega, by rw [qsum_app]; simp [qsum] at h10 ⊢; omega⟩
    · have hm := h4.mono (prs' := prs ++ [⟨false, 0, [] ++ [(wa.length : Int)]⟩]) (wa' := wa ++ [(4, (R : Int))]) (fun p fn _ hw => hw.more _ _)
      refine WtR.snoc (fun hin => ?_) hm ?_
      · have := h4.lt _ hin
        omega
      · rw [show W + rd.length = R by omega]
        exact hw
    · rw [h7, show min (R + 1) W = min R W by omega]
    · rw [h8, show min W (R + 1 + n) = min W (R + n) by omega]
  · have hrd : rd = [] := List.eq_nil_of_length_eq_zero (by omega)
    subst hrd
    rw [bfL_cons (by omega)] at h1
    by_cases hc2 : W ≤ R + n
    · -- a value that is there
      have hwr : wr = [] := List.eq_nil_of_length_eq_zero (by omega)
      subst hwr
      have hf : readM ⟨bf, [], []⟩ (prs.length : Int) = (⟨bfL (R + 1) (min W (R + n)), [], []⟩, [((prs.length : Int), 7 * (R : Int))], 0) := by
        unfold readM
        rw [h1]
      obtain ⟨s1, r1, e1⟩ := hs.moves (by omega) (fun _ st who => readM st who) _ hf
      obtain ⟨s1', e1', r1'⟩ := r1.settle0 (7 * (R : Int))
      obtain ⟨s2, e2, r2⟩ := r1'.thenTold prs.length (R : Int) (v := 7 * (R : Int)) (q := []) (get_last _ _) hN
      have eR : readL s 0 = (s1', prs.length, 0) := by rw [← e1']; exact e1
      rw [eR]
      refine ⟨s2, by rw [h6], by rw [r1'.micLen]; show mi.length ≤ _; omega, by rw [h6] at e2; exact e2, _, _, _, _, r2, ?_⟩
      have hfl := filt_rd (mi := mi) (k := R) (by omega)
      refine ⟨by rw [show min W (R + 1 + n) = min W (R + n) by omega], by simp; omega, by simp; omega, trivial, trivial, by simp; omega, ?_, ?_, by simp; omega, by rw [qsum_app]; simp [qsum] at h10 ⊢; omega⟩
      · rw [show (4, (R : Int), 7 * (R : Int)) = rdT R from rfl, hfl.1, h7, show min R W = R by omega, show min (R + 1) W = R + 1 by omega, range_snocT]
      · rw [show (4, (R : Int), 7 * (R : Int)) = rdT R from rfl, hfl.2, h8, show min W (R + 1 + n) = min W (R + n) by omega]
    · -- and one that waited comes in
      cases wr with
      | nil => simp at h3; omega
      | cons x wr =>
        obtain ⟨⟨q, rfl, hq⟩, h5b, h5c⟩ := h5
        have hm : min W (R + n) = R + n := by omega
        rw [hm] at h1 h8
        have hf : readM ⟨bf, [], ((q : Int), 7 * ((R + n : Nat) : Int)) :: wr⟩ (prs.length : Int) = (⟨bfL (R + 1) (R + 1 + n), [], wr⟩, [((prs.length : Int), 7 * (R : Int)), ((q : Int), 7 * ((R + n : Nat) : Int))], 0) := by
          unfold readM
          rw [h1]
          dsimp only
          rw [bfL_snoc (by omega), show R + n + 1 = R + 1 + n by omega]
        have hql := hq.lt
        obtain ⟨s1, r1, e1⟩ := hs.moves (by omega) (fun _ st who => readM st who) _ hf
        obtain ⟨s1', e1', r1'⟩ := r1.settle0 (7 * (R : Int))
        have hq' : Wt (prs ++ [⟨true, 7 * (R : Int), []⟩]) wa q (1000 + ((R + n : Nat) : Int)) := by
          have := hq.more [⟨true, 7 * (R : Int), []⟩] []
          rwa [List.append_nil] at this
        obtain ⟨s1'', e1'', r1''⟩ := r1'.settle1 q (7 * ((R + n : Nat) : Int)) hq'
        have hgl : ((prs ++ [(⟨true, 7 * (R : Int), []⟩ : Pr)]).set q ⟨true, 7 * ((R + n : Nat) : Int), []⟩)[prs.length]? = some ⟨true, 7 * (R : Int), []⟩ := by
          rw [List.getElem?_set_ne (by omega)]
          exact get_last _ _
        obtain ⟨s2, e2, r2⟩ := r1''.thenTold prs.length (R : Int) (v := 7 * (R : Int)) (q := []) hgl hN
        have eR : readL s 0 = (s1'', prs.length, 0) := by
          rw [← e1'', ← e1']
          exact e1
        rw [eR]
        refine ⟨s2, by rw [h6], by rw [r1''.micLen]; simp; omega, by rw [h6] at e2; exact e2, _, _, _, _, r2, ?_⟩
        rw [show ((4 : Int), 1000 + ((R + n : Nat) : Int), 7 * ((R + n : Nat) : Int)) = wrT (R + n) from rfl, show (4, (R : Int), 7 * (R : Int)) = rdT R from rfl]
        have hfl := filt_rd (mi := mi ++ [wrT (R + n)]) (k := R) (by omega)
        have hfw := filt_wr (mi := mi) (R + n)
        have hqs : qsum ((prs ++ [(⟨true, 7 * (R : Int), []⟩ : Pr)]).set q ⟨true, 7 * ((R + n : Nat) : Int), []⟩) ≤ R + 1 + W := by
          obtain ⟨i, g1, _⟩ := hq'
          have := qsum_set ⟨true, 7 * ((R + n : Nat) : Int), []⟩ g1
          rw [qsum_app] at this
          simp [qsum] at this h10 ⊢
          omega
        refine ⟨by rw [show min W (R + 1 + n) = R + 1 + n by omega], by simp; omega, by simp at h3 ⊢; omega, trivial, ?_, by simp; omega, ?_, ?_, by simp; omega, hqs⟩
        · rw [show R + 1 + n = R + n + 1 by omega]
          refine h5c.mono (fun p fn ⟨y, hy, ey⟩ hw => ?_)
          have h9 := (hw.more [⟨true, 7 * (R : Int), []⟩] []).set (q := q) (fun e => h5b y hy (by rw [ey, e])) ⟨true, 7 * ((R + n : Nat) : Int), []⟩
          rwa [List.append_nil] at h9
        · rw [hfl.1, hfw.1, h7, show min R W = R by omega, show min (R + 1) W = R + 1 by omega, range_snocT]
        · rw [hfl.2, hfw.2, h8, show min W (R + 1 + n) = R + n + 1 by omega, range_snocT]
theorem SI.write (h : SI n R W mi wa prs st) (hs : RS s mi wa prs [(n, st)] N) (hRW : W < R + n + 64) (hb : R + W < 100) (hN : N < 1024) :
    ∃ s2, Acted s n R W R (W + 1) N (writeL s 0 (7 * (W : Int))) (1000 + (W : Int)) s2 := by
  obtain ⟨bf, rd, wr⟩ := st
  obtain ⟨h1, h2, h3, h4, h5, h6, h7, h8, h9, h10⟩ := h
  dsimp only at h1 h2 h3 h4 h5
  by_cases hc : W < R
  · -- one that waits is told
    cases rd with
    | nil => simp at h2; omega
    | cons x rd =>
      obtain ⟨⟨q, rfl, hq⟩, h4b, h4c⟩ := h4
      rw [bfL_nil (by omega)] at h1
      subst h1
      have hwr : wr = [] := List.eq_nil_of_length_eq_zero (by omega)
      subst hwr
      have hf : writeM n ⟨[], (q : Int) :: rd, []⟩ (7 * (W : Int)) (prs.length : Int) = (⟨[], rd, []⟩, [((q : Int), 7 * (W : Int)), ((prs.length : Int), 7 * (W : Int))], 0) := rfl
      have hql := hq.lt
      obtain ⟨s1, r1, e1⟩ := hs.moves (by omega) (fun room st who => writeM room st (7 * (W : Int)) who) _ hf
      have hq' : Wt (prs ++ [⟨false, 0, []⟩]) wa q (W : Int) := by
        have := hq.more [⟨false, 0, []⟩] []
        rwa [List.append_nil] at this
      obtain ⟨s1', e1', r1'⟩ := r1.settle1 q (7 * (W : Int)) hq'
      rw [List.set_append_left _ _ hql] at r1'
      have hlen : (prs.set q ⟨true, 7 * (W : Int), []⟩).length = prs.length := by simp
      obtain ⟨s1'', e1'', r1''⟩ := r1'.settle0 (7 * (W : Int))
      obtain ⟨s2, e2, r2⟩ := r1''.thenTold (prs.set q ⟨true, 7 * (W : Int), []⟩).length (1000 + (W : Int)) (v := 7 * (W : Int)) (q := []) (get_last _ _) hN
      rw [hlen] at e2 e1''
      have eR : writeL s 0 (7 * (W : Int)) = (s1'', prs.length, 0) := by
        rw [← e1'', ← e1']
        exact e1
      rw [eR]
      refine ⟨s2, by rw [h6], by rw [r1''.micLen]; simp; omega, by rw [h6] at e2; exact e2, _, _, _, _, r2, ?_⟩
      rw [show ((4 : Int), 1000 + (W : Int), 7 * (W : Int)) = wrT W from rfl, show (4, (W : Int), 7 * (W : Int)) = rdT W from rfl]
      have hfl := filt_rd (mi := mi) (k := W) (by omega)
      have hfw := filt_wr (mi := mi ++ [rdT W]) W
      have hqs : qsum (prs.set q ⟨true, 7 * (W : Int), []⟩ ++ [⟨true, 7 * (W : Int), []⟩]) ≤ R + (W + 1) := by
        obtain ⟨i, g1, _⟩ := hq
        have := qsum_set ⟨true, 7 * (W : Int), []⟩ g1
        rw [qsum_app]
        simp [qsum] at this h10 ⊢
        omega
      refine ⟨(bfL_nil (by omega)).symm, by simp at h2 ⊢; omega, by simp; omega, ?_, trivial, by simp; omega, ?_, ?_, by simp; omega, hqs⟩
      · refine h4c.mono (fun p fn hp hw => ?_)
        have h9 := (hw.set (q := q) (fun e => h4b (by rw [e]; exact hp)) ⟨true, 7 * (W : Int), []⟩).more [⟨true, 7 * (W : Int), []⟩] []
        rwa [List.append_nil] at h9
      · rw [hfw.1, hfl.1, h7, show min R W = W by omega, show min R (W + 1) = W + 1 by omega, range_snocT]
      · rw [hfw.2, hfl.2, h8, show min W (R + n) = W by omega, show min (W + 1) (R + n) = W + 1 by omega, range_snocT]
  · have hrd : rd = [] := List.eq_nil_of_length_eq_zero (by omega)
    subst hrd
    by_cases hc2 : W < R + n
    · -- there is room
      have hm : min W (R + n) = W := by omega
      rw [hm] at h1 h8
      have hwr : wr = [] := List.eq_nil_of_length_eq_zero (by omega)
      subst hwr
      have hf : writeM n ⟨bf, [], []⟩ (7 * (W : Int)) (prs.length : Int) = (⟨bfL R (W + 1), [], []⟩, [((prs.length : Int), 7 * (W : Int))], 0) := by
        unfold writeM
        dsimp only
        rw [h1, if_pos (by rw [bfL_len]; omega), bfL_snoc (by omega)]
      obtain ⟨s1, r1, e1⟩ := hs.moves (by omega) (fun room st who => writeM room st (7 * (W : Int)) who) _ hf
      obtain ⟨s1', e1', r1'⟩ := r1.settle0 (7 * (W : Int))
      obtain ⟨s2, e2, r2⟩ := r1'.thenTold prs.length (1000 + (W : Int)) (v := 7 * (W : Int)) (q := []) (get_last _ _) hN
      have eR : writeL s 0 (7 * (W : Int)) = (s1', prs.length, 0) := by rw [← e1']; exact e1
      rw [eR]
      refine ⟨s2, by rw [h6], by rw [r1'.micLen]; show mi.length ≤ _; omega, by rw [h6] at e2; exact e2, _, _, _, _, r2, ?_⟩
      rw [show ((4 : Int), 1000 + (W : Int), 7 * (W : Int)) = wrT W from rfl]
      have hfw := filt_wr (mi := mi) W
      refine ⟨by rw [show min (W + 1) (R + n) = W + 1 by omega], by simp; omega, by simp; omega, trivial, trivial, by simp; omega, ?_, ?_, by simp; omega, by rw [qsum_app]; simp [qsum] at h10 ⊢; omega⟩
      · rw [hfw.1, h7, show min R (W + 1) = min R W by omega]
      · rw [hfw.2, h8, show min (W + 1) (R + n) = W + 1 by omega, range_snocT]
    · -- it waits
      have hm : min W (R + n) = R + n := by omega
      rw [hm] at h1 h8
      have hf : writeM n ⟨bf, [], wr⟩ (7 * (W : Int)) (prs.length : Int) = (⟨bfL R (R + n), [], wr ++ [((prs.length : Int), 7 * (W : Int))]⟩, [], 0) := by
        unfold writeM
        dsimp only
        rw [h1, if_neg (by rw [bfL_len]; omega), if_pos (by omega)]
      obtain ⟨s1, r1, e1⟩ := hs.moves (by omega) (fun room st who => writeM room st (7 * (W : Int)) who) [] hf
      obtain ⟨s2, e2, r2⟩ := r1.thenWait prs.length (1000 + (W : Int)) (v0 := 0) (q := []) (get_last _ _) (by simp) hN
      have eR : writeL s 0 (7 * (W : Int)) = (s1, prs.length, 0) := e1
      rw [eR]
      refine ⟨s2, by rw [h6], by rw [r1.micLen]; show mi.length ≤ _; omega, by rw [h6] at e2; exact e2, _, _, _, _, r2, ?_⟩
      rw [set_last]
      have hw : Wt (prs ++ [⟨false, 0, [] ++ [(wa.length : Int)]⟩]) (wa ++ [(4, 1000 + (W : Int))]) prs.length (1000 + (W : Int)) := ⟨wa.length, get_last _ _, get_last _ _⟩
      refine ⟨by rw [show min (W + 1) (R + n) = R + n by omega], by simp; omega, by simp; omega, trivial, ?_, by simp; omega, ?_, ?_, by omega, by rw [qsum_app]; simp [qsum] at h10 ⊢; omega⟩
      · have hmm := h5.mono (prs' := prs ++ [⟨false, 0, [] ++ [(wa.length : Int)]⟩]) (wa' := wa ++ [(4, 1000 + (W : Int))]) (fun p fn _ hw => hw.more _ _)
        have hW : R + n + wr.length = W := by omega
        have := WtW.snoc (q := prs.length) (fun y hy e => by have := h5.lt y hy; omega) hmm (by rw [hW]; exact hw)
        rw [hW] at this
        exact this
      · rw [h7, show min R (W + 1) = min R W by omega]
      · rw [h8, show min (W + 1) (R + n) = R + n by omega]
end
theorem RS.stream {s : Lp} {N n : Nat} {mi : List (Int × Int × Int)} {wa : List (Int × Int)} {prs : List Pr} (h : RS s mi wa prs [] N) (h1 : 1 ≤ n) (h2 : n ≤ 32) : ∃ s', streamL s (n : Int) = (s', 0, 0) ∧ RS s' mi wa prs [(n, ⟨[], [], []⟩)] N := by
  refine ⟨{ s with str := [(n, ⟨[], [], []⟩)] }, ?_, h.mac, h.mic, h.wai, h.prs, rfl, h.off, h.ab⟩
  unfold streamL
  rw [if_neg (by omega), if_neg (by rw [h.str]; simp), h.str]
  rfl
theorem SI.load {s : Lp} {N n R W : Nat} {mi : List (Int × Int × Int)} {wa : List (Int × Int)} {prs : List Pr} {st : St} {str : List (Nat × St)} (h : SI n R W mi wa prs st) (hs : RS s mi wa prs str N) : loadL s ≤ 3 * (R + W) := by
  unfold loadL
  rw [hs.micLen, hs.prs]
  have := h.ml
  have := h.ld
  omega
/-- While they are told: r reads and t writes were. -/
structure NxI (rt wt r t : Nat) (mi : List (Int × Int × Int)) : Prop where
  hr : r ≤ rt
  ht : t ≤ wt
  fR : mi.filter isR = (List.range' r (rt - r)).map rdT
  fW : mi.filter (fun x => !isR x) = (List.range' t (wt - t)).map wrT
theorem SI.next {n R W : Nat} {mi : List (Int × Int × Int)} {wa : List (Int × Int)} {prs : List Pr} {st : St} (h : SI n R W mi wa prs st) : NxI (min R W) (min W (R + n)) 0 0 mi :=
  ⟨Nat.zero_le _, Nat.zero_le _, by rw [h.mR, List.range_eq_range']; rfl, by rw [h.mW, List.range_eq_range']; rfl⟩
theorem NxI.done {rt wt r t : Nat} (h : NxI rt wt r t []) : r = rt ∧ t = wt := by
  obtain ⟨h1, h2, h3, h4⟩ := h
  have e1 := congrArg List.length h3
  have e2 := congrArg List.length h4
  simp at e1 e2
  omega
theorem NxI.step {rt wt r t : Nat} {x : Int × Int × Int} {mi : List (Int × Int × Int)} (h : NxI rt wt r t (x :: mi)) : (x = rdT r ∧ r < rt ∧ NxI rt wt (r + 1) t mi) ∨ (x = wrT t ∧ t < wt ∧ NxI rt wt r (t + 1) mi) := by
  obtain ⟨h1, h2, h3, h4⟩ := h
  cases e : isR x with
  | true =>
    rw [List.filter_cons_of_pos e] at h3
    rw [List.filter_cons_of_neg (by simp [e])] at h4
    have hl : r < rt := by
      apply Classical.byContradiction
      intro hn
      rw [show rt - r = 0 by omega] at h3
      simp at h3
    rw [show rt - r = (rt - (r + 1)) + 1 by omega, List.range'_succ, List.map_cons] at h3
    injection h3 with h3 h5
    exact .inl ⟨h3, hl, hl, h2, h5, h4⟩
  | false =>
    rw [List.filter_cons_of_neg (by simp [e])] at h3
    rw [List.filter_cons_of_pos (by simp [e])] at h4
    have hl : t < wt := by
      apply Classical.byContradiction
      intro hn
      rw [show wt - t = 0 by omega] at h4
      simp at h4
    rw [show wt - t = (wt - (t + 1)) + 1 by omega, List.range'_succ, List.map_cons] at h4
    injection h4 with h4 h5
    exact .inr ⟨h4, hl, h1, hl, h3, h5⟩
end Go.Proofs.Ytipbimbnpikbcaa
