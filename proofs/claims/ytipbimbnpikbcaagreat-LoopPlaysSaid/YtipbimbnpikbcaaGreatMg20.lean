import Derived.Test.YtipbimbnpikbcaaGreatMg19
import Derived.Test.YtipbimbnpikbcaaGreatMg04
import Derived.Test.YtipbimbnpikbcaaGreatMg05
import Derived.Test.YtipbimbnpikbcaaGreatMg08
/- What one act does to a loop, as plain lists; how much it may add. No program in sight. -/
namespace Go.Proofs.YtipbimbnpikbcaaGreat

/-- One act: its kind below twelve, two numbers. -/
def actL (s : Lp) (m : Nat) (a c : Int) : Lp × Int × Int :=
  match m with
  | 0 => ((spawnL s a).1, (spawnL s a).2.1, (spawnL s a).2.2)
  | 1 => ((microL s a).1, (microL s a).2.1, (microL s a).2.2)
  | 2 => ((afterL s c a).1, (afterL s c a).2.1, (afterL s c a).2.2)
  | 3 => (resumeL s a, 0, 0)
  | 4 => ((cancelL s a).1, 0, (cancelL s a).2)
  | 5 => ((promiseL s).1, (promiseL s).2.1, (promiseL s).2.2)
  | 6 => ((settleL s a c).1, 0, (settleL s a c).2)
  | 7 => ((thenL s a c).1, (thenL s a c).2.1, (thenL s a c).2.2)
  | 8 => ((streamL s a).1, (streamL s a).2.1, (streamL s a).2.2)
  | 9 => ((writeL s a c).1, (writeL s a c).2.1, (writeL s a c).2.2)
  | 10 => ((readL s a).1, (readL s a).2.1, (readL s a).2.2)
  | _ => (advL s.L.length s a, 0, 0)

/-- How much lies in a loop. -/
def wgt (s : Lp) : Nat := s.mac.length + s.L.length + loadL s
theorem wgt_le {s : Lp} {n : Nat} (h : wgt s ≤ n) (hn : n < 1000000) : s.mac.length < 1000000 ∧ s.mic.length < 1000000 ∧ s.mac.length + s.L.length < 1000000 ∧ loadL s < 1000000 := by
  unfold wgt loadL at *
  omega
theorem qsum_then (l : List Pr) (id k : Int) : qsum (thenM l id k).1 ≤ qsum l + 1 := by
  unfold thenM
  split
  · simp
  · rename_i x e
    obtain ⟨i, rfl, hi⟩ := prOf_some e
    split
    · simp
    · split
      · have := qsum_set ⟨x.told, x.value, x.q ++ [k]⟩ hi
        simp at this ⊢
        omega
      · simp
theorem wgt_settle (s : Lp) (id v : Int) : wgt (settleL s id v).1 = wgt s := by
  have := loadL_settle s id v
  show s.mac.length + s.L.length + _ = _
  rw [this]
  rfl
theorem wgt_settles (l : List (Int × Int)) : ∀ s : Lp, wgt (settlesL s l) = wgt s := by
  induction l with
  | nil => intro s; rfl
  | cons x l ih =>
    intro s
    show wgt (settlesL (settleL s x.1 x.2).1 l) = _
    rw [ih, wgt_settle]
theorem wgt_promise (s : Lp) : wgt (promiseL s).1 = wgt s := by
  have := loadL_promise s
  show s.mac.length + s.L.length + _ = _
  rw [this]
  rfl
theorem wgt_moves (s : Lp) (id : Int) (f : Nat → St → Int → St × List (Int × Int) × Int) : wgt (movesL s id f).1 = wgt s := by
  unfold movesL
  split
  · rfl
  · split
    · rfl
    · dsimp only
      split
      · rfl
      · rw [wgt_settles, wgt_promise]
        rfl
theorem wgt_adv (k : Nat) : ∀ (s : Lp) (now : Int), wgt (advL k s now) = wgt s := by
  induction k with
  | zero => intro s now; rfl
  | succ k ih =>
    intro s now
    unfold advL
    split
    · rename_i h
      rw [ih]
      have := dueM_yes h
      simp [wgt, loadL]
      omega
    · rfl
theorem wgt_act (s : Lp) (m : Nat) (a c : Int) : wgt (actL s m a c).1 ≤ wgt s + 1 := by
  unfold actL
  split
  · unfold spawnL
    split
    · simp
    · simp [wgt, loadL, macL, moreL]; omega
  · unfold microL
    split
    · simp
    · simp [wgt, loadL, micL, moreL]; omega
  · unfold afterL
    split
    · simp
    · split
      · simp
      · simp [wgt, loadL, putL, waiL, moreL]; omega
  · simp [wgt, loadL, resumeL, macL]; omega
  · simp [wgt, loadL, cancelL]
  · dsimp only
    rw [wgt_promise]
    omega
  · dsimp only
    rw [wgt_settle]
    omega
  · unfold thenL
    have := qsum_then s.prs a (s.wai.length : Int)
    split
    · simp
    · split
      · simp
      · split
        · simp
        · split
          · simp [wgt, loadL, micL, moreL]; omega
          · simp [wgt, loadL, waiL, moreL]; omega
  · unfold streamL
    split
    · simp
    · split
      · simp
      · simp [wgt, loadL]
  · have := wgt_moves s a fun room st who => writeM room st c who
    show wgt (movesL s a fun room st who => writeM room st c who).1 ≤ _
    omega
  · have := wgt_moves s a fun _ st who => readM st who
    show wgt (movesL s a fun _ st who => readM st who).1 ≤ _
    omega
  · dsimp only
    rw [wgt_adv]
    omega
theorem takeM_len (off : List Bool) (l : List Tk) : (takeM off l).2.length ≤ l.length := by
  induction l with
  | nil => simp [takeM]
  | cons x r ih =>
    unfold takeM
    split
    · simp; omega
    · simp
theorem wgt_next (s : Lp) : wgt (nextL s).1 ≤ wgt s := by
  unfold nextL
  have h1 : (if s.told < s.budget then takeM s.off s.mic else (none, s.mic)).2.length ≤ s.mic.length := by
    split
    · exact takeM_len _ _
    · simp
  generalize (if s.told < s.budget then takeM s.off s.mic else (none, s.mic)) = x at *
  have h2 := takeM_len s.off s.mac
  have h3 := takeM_len s.off x.2
  dsimp only
  split
  · simp [wgt, loadL, turnL]; omega
  · split
    · simp [wgt, loadL, turnL]; omega
    · split
      · simp [wgt, loadL, turnL]; omega
      · simp [wgt, loadL]; omega
end Go.Proofs.YtipbimbnpikbcaaGreat

/- Promises that were made, none told yet; what the table answers. -/
namespace Go.Proofs.YtipbimbnpikbcaaGreat
open Go.RowKit

def news (n : Nat) : List Pr := List.replicate n ⟨false, 0, []⟩
theorem news_length (n : Nat) : (news n).length = n := by simp [news]
theorem news_get (n i : Nat) (h : i < n) : (news n)[i]? = some ⟨false, 0, []⟩ := by simp [news, h]
theorem news_make (k : Nat) (h : k < 512) : makeM (news k) = (news (k + 1), k, 0) := by
  simp only [makeM, news_length]
  rw [if_neg (by omega)]
  simp [news, List.replicate_succ']
theorem news_full : makeM (news 512) = (news 512, 0, 3) := by
  simp only [makeM, news_length]
  rw [if_pos (by omega)]
theorem prOf_at (l : List Pr) (i : Nat) : prOf l (i : Int) = l[i]? := by
  simp only [prOf]
  rw [if_neg (by omega)]
  simp
theorem prOf_off (l : List Pr) (id : Int) (h : id < 0 ∨ (l.length : Int) ≤ id) : prOf l id = none := by
  simp only [prOf]
  split
  · rfl
  · exact List.getElem?_eq_none (by omega)
theorem value_off (l : List Pr) (id : Int) (h : id < 0 ∨ (l.length : Int) ≤ id) : valueM l id = (0, false, 2) := by simp only [valueM, prOf_off l id h]
theorem then_off (l : List Pr) (id r : Int) (h : id < 0 ∨ (l.length : Int) ≤ id) : thenM l id r = (l, 0, false, 2) := by simp only [thenM, prOf_off l id h]
theorem settle_off (l : List Pr) (id v : Int) (h : id < 0 ∨ (l.length : Int) ≤ id) : settleM l id v = (l, [], 2) := by simp only [settleM, prOf_off l id h]
theorem waits_off (l : List Pr) (id : Int) (h : id < 0 ∨ (l.length : Int) ≤ id) : waitsM l id = 0 := by simp only [waitsM, prOf_off l id h]
theorem value_at (l : List Pr) (i : Nat) (x : Pr) (h : l[i]? = some x) : valueM l (i : Int) = (x.value, x.told, 0) := by simp only [valueM, prOf_at, h]
theorem waits_at (l : List Pr) (i : Nat) (x : Pr) (h : l[i]? = some x) : waitsM l (i : Int) = x.q.length := by simp only [waitsM, prOf_at, h]
theorem then_told (l : List Pr) (i : Nat) (x : Pr) (r : Int) (h : l[i]? = some x) (ht : x.told = true) : thenM l (i : Int) r = (l, x.value, true, 0) := by
  simp only [thenM, prOf_at, h]
  rw [if_pos ht]
theorem then_at (l : List Pr) (i : Nat) (x : Pr) (r : Int) (h : l[i]? = some x) (ht : x.told = false) (hq : x.q.length < 256) : thenM l (i : Int) r = (l.set i ⟨false, x.value, x.q ++ [r]⟩, 0, false, 0) := by
  simp only [thenM, prOf_at, h]
  rw [if_neg (by simp [ht]), if_pos hq, ht]
  rfl
theorem then_full (l : List Pr) (i : Nat) (x : Pr) (r : Int) (h : l[i]? = some x) (ht : x.told = false) (hq : 256 ≤ x.q.length) : thenM l (i : Int) r = (l, 0, false, 140) := by
  simp only [thenM, prOf_at, h]
  rw [if_neg (by simp [ht]), if_neg (by omega)]
theorem settle_at (l : List Pr) (i : Nat) (x : Pr) (v : Int) (h : l[i]? = some x) (ht : x.told = false) : settleM l (i : Int) v = (l.set i ⟨true, v, []⟩, x.q, 0) := by
  simp only [settleM, prOf_at, h]
  rw [if_neg (by simp [ht])]
  rfl
theorem settle_told (l : List Pr) (i : Nat) (x : Pr) (v : Int) (h : l[i]? = some x) (ht : x.told = true) : settleM l (i : Int) v = (l, [], 160) := by
  simp only [settleM, prOf_at, h]
  rw [if_pos ht]
theorem set_get (l : List Pr) (i : Nat) (x : Pr) (h : i < l.length) : (l.set i x)[i]? = some x := by simp [h]
theorem set_get_ne (l : List Pr) (i j : Nat) (x : Pr) (h : i ≠ j) : (l.set i x)[j]? = l[j]? := by simp [h]
end Go.Proofs.YtipbimbnpikbcaaGreat

/- The document's promises: a row of records, at some cell of some block; each keeps who waits in a row of its own. -/
namespace Go.Proofs.YtipbimbnpikbcaaGreat
open Go.RowKit

/-- A promise, and where its row lies. -/
structure Pv where
  pr : Pr
  A : Option Addr
  c : Nat
  G : Option Nat

def Pv.vals (x : Pv) : List Value := [.bool x.pr.told, .int .i64 x.pr.value, .slice x.A x.pr.q.length x.c]
def pcells (vs : List Pv) : List Value := vs.flatMap Pv.vals
theorem pcells_cons (x : Pv) (vs : List Pv) : pcells (x :: vs) = .bool x.pr.told :: .int .i64 x.pr.value :: .slice x.A x.pr.q.length x.c :: pcells vs := rfl
theorem pcells_app (vs us : List Pv) : pcells (vs ++ us) = pcells vs ++ pcells us := by simp [pcells]
theorem pcells_one (vs : List Pv) : ∀ u ∈ pcells vs, u.oneCell' = true := by
  intro u hu
  simp only [pcells, List.mem_flatMap, Pv.vals, List.mem_cons, List.not_mem_nil, or_false] at hu
  obtain ⟨x, _, rfl | rfl | rfl⟩ := hu <;> rfl
theorem pcells_get (vs : List Pv) (i : Nat) (x : Pv) (h : vs[i]? = some x) :
    (pcells vs)[i * 3]? = some (.bool x.pr.told) ∧ (pcells vs)[i * 3 + 1]? = some (.int .i64 x.pr.value) ∧ (pcells vs)[i * 3 + 2]? = some (.slice x.A x.pr.q.length x.c) := by
  induction vs generalizing i with
  | nil => simp at h
  | cons y vs ih =>
    rw [pcells_cons]
    cases i with
    | zero =>
      simp at h
      subst h
      exact ⟨rfl, rfl, rfl⟩
    | succ i =>
      have := ih i (by simpa using h)
      rw [show (i + 1) * 3 = i * 3 + 1 + 1 + 1 from by omega]
      exact this
theorem pcells_set (vs : List Pv) (i : Nat) (x : Pv) (h : i < vs.length) :
    (((pcells vs).set (i * 3) (.bool x.pr.told)).set (i * 3 + 1) (.int .i64 x.pr.value)).set (i * 3 + 2) (.slice x.A x.pr.q.length x.c) = pcells (vs.set i x) := by
  induction vs generalizing i with
  | nil => simp at h
  | cons y vs ih =>
    rw [pcells_cons]
    cases i with
    | zero => rfl
    | succ i =>
      have := ih i (by simpa using h)
      rw [show (i + 1) * 3 = i * 3 + 1 + 1 + 1 from by omega]
      simp only [List.set_cons_succ]
      rw [this, pcells_cons]
theorem infoOne : (Tryz.prog.info? 120).map (fun i => (i.zero, i.size, i.bytes)) = some (some (.agg #[.bool false, .int .i64 0, .slice none 0 0]), 3, 40) := by kernel_rfl

structure RefPrsAt (w : World) (b : Nat) (ty : TypeId) (cs : List Value) (o : Nat) (vs : List Pv) (A : Option Addr) (c : Nat) (G : Option Nat) : Prop where
  blk : Blk w b ty cs
  at_ : cs[o]? = some (.slice A vs.length c)
  sl : Sl w 120 3 A vs.length c (pcells vs) G
  each : ∀ (i : Nat) (x : Pv), vs[i]? = some x → Sl w 3 1 x.A x.pr.q.length x.c (ints x.pr.q) x.G
  nb : G ≠ some b
  nx : ∀ (i : Nat) (x : Pv), vs[i]? = some x → x.G ≠ some b ∧ ∀ g, x.G = some g → G ≠ some g
  nn : ∀ (i j : Nat) (x y : Pv), vs[i]? = some x → vs[j]? = some y → i ≠ j → ∀ g, x.G = some g → y.G ≠ some g
  le : vs.length ≤ 512
  qle : ∀ (i : Nat) (x : Pv), vs[i]? = some x → x.pr.q.length ≤ 256
/-- The blocks of the parts. -/
def PrF (b : Nat) (vs : List Pv) (G : Option Nat) (k : Nat) : Prop := k = b ∨ G = some k ∨ ∃ (i : Nat) (x : Pv), vs[i]? = some x ∧ x.G = some k
def RefPrsQ (w : World) (b : Nat) (ty : TypeId) (cs : List Value) (o : Nat) (l : List Pr) (F : Nat → Prop) : Prop :=
  ∃ vs A c G, RefPrsAt w b ty cs o vs A c G ∧ l = vs.map (·.pr) ∧ ∀ k, F k ↔ PrF b vs G k

section
variable {w w' w2 : World} {b o : Nat} {ty : TypeId} {cs : List Value} {l : List Pr} {F S : Nat → Prop} {vs : List Pv} {A : Option Addr} {c : Nat} {G : Option Nat}
theorem RefPrsAt.keep (h : RefPrsAt w b ty cs o vs A c G) (ht : Tch S w w') (hS : ∀ k, PrF b vs G k → ¬ S k) : RefPrsAt w' b ty cs o vs A c G :=
  ⟨h.blk.keep ht (hS _ (.inl rfl)), h.at_, h.sl.keep ht (fun _ e => hS _ (.inr (.inl e))), fun i x hx => (h.each i x hx).keep ht (fun _ e => hS _ (.inr (.inr ⟨i, x, hx, e⟩))), h.nb, h.nx, h.nn, h.le, h.qle⟩
theorem RefPrsQ.keep (h : RefPrsQ w b ty cs o l F) (ht : Tch S w w') (hS : ∀ k, F k → ¬ S k) : RefPrsQ w' b ty cs o l F := by
  obtain ⟨vs, A, c, G, h, hl, hF⟩ := h
  exact ⟨vs, A, c, G, h.keep ht (fun k hk => hS _ ((hF k).2 hk)), hl, hF⟩
theorem RefPrsAt.lt (h : RefPrsAt w b ty cs o vs A c G) (k : Nat) (hk : PrF b vs G k) : k < w.heap.size := by
  rcases hk with rfl | hk | ⟨i, x, hx, e⟩
  · exact h.blk.lt
  · exact h.sl.lt k hk
  · exact (h.each i x hx).lt k e
theorem RefPrsQ.lt (h : RefPrsQ w b ty cs o l F) : ∀ k, F k → k < w.heap.size := by
  obtain ⟨vs, A, c, G, h, _, hF⟩ := h
  intro k hk
  exact h.lt k ((hF k).1 hk)
theorem RefPrsQ.lenOf (h : RefPrsQ w b ty cs o l F) : ∃ A c, cs[o]? = some (.slice A l.length c) ∧ l.length ≤ c ∧ c ≤ 9223372036854775807 := by
  obtain ⟨vs, A, c, G, h, hl, hF⟩ := h
  refine ⟨A, c, ?_, ?_⟩
  · rw [hl, List.length_map]
    exact h.at_
  · rw [hl, List.length_map]
    exact h.sl.cap_le

/-- A record is replaced: the row of records then, touched in its own block alone; the new record's own row is the old one, or lies behind what was there. -/
theorem RefPrsAt.put {g : Nat} (h : RefPrsAt w b ty cs o vs A c (some g)) (i : Nat) (x y : Pv) (hx : vs[i]? = some x) (T : Tch (· = g) w w') (hs : Sl w' 120 3 A vs.length c (pcells (vs.set i y)) (some g))
    (hy : Sl w' 3 1 y.A y.pr.q.length y.c (ints y.pr.q) y.G) (hG : ∀ k, y.G = some k → x.G = some k ∨ w.heap.size ≤ k) (hq : y.pr.q.length ≤ 256) :
    RefPrsAt w' b ty cs o (vs.set i y) A c (some g) ∧ ∀ k, PrF b (vs.set i y) (some g) k → PrF b vs (some g) k ∨ w.heap.size ≤ k := by
  have hil : i < vs.length := (List.getElem?_eq_some_iff.1 hx).1
  have hself : (vs.set i y)[i]? = some y := by simp [hil]
  have hoth : ∀ j, j ≠ i → (vs.set i y)[j]? = vs[j]? := fun j hj => by simp [Ne.symm hj]
  have hbg : b ≠ g := fun e => h.nb (by rw [e])
  have hlb := h.blk.lt
  have hlg := h.sl.lt g rfl
  refine ⟨⟨h.blk.keep T hbg, by rw [List.length_set]; exact h.at_, by rw [List.length_set]; exact hs, fun j z hz => ?_, h.nb, fun j z hz => ?_, fun j k z u hz hu hjk e he => ?_, by rw [List.length_set]; exact h.le, fun j z hz => ?_⟩, fun k hk => ?_⟩
  · by_cases hj : j = i
    · subst hj
      rw [hself] at hz
      injection hz with hz
      subst hz
      exact hy
    · rw [hoth j hj] at hz
      exact (h.each j z hz).keep T (fun e he hee => (h.nx j z hz).2 e he (by rw [hee]))
  · by_cases hj : j = i
    · subst hj
      rw [hself] at hz
      injection hz with hz
      subst hz
      refine ⟨fun e => ?_, fun e he e2 => ?_⟩
      · rcases hG b e with e3 | e3
        · exact (h.nx j x hx).1 e3
        · omega
      · injection e2 with e2
        subst e2
        rcases hG g he with e3 | e3
        · exact (h.nx j x hx).2 g e3 rfl
        · omega
    · rw [hoth j hj] at hz
      exact h.nx j z hz
  · by_cases hj : j = i
    · subst hj
      rw [hself] at hz
      injection hz with hz
      subst hz
      rw [hoth k (Ne.symm hjk)] at hu
      intro e2
      rcases hG e he with e3 | e3
      · exact h.nn j k x u hx hu hjk e e3 e2
      · have := (h.each k u hu).lt e e2
        omega
    · rw [hoth j hj] at hz
      by_cases hk : k = i
      · subst hk
        rw [hself] at hu
        injection hu with hu
        subst hu
        intro e2
        rcases hG e e2 with e3 | e3
        · exact h.nn j k z x hz hx hjk e he e3
        · have := (h.each j z hz).lt e he
          omega
      · rw [hoth k hk] at hu
        exact h.nn j k z u hz hu hjk e he
  · by_cases hj : j = i
    · subst hj
      rw [hself] at hz
      injection hz with hz
      subst hz
      exact hq
    · rw [hoth j hj] at hz
      exact h.qle j z hz
  · rcases hk with hk | hk | ⟨j, z, hz, e⟩
    · exact .inl (.inl hk)
    · exact .inl (.inr (.inl hk))
    · by_cases hj : j = i
      · subst hj
        rw [hself] at hz
        injection hz with hz
        subst hz
        rcases hG k e with e3 | e3
        · exact .inl (.inr (.inr ⟨j, x, hx, e3⟩))
        · exact .inr e3
      · rw [hoth j hj] at hz
        exact .inl (.inr (.inr ⟨j, z, hz, e⟩))
/-- A record is put behind the others: the row of records then; the cell that holds it is set. -/
theorem RefPrsAt.more (h : RefPrsAt w b ty cs o vs A c G) (T : Tch (fun k => G = some k) w w2) {A' : Option Addr} {c' : Nat} {G' : Option Nat} (hl : vs.length < 512)
    (hs : Sl w2 120 3 A' (vs.length + 1) c' (pcells (vs ++ [⟨⟨false, 0, []⟩, none, 0, none⟩])) G') (hG : G' = G ∨ ∃ g, G' = some g ∧ w.heap.size ≤ g) :
    RefPrsAt (w2.setCell ⟨b, o, none⟩ (.slice A' (vs.length + 1) c')) b ty (cs.set o (.slice A' (vs.length + 1) c')) o (vs ++ [⟨⟨false, 0, []⟩, none, 0, none⟩]) A' c' G' ∧
      (∀ k, PrF b (vs ++ [⟨⟨false, 0, []⟩, none, 0, none⟩]) G' k → PrF b vs G k ∨ w.heap.size ≤ k) ∧ Tch (PrF b vs G) w (w2.setCell ⟨b, o, none⟩ (.slice A' (vs.length + 1) c')) := by
  have hS : Tch (· = b) w2 (w2.setCell ⟨b, o, none⟩ (.slice A' (vs.length + 1) c')) := (Tch.refl (· = b) w2).setCell (p := ⟨b, o, none⟩) (fun _ => rfl) _
  have hlb := h.blk.lt
  have hn : ∀ k, k < w.heap.size → G ≠ some k → G' ≠ some k := by
    intro k hk hne e
    rcases hG with e2 | ⟨g, e2, hg⟩
    · exact hne (e2 ▸ e)
    · rw [e2] at e
      injection e with e
      omega
  have hol : o < cs.length := (List.getElem?_eq_some_iff.1 h.at_).1
  have hlen : (vs ++ [(⟨⟨false, 0, []⟩, none, 0, none⟩ : Pv)]).length = vs.length + 1 := by simp
  have hget : ∀ (j : Nat) (z : Pv), (vs ++ [⟨⟨false, 0, []⟩, none, 0, none⟩])[j]? = some z → vs[j]? = some z ∨ z = ⟨⟨false, 0, []⟩, none, 0, none⟩ := by
    intro j z hz
    by_cases hj : j < vs.length
    · rw [List.getElem?_append_left hj] at hz
      exact .inl hz
    · rw [List.getElem?_append_right (by omega)] at hz
      right
      have : j - vs.length = 0 := by
        rcases Nat.eq_zero_or_pos (j - vs.length) with h | h
        · exact h
        · rw [List.getElem?_eq_none (by simp; omega)] at hz
          cases hz
      rw [this] at hz
      simp at hz
      exact hz.symm
  refine ⟨⟨(h.blk.keep T h.nb).set o _, by rw [hlen]; simp [hol], by rw [hlen]; exact hs.keep hS (fun g hg e => hn b hlb h.nb (e ▸ hg)), fun j z hz => ?_, hn b hlb h.nb, fun j z hz => ?_, fun j k z u hz hu hjk e he => ?_, by rw [hlen]; omega, fun j z hz => ?_⟩, fun k hk => ?_, (T.mono (fun k _ e => .inr (.inl e))).trans (hS.mono (fun k _ e => .inl e))⟩
  · rcases hget j z hz with hz | rfl
    · exact ((h.each j z hz).keep T (fun g hg e => (h.nx j z hz).2 g hg e)).keep hS (fun g hg e => (h.nx j z hz).1 (e ▸ hg))
    · exact Sl.nil _ _ _
  · rcases hget j z hz with hz | rfl
    · exact ⟨(h.nx j z hz).1, fun g hg e => hn g ((h.each j z hz).lt g hg) ((h.nx j z hz).2 g hg) e⟩
    · exact ⟨by simp, fun g hg => by simp at hg⟩
  · rcases hget j z hz with hz2 | rfl
    · rcases hget k u hu with hu2 | rfl
      · exact h.nn j k z u hz2 hu2 hjk e he
      · simp
    · simp at he
  · rcases hget j z hz with hz | rfl
    · exact h.qle j z hz
    · simp
  · rcases hk with hk | hk | ⟨j, z, hz, e⟩
    · exact .inl (.inl hk)
    · rcases hG with e2 | ⟨g, e2, hg⟩
      · exact .inl (.inr (.inl (e2 ▸ hk)))
      · rw [e2] at hk
        injection hk with hk
        exact .inr (by omega)
    · rcases hget j z hz with hz | rfl
      · exact .inl (.inr (.inr ⟨j, z, hz, e⟩))
      · simp at e
end
end Go.Proofs.YtipbimbnpikbcaaGreat

/- What the statements on timers say of rows, as plain laws. -/
namespace Go.Proofs.YtipbimbnpikbcaaGreat
open Go.RowKit

section
variable {L : List Tm} {n : Int} {m : Tm}
theorem RowOk.nodup (H : RowOk L n) : L.Nodup := H.inc.imp (fun {x y} h e => by rw [e] at h; omega)
theorem RowOk.mem_erase (H : RowOk L n) {y : Tm} (m : Tm) (hy : y ∈ L.erase m) : y ≠ m ∧ y ∈ L := H.nodup.mem_erase_iff.1 hy
theorem RowOk.ahead (H : RowOk L n) (hm : FirstOf L m) {y : Tm} (hy : y ∈ L.erase m) : Tlt m y := by
  obtain ⟨h1, h2⟩ := H.mem_erase m hy
  have h3 := hm.2 y h2
  have h4 : y.2.1 ≠ m.2.1 := fun e => h1 (H.inj h2 hm.1 e)
  unfold Tlt at *
  omega
end
/-- The i-th of a row of times that were put in order. -/
def trip (l : List Int) (i : Nat) : Tm := (l.getD i 0, (i : Int), (i : Int))
structure DueSt (l : List Int) (L : List Tm) (last : Int) : Prop where
  mem : ∀ y ∈ L, ∃ i : Nat, i < l.length ∧ y = trip l i
  ahead : last = -1 ∨ ∃ k : Nat, last = k ∧ k < l.length ∧ ∀ y ∈ L, Tlt (trip l k) y
section
variable {l : List Int} {L : List Tm} {last n : Int}
theorem DueSt.step (H : DueSt l L last) (O : RowOk L n) (now : Int) (h : ∃ y ∈ L, y.1 ≤ now) :
    ∃ i : Nat, i < l.length ∧ l.getD i 0 ≤ now ∧ trip l i ∈ L ∧ dueM L now = (L.erase (trip l i), (i : Int), true) ∧ DueSt l (L.erase (trip l i)) i ∧
      (last = -1 ∨ ∃ k : Nat, last = k ∧ k < l.length ∧ Tlt (trip l k) (trip l i)) := by
  obtain ⟨y, hy, hn⟩ := h
  cases e : firstM L with
  | none =>
    have := firstM_none e
    subst this
    exact absurd hy (by simp)
  | some m =>
    have hm := firstM_of e
    obtain ⟨i, hi, rfl⟩ := H.mem m hm.1
    have h1 := hm.2 y hy
    have h2 : l.getD i 0 ≤ now := by
      unfold Tlt trip at h1
      dsimp only at h1
      omega
    refine ⟨i, hi, h2, hm.1, ?_, ⟨fun z hz => H.mem z (O.mem_erase _ hz).2, .inr ⟨i, rfl, hi, fun z hz => O.ahead hm hz⟩⟩, H.ahead.imp_right fun ⟨k, h3, h4, h5⟩ => ⟨k, h3, h4, h5 _ hm.1⟩⟩
    unfold dueM
    rw [e]
    dsimp only
    rw [if_neg (by unfold trip; dsimp only; omega)]
    rfl
theorem count_some {now : Int} {k : Nat} (h : L.countP (fun y => decide (y.1 ≤ now)) = k + 1) : ∃ y ∈ L, y.1 ≤ now := by
  have : 0 < L.countP (fun y => decide (y.1 ≤ now)) := by omega
  obtain ⟨y, hy, hd⟩ := List.countP_pos_iff.1 this
  exact ⟨y, hy, by simpa using hd⟩
theorem count_less {now : Int} {k : Nat} {m : Tm} (h : L.countP (fun y => decide (y.1 ≤ now)) = k + 1) (hm : m ∈ L) (hn : m.1 ≤ now) : (L.erase m).countP (fun y => decide (y.1 ≤ now)) = k := by
  have := (List.perm_cons_erase hm).countP_eq (fun y => decide (y.1 ≤ now))
  rw [List.countP_cons_of_pos (by simpa using hn)] at this
  omega
theorem count_none {now : Int} (h : L.countP (fun y => decide (y.1 ≤ now)) = 0) : dueM L now = (L, 0, false) := by
  unfold dueM
  cases e : firstM L with
  | none => rfl
  | some m =>
    have := List.countP_eq_zero.1 h m (firstM_of e).1
    dsimp only
    rw [if_pos (by simpa using this)]
theorem erase_len {m : Tm} (hm : m ∈ L) : (L.erase m).length + 1 = L.length := by
  have := (List.perm_cons_erase hm).length_eq
  simpa using this.symm
/-- Those that were put so far. -/
def trips (l : List Int) (k : Nat) : List Tm := (List.range k).map (trip l)
theorem trips_zero (l : List Int) : trips l 0 = [] := rfl
theorem trips_snoc (l : List Int) (k : Nat) : trips l (k + 1) = trips l k ++ [(l.getD k 0, (k : Int), (k : Int))] := by simp [trips, trip, List.range_succ]
theorem trips_length (l : List Int) (k : Nat) : (trips l k).length = k := by simp [trips]
theorem trips_mem {l : List Int} {k : Nat} {y : Tm} (hy : y ∈ trips l k) : ∃ i : Nat, i < k ∧ y = trip l i := by
  obtain ⟨i, hi, rfl⟩ := List.mem_map.1 hy
  exact ⟨i, List.mem_range.1 hi, rfl⟩
theorem trip_mem (l : List Int) {k i : Nat} (hi : i < k) : trip l i ∈ trips l k := List.mem_map.2 ⟨i, List.mem_range.2 hi, rfl⟩
theorem dueSt_start (l : List Int) {k : Nat} (hk : k = l.length) : DueSt l (trips l k) (-1) := ⟨fun y hy => by
  obtain ⟨i, hi, e⟩ := trips_mem hy
  exact ⟨i, by omega, e⟩, .inl rfl⟩
theorem trips_count_snoc (l : List Int) (k : Nat) (now : Int) : (trips l (k + 1)).countP (fun y => decide (y.1 ≤ now)) = (trips l k).countP (fun y => decide (y.1 ≤ now)) + if l.getD k 0 ≤ now then 1 else 0 := by
  rw [trips_snoc, List.countP_append, List.countP_singleton]
  simp
theorem trips_count_le (l : List Int) (k : Nat) (now : Int) : (trips l k).countP (fun y => decide (y.1 ≤ now)) ≤ k := by
  have := List.countP_le_length (p := fun (y : Tm) => decide (y.1 ≤ now)) (l := trips l k)
  rwa [trips_length] at this

/-- What a removal of one that is there answers. -/
theorem remM_at (O : RowOk L n) {m : Tm} (hm : m ∈ L) : remM L m.2.1 = (L.erase m, m.2.2, true) := by
  unfold remM
  cases e : L.find? (fun z => z.2.1 == m.2.1) with
  | none => exact absurd (List.find?_eq_none.1 e m hm) (by simp)
  | some m' =>
    have h7 : m'.2.1 = m.2.1 := by simpa using List.find?_some e
    obtain rfl := O.inj hm (List.mem_of_find?_eq_some e) h7.symm
    rfl

/-- Those told in turn, one by one, no later than now. -/
def Pops (now : Int) : List Tm → List Tm → List Tm → Prop
  | L, [], S => S = L
  | L, m :: ms, S => firstM L = some m ∧ m.1 ≤ now ∧ Pops now (L.erase m) ms S
theorem Pops.snoc {now : Int} {ms S : List Tm} {m : Tm} (h : Pops now L ms S) (hm : firstM S = some m) (hn : m.1 ≤ now) : Pops now L (ms ++ [m]) (S.erase m) := by
  induction ms generalizing L with
  | nil =>
    obtain rfl : S = L := h
    exact ⟨hm, hn, rfl⟩
  | cons x ms ih => exact ⟨h.1, h.2.1, ih h.2.2⟩
theorem Pops.later {now now' : Int} {ms S : List Tm} (h : Pops now L ms S) (hn : now ≤ now') : Pops now' L ms S := by
  induction ms generalizing L with
  | nil => exact h
  | cons x ms ih => exact ⟨h.1, by have := h.2.1; omega, ih h.2.2⟩
theorem Pops.due {now : Int} {ms S : List Tm} {m : Tm} (h : Pops now L (m :: ms) S) : dueM L now = (L.erase m, m.2.2, true) ∧ Pops now (L.erase m) ms S := by
  refine ⟨?_, h.2.2⟩
  unfold dueM
  rw [h.1]
  dsimp only
  rw [if_neg (by have := h.2.1; omega)]
theorem dueM_split (L : List Tm) (now : Int) : (dueM L now = (L, 0, false)) ∨ ∃ m, firstM L = some m ∧ m.1 ≤ now ∧ dueM L now = (L.erase m, m.2.2, true) := by
  unfold dueM
  cases e : firstM L with
  | none => exact .inl rfl
  | some m =>
    dsimp only
    by_cases h : now < m.1
    · rw [if_pos h]
      exact .inl rfl
    · rw [if_neg h]
      exact .inr ⟨m, rfl, by omega, rfl⟩
end
end Go.Proofs.YtipbimbnpikbcaaGreat
