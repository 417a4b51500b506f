/- A loop, as plain lists: what its functions do. No program in sight. -/
import Derived.Test.YtipbimbnpikbcaaPromiseDo
import Derived.Test.YtipbimbnpikbcaaStream
import Derived.Test.YtipbimbnpikbcaaTimRow
import Derived.Test.YtipbimbnpikbcaaTree
namespace Go.Proofs.Ytipbimbnpikbcaa

/-- A task: its kind, two numbers, its token. -/
structure Tk where
  kind : Int
  fn : Int
  arg : Int
  tok : Int
def tk0 : Tk := ⟨0, 0, 0, 0⟩
/-- A loop. -/
structure Lp where
  budget : Nat
  told : Nat
  token : Int
  mac : List Tk
  mic : List Tk
  wai : List Tk
  L : List Tm
  n : Int
  prs : List Pr
  ab : List Int
  off : List Bool
  str : List (Nat × St)
def TokOk (ab : List Int) (t : Int) : Prop := t = -1 ∨ (0 ≤ t ∧ t < ab.length)
theorem TokOk.snoc {ab : List Int} {t : Int} (h : TokOk ab t) (x : Int) : TokOk (ab ++ [x]) t := by
  unfold TokOk at *
  simp
  omega
structure LOk (s : Lp) : Prop where
  bud : 1 ≤ s.budget ∧ s.budget ≤ 64
  told : s.told ≤ 64
  tok : TokOk s.ab s.token
  mac : ∀ t ∈ s.mac, TokOk s.ab t.tok
  mic : ∀ t ∈ s.mic, TokOk s.ab t.tok
  wai : ∀ t ∈ s.wai, TokOk s.ab t.tok
  waiLe : s.wai.length ≤ s.ab.length
  n : 0 ≤ s.n ∧ s.n ≤ s.wai.length
  row : RowOk s.L s.n
  tml : s.L.length ≤ 64
  items : ∀ y ∈ s.L, 0 ≤ y.2.2 ∧ y.2.2 < s.wai.length
  reacts : ∀ p ∈ s.prs, ∀ k ∈ p.q, 0 ≤ k ∧ k < (s.wai.length : Int)
  tree : TreeOk s.ab s.off
  str : s.str.length ≤ 16

def newL (budget : Nat) : Lp := ⟨budget, 0, -1, [], [], [], [], 0, [], [], [], []⟩
/-- One token more, below the one that goes on. -/
def moreL (s : Lp) : Lp := { s with ab := s.ab ++ [s.token], off := s.off ++ [toffM s.off s.token] }
def macL (s : Lp) (x : Tk) : Lp := { s with mac := s.mac ++ [x] }
def micL (s : Lp) (x : Tk) : Lp := { s with mic := s.mic ++ [x] }
def waiL (s : Lp) (x : Tk) : Lp := { s with wai := s.wai ++ [x] }
def spawnL (s : Lp) (fn : Int) : Lp × Nat × Nat := if 1024 ≤ s.ab.length then (s, 0, 3) else (macL (moreL s) ⟨1, fn, 0, s.ab.length⟩, s.ab.length, 0)
def microL (s : Lp) (fn : Int) : Lp × Nat × Nat := if 1024 ≤ s.ab.length then (s, 0, 3) else (micL (moreL s) ⟨2, fn, 0, s.ab.length⟩, s.ab.length, 0)
def putL (s : Lp) (due : Int) : Lp := { s with L := s.L ++ [(due, s.n, (s.wai.length : Int) - 1)], n := s.n + 1 }
def afterL (s : Lp) (due fn : Int) : Lp × Nat × Nat :=
  if 64 ≤ s.L.length then (s, 0, 140) else if 1024 ≤ s.ab.length then (s, 0, 3) else (putL (waiL (moreL s) ⟨3, fn, 0, s.ab.length⟩) due, s.ab.length, 0)
def resumeL (s : Lp) (fn : Int) : Lp := macL s ⟨5, fn, 0, s.token⟩
def cancelL (s : Lp) (id : Int) : Lp × Nat := ({ s with off := (tcancelM s.ab s.off id).1 }, (tcancelM s.ab s.off id).2.2)
def promiseL (s : Lp) : Lp × Nat × Nat := ({ s with prs := (makeM s.prs).1 }, (makeM s.prs).2)
def getL (s : Lp) (k : Int) : Tk := s.wai.getD k.toNat tk0
def withArg (v : Int) (t : Tk) : Tk := ⟨t.kind, t.fn, v, t.tok⟩
def settleL (s : Lp) (id v : Int) : Lp × Nat :=
  ({ s with prs := (settleM s.prs id v).1, mic := s.mic ++ (settleM s.prs id v).2.1.map fun k => withArg v (getL s k) }, (settleM s.prs id v).2.2)
def thenL (s : Lp) (id fn : Int) : Lp × Nat × Nat :=
  if (valueM s.prs id).2.2 ≠ 0 then (s, 0, (valueM s.prs id).2.2)
  else if (valueM s.prs id).2.1 = false ∧ 256 ≤ waitsM s.prs id then (s, 0, 140)
  else if 1024 ≤ s.ab.length then (s, 0, 3)
  else if (valueM s.prs id).2.1 then (micL (moreL s) ⟨4, fn, (valueM s.prs id).1, s.ab.length⟩, s.ab.length, 0)
  else ({ waiL (moreL s) ⟨4, fn, 0, s.ab.length⟩ with prs := (thenM s.prs id s.wai.length).1 }, s.ab.length, 0)
def streamL (s : Lp) (room : Int) : Lp × Nat × Nat :=
  if room < 1 ∨ 32 < room then (s, 0, 1) else if 16 ≤ s.str.length then (s, 0, 3) else ({ s with str := s.str ++ [(room.toNat, ⟨[], [], []⟩)] }, s.str.length, 0)
def settlesL (s : Lp) (l : List (Int × Int)) : Lp := l.foldl (fun s x => (settleL s x.1 x.2).1) s
def movesL (s : Lp) (id : Int) (f : Nat → St → Int → St × List (Int × Int) × Int) : Lp × Nat × Int :=
  if id < 0 ∨ (s.str.length : Int) ≤ id then (s, 0, 2)
  else if 512 ≤ s.prs.length then (s, 0, 3)
  else
    let x := s.str.getD id.toNat (0, ⟨[], [], []⟩)
    let r := f x.1 x.2 s.prs.length
    let s1 := { s with str := s.str.set id.toNat (x.1, r.1) }
    if r.2.2 ≠ 0 then (s1, 0, r.2.2) else (settlesL (promiseL s1).1 r.2.1, s.prs.length, 0)
def writeL (s : Lp) (id v : Int) : Lp × Nat × Int := movesL s id fun room st who => writeM room st v who
def readL (s : Lp) (id : Int) : Lp × Nat × Int := movesL s id fun _ st who => readM st who
def advL : Nat → Lp → Int → Lp
  | 0, s, _ => s
  | k + 1, s, now => if (dueM s.L now).2.2 then advL k { s with L := (dueM s.L now).1, mac := s.mac ++ [getL s (dueM s.L now).2.1] } now else s
/-- The first that is not off, and those behind it. -/
def takeM (off : List Bool) : List Tk → Option Tk × List Tk
  | [] => (none, [])
  | x :: r => if toffM off x.tok then takeM off r else (some x, r)
def turnL (s : Lp) (t : Tk) (told : Nat) : Lp := { s with told := told, token := t.tok }
def nextL (s : Lp) : Lp × Option Tk :=
  let a := if s.told < s.budget then takeM s.off s.mic else (none, s.mic)
  match a.1 with
  | some t => (turnL { s with mic := a.2 } t (s.told + 1), some t)
  | none =>
    let b := takeM s.off s.mac
    match b.1 with
    | some t => (turnL { s with mic := a.2, mac := b.2 } t 0, some t)
    | none =>
      let c := takeM s.off a.2
      match c.1 with
      | some t => (turnL { s with mic := c.2, mac := b.2 } t 1, some t)
      | none => ({ s with told := 0, mic := c.2, mac := b.2 }, none)

section
variable {s : Lp}
theorem newL_ok {k : Nat} (h1 : 1 ≤ k) (h2 : k ≤ 64) : LOk (newL k) := by
  refine ⟨⟨h1, h2⟩, by simp [newL], .inl rfl, by simp [newL], by simp [newL], by simp [newL], by simp [newL], by simp [newL], ⟨List.Pairwise.nil, by simp [newL]⟩, by simp [newL], by simp [newL], by simp [newL], ⟨fun j x h => by simp [newL] at h, rfl, fun i j h => by simp [up, newL] at h, by simp [newL]⟩, by simp [newL]⟩
theorem tmakeM_tok (h : LOk s) (hl : s.ab.length < 1024) : tmakeM s.ab s.off s.token = ((s.ab ++ [s.token], s.off ++ [toffM s.off s.token]), (s.ab.length : Int), 0) := by
  have := h.tok
  unfold TokOk at this
  unfold tmakeM
  rw [if_neg (by omega), if_neg (by omega)]
theorem tmakeM_full (h : LOk s) (hl : 1024 ≤ s.ab.length) : tmakeM s.ab s.off s.token = ((s.ab, s.off), 0, 3) := by
  have := h.tok
  unfold TokOk at this
  unfold tmakeM
  rw [if_neg (by omega), if_pos (by omega)]
theorem LOk.more (h : LOk s) (hl : s.ab.length < 1024) : LOk (moreL s) := by
  have e := tmakeM_tok h hl
  have o := tmakeM_ok h.tree s.token
  rw [e] at o
  refine ⟨h.bud, h.told, h.tok.snoc _, fun t ht => (h.mac t ht).snoc _, fun t ht => (h.mic t ht).snoc _, fun t ht => (h.wai t ht).snoc _, ?_, h.n, h.row, h.tml, h.items, h.reacts, o, h.str⟩
  have := h.waiLe
  simp [moreL]
  omega
theorem LOk.putMac (h : LOk s) {x : Tk} (hx : TokOk s.ab x.tok) : LOk (macL s x) :=
  ⟨h.bud, h.told, h.tok, fun t ht => by
    rcases List.mem_append.1 ht with ht | ht
    · exact h.mac t ht
    · rw [List.mem_singleton.1 ht]; exact hx, h.mic, h.wai, h.waiLe, h.n, h.row, h.tml, h.items, h.reacts, h.tree, h.str⟩
theorem LOk.putMic (h : LOk s) {x : Tk} (hx : TokOk s.ab x.tok) : LOk (micL s x) :=
  ⟨h.bud, h.told, h.tok, h.mac, fun t ht => by
    rcases List.mem_append.1 ht with ht | ht
    · exact h.mic t ht
    · rw [List.mem_singleton.1 ht]; exact hx, h.wai, h.waiLe, h.n, h.row, h.tml, h.items, h.reacts, h.tree, h.str⟩
theorem LOk.putWai (h : LOk s) {x : Tk} (hx : TokOk s.ab x.tok) (hl : s.wai.length < s.ab.length) : LOk (waiL s x) := by
  have hn := h.n
  refine ⟨h.bud, h.told, h.tok, h.mac, h.mic, fun t ht => ?_, ?_, ?_, h.row, h.tml, fun y hy => ?_, fun p hp k hk => ?_, h.tree, h.str⟩
  · rcases List.mem_append.1 ht with ht | ht
    · exact h.wai t ht
    · rw [List.mem_singleton.1 ht]; exact hx
  · simp [waiL]; omega
  · simp [waiL]; omega
  · have := h.items y hy
    simp [waiL]; omega
  · have := h.reacts p hp k hk
    simp [waiL]; omega
theorem LOk.put (h : LOk s) (due : Int) (hl : s.L.length < 64) (hn : s.n < s.wai.length) : LOk (putL s due) := by
  have h0 := h.n
  refine ⟨h.bud, h.told, h.tok, h.mac, h.mic, h.wai, h.waiLe, ?_, h.row.put _ _, ?_, fun y hy => ?_, h.reacts, h.tree, h.str⟩
  · simp [putL]; omega
  · simp [putL]; omega
  · rcases List.mem_append.1 hy with hy | hy
    · exact h.items y hy
    · rw [List.mem_singleton.1 hy]
      simp [putL]; omega
theorem LOk.cancel (h : LOk s) (id : Int) : LOk (cancelL s id).1 :=
  ⟨h.bud, h.told, h.tok, h.mac, h.mic, h.wai, h.waiLe, h.n, h.row, h.tml, h.items, h.reacts, tcancelM_ok h.tree id, h.str⟩
theorem LOk.prs (h : LOk s) {p : List Pr} (hp : ∀ x ∈ p, ∀ k ∈ x.q, 0 ≤ k ∧ k < (s.wai.length : Int)) : LOk { s with prs := p } :=
  ⟨h.bud, h.told, h.tok, h.mac, h.mic, h.wai, h.waiLe, h.n, h.row, h.tml, h.items, hp, h.tree, h.str⟩
theorem LOk.promise (h : LOk s) : LOk (promiseL s).1 := by
  refine h.prs fun x hx k hk => ?_
  unfold makeM at hx
  split at hx
  · exact h.reacts x hx k hk
  · rcases List.mem_append.1 hx with hx | hx
    · exact h.reacts x hx k hk
    · rw [List.mem_singleton.1 hx] at hk
      simp at hk
theorem LOk.strs (h : LOk s) {l : List (Nat × St)} (hl : l.length ≤ 16) : LOk { s with str := l } :=
  ⟨h.bud, h.told, h.tok, h.mac, h.mic, h.wai, h.waiLe, h.n, h.row, h.tml, h.items, h.reacts, h.tree, hl⟩
theorem prOf_mem {l : List Pr} {id : Int} {x : Pr} (h : prOf l id = some x) : x ∈ l := by
  obtain ⟨i, _, hi⟩ := prOf_some h
  exact List.mem_of_getElem? hi
theorem settleM_reacts (h : LOk s) (id v : Int) : ∀ k ∈ (settleM s.prs id v).2.1, 0 ≤ k ∧ k < (s.wai.length : Int) := by
  intro k hk
  unfold settleM at hk
  split at hk
  · simp at hk
  · rename_i x hx
    split at hk
    · simp at hk
    · exact h.reacts x (prOf_mem hx) k hk
theorem getL_mem (_h : LOk s) {k : Int} (hk : 0 ≤ k ∧ k < (s.wai.length : Int)) : getL s k ∈ s.wai := by
  have : k.toNat < s.wai.length := by omega
  simp [getL, List.getD_eq_getElem?_getD, this]
theorem LOk.get (h : LOk s) {k : Int} (hk : 0 ≤ k ∧ k < (s.wai.length : Int)) : TokOk s.ab (getL s k).tok := h.wai _ (getL_mem h hk)
theorem mem_set_of {α : Type} {l : List α} {i : Nat} {a x : α} (h : x ∈ l.set i a) : x ∈ l ∨ x = a := List.mem_or_eq_of_mem_set h
theorem LOk.settled (h : LOk s) (id v : Int) : LOk { s with prs := (settleM s.prs id v).1 } := by
  refine h.prs fun x hx k hk => ?_
  unfold settleM at hx
  split at hx
  · exact h.reacts x hx k hk
  · split at hx
    · exact h.reacts x hx k hk
    · rcases mem_set_of hx with hx | rfl
      · exact h.reacts x hx k hk
      · simp at hk
theorem LOk.mics (h : LOk s) {l : List Tk} (hl : ∀ t ∈ l, TokOk s.ab t.tok) : LOk { s with mic := s.mic ++ l } :=
  ⟨h.bud, h.told, h.tok, h.mac, fun t ht => by
    rcases List.mem_append.1 ht with ht | ht
    · exact h.mic t ht
    · exact hl t ht, h.wai, h.waiLe, h.n, h.row, h.tml, h.items, h.reacts, h.tree, h.str⟩
theorem LOk.settle (h : LOk s) (id v : Int) : LOk (settleL s id v).1 := by
  refine (h.settled id v).mics fun t ht => ?_
  obtain ⟨k, hk, rfl⟩ := List.mem_map.1 ht
  exact h.get (settleM_reacts h id v k hk)
theorem LOk.thenP (h : LOk s) (id : Int) {k : Int} (hk : 0 ≤ k ∧ k < (s.wai.length : Int)) : LOk { s with prs := (thenM s.prs id k).1 } := by
  refine h.prs fun x hx j hj => ?_
  unfold thenM at hx
  split at hx
  · exact h.reacts x hx j hj
  · rename_i y hy
    split at hx
    · exact h.reacts x hx j hj
    · split at hx
      · rcases mem_set_of hx with hx | rfl
        · exact h.reacts x hx j hj
        · rcases List.mem_append.1 hj with hj | hj
          · exact h.reacts y (prOf_mem hy) j hj
          · rw [List.mem_singleton.1 hj]; exact hk
      · exact h.reacts x hx j hj
theorem dueM_mem {L L' : List Tm} {now x : Int} (h : dueM L now = (L', x, true)) : ∃ m ∈ L, x = m.2.2 ∧ L' = L.erase m := by
  unfold dueM at h
  split at h
  · simp at h
  · rename_i m hm
    split at h
    · simp at h
    · injection h with h1 h2
      injection h2 with h2 h3
      exact ⟨m, (firstM_of hm).1, h2.symm, h1.symm⟩
theorem LOk.due (h : LOk s) {L' : List Tm} {now x : Int} (e : dueM s.L now = (L', x, true)) : LOk { s with L := L', mac := s.mac ++ [getL s x] } ∧ (0 ≤ x ∧ x < (s.wai.length : Int)) := by
  obtain ⟨m, hm, rfl, rfl⟩ := dueM_mem e
  have hi := h.items m hm
  refine ⟨⟨h.bud, h.told, h.tok, fun t ht => ?_, h.mic, h.wai, h.waiLe, h.n, h.row.erase _, Nat.le_trans List.length_erase_le h.tml, fun y hy => h.items y (List.mem_of_mem_erase hy), h.reacts, h.tree, h.str⟩, hi⟩
  rcases List.mem_append.1 ht with ht | ht
  · exact h.mac t ht
  · rw [List.mem_singleton.1 ht]; exact h.get hi
theorem takeM_sub (off : List Bool) (l : List Tk) : ∀ t ∈ (takeM off l).2, t ∈ l := by
  induction l with
  | nil => intro t h; exact h
  | cons x r ih =>
    intro t h
    unfold takeM at h
    split at h
    · exact List.mem_cons_of_mem _ (ih t h)
    · exact List.mem_cons_of_mem _ h
theorem takeM_some {off : List Bool} {l : List Tk} {t : Tk} (h : (takeM off l).1 = some t) : t ∈ l := by
  induction l with
  | nil => simp [takeM] at h
  | cons x r ih =>
    unfold takeM at h
    split at h
    · exact List.mem_cons_of_mem _ (ih h)
    · injection h with h
      rw [h]
      exact List.mem_cons_self
theorem LOk.lessMac (h : LOk s) {l : List Tk} (hl : ∀ t ∈ l, t ∈ s.mac) : LOk { s with mac := l } :=
  ⟨h.bud, h.told, h.tok, fun t ht => h.mac t (hl t ht), h.mic, h.wai, h.waiLe, h.n, h.row, h.tml, h.items, h.reacts, h.tree, h.str⟩
theorem LOk.lessMic (h : LOk s) {l : List Tk} (hl : ∀ t ∈ l, t ∈ s.mic) : LOk { s with mic := l } :=
  ⟨h.bud, h.told, h.tok, h.mac, fun t ht => h.mic t (hl t ht), h.wai, h.waiLe, h.n, h.row, h.tml, h.items, h.reacts, h.tree, h.str⟩
theorem LOk.turn (h : LOk s) {t : Tk} {k : Nat} (ht : TokOk s.ab t.tok) (hk : k ≤ 64) : LOk (turnL s t k) :=
  ⟨h.bud, hk, ht, h.mac, h.mic, h.wai, h.waiLe, h.n, h.row, h.tml, h.items, h.reacts, h.tree, h.str⟩
theorem LOk.rest (h : LOk s) : LOk { s with told := 0 } :=
  ⟨h.bud, by simp, h.tok, h.mac, h.mic, h.wai, h.waiLe, h.n, h.row, h.tml, h.items, h.reacts, h.tree, h.str⟩
end
end Go.Proofs.Ytipbimbnpikbcaa
