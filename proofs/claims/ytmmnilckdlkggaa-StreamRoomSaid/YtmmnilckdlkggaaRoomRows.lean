/- Two rows of what was told, kept in one array; two streams and two such arrays. -/
import Derived.Test.YtmmnilckdlkggaaRoomLaw
namespace Go.Proofs.Ytmmnilckdlkggaa
open Go.RowKit

structure RowsAt (w : World) (p : Nat) (x y : List (Int × Int)) (A0 : Option Addr) (c0 : Nat) (G0 : Option Nat) (A1 : Option Addr) (c1 : Nat) (G1 : Option Nat) : Prop where
  blk : Blk w p 29 [.slice A0 x.length c0, .slice A1 y.length c1]
  s0 : Sl w 34 2 A0 x.length c0 (gots x) G0
  s1 : Sl w 34 2 A1 y.length c1 (gots y) G1
  n0 : G0 ≠ some p
  n1 : G1 ≠ some p
  n01 : ∀ g, G0 = some g → G1 ≠ some g
def RowsQ (w : World) (p : Nat) (x y : List (Int × Int)) (F : Nat → Prop) : Prop :=
  ∃ A0 c0 G0 A1 c1 G1, RowsAt w p x y A0 c0 G0 A1 c1 G1 ∧ ∀ k, F k ↔ k = p ∨ G0 = some k ∨ G1 = some k

section
variable {w w' w2 : World} {p : Nat} {x y : List (Int × Int)} {F S : Nat → Prop} {A0 A1 : Option Addr} {c0 c1 : Nat} {G0 G1 : Option Nat}
theorem RowsQ.keep (h : RowsQ w p x y F) (ht : Tch S w w') (hS : ∀ k, F k → ¬ S k) : RowsQ w' p x y F := by
  obtain ⟨A0, c0, G0, A1, c1, G1, h, hF⟩ := h
  exact ⟨A0, c0, G0, A1, c1, G1, ⟨h.blk.keep ht (hS _ ((hF _).2 (.inl rfl))), h.s0.keep ht (fun g e => hS _ ((hF _).2 (.inr (.inl e)))), h.s1.keep ht (fun g e => hS _ ((hF _).2 (.inr (.inr e)))), h.n0, h.n1, h.n01⟩, hF⟩
theorem RowsQ.lt (h : RowsQ w p x y F) : ∀ k, F k → k < w.heap.size := by
  obtain ⟨A0, c0, G0, A1, c1, G1, h, hF⟩ := h
  intro k hk
  rcases (hF k).1 hk with rfl | hk | hk
  · exact h.blk.lt
  · exact h.s0.lt k hk
  · exact h.s1.lt k hk
theorem rows_new (w : World) : ∃ F, RowsQ (w.alloc (.cells #[.slice none 0 0, .slice none 0 0] 29)) w.heap.size [] [] F ∧ ∀ k, F k → w.heap.size ≤ k := by
  refine ⟨fun k => k = w.heap.size ∨ (none : Option Nat) = some k ∨ (none : Option Nat) = some k, ⟨none, 0, none, none, 0, none, ⟨Blk.new w _ _, Sl.nil _ _ _, Sl.nil _ _ _, by simp, by simp, by simp⟩, fun _ => Iff.rfl⟩, fun k hk => ?_⟩
  rcases hk with rfl | hk | hk
  · exact Nat.le_refl _
  · cases hk
  · cases hk

/-- What stands where a row was made longer. -/
def RowsGrown (w w' : World) (p : Nat) (x y : List (Int × Int)) (F : Nat → Prop) : Prop := Tch F w w' ∧ ∃ F', RowsQ w' p x y F' ∧ ∀ k, F' k → F k ∨ w.heap.size ≤ k

theorem RowsAt.app0 (h : RowsAt w p x y A0 c0 G0 A1 c1 G1) (hF : ∀ k, F k ↔ k = p ∨ G0 = some k ∨ G1 = some k) (T : Tch (fun k => G0 = some k) w w2) {q : List (Int × Int)} {A' : Option Addr} {c' : Nat} {G' : Option Nat} (hs : Sl w2 34 2 A' q.length c' (gots q) G') (hG : G' = G0 ∨ ∃ g, G' = some g ∧ w.heap.size ≤ g) :
    RowsGrown w (w2.setCell ⟨p, 0, none⟩ (.slice A' q.length c')) p q y F := by
  have hS : Tch (· = p) w2 (w2.setCell ⟨p, 0, none⟩ (.slice A' q.length c')) := (Tch.refl (· = p) w2).setCell (p := ⟨p, 0, none⟩) (fun _ => rfl) _
  have hlb := h.blk.lt
  have hn : ∀ k, k < w.heap.size → G0 ≠ some k → G' ≠ some k := by
    intro k hk hne e
    rcases hG with e2 | ⟨g, e2, hg⟩
    · exact hne (e2 ▸ e)
    · rw [e2] at e
      injection e with e
      omega
  refine ⟨((T.mono (fun k _ e => (hF k).2 (.inr (.inl e)))).trans (hS.mono (fun k _ e => (hF k).2 (.inl e)))), fun k => k = p ∨ G' = some k ∨ G1 = some k, ⟨A', c', G', A1, c1, G1, ⟨(h.blk.keep T h.n0).set 0 _, hs.keep hS (fun g hg e => hn p hlb h.n0 (e ▸ hg)), (h.s1.keep T (fun g hg e => h.n01 g e hg)).keep hS (fun g hg e => h.n1 (e ▸ hg)), hn p hlb h.n0, h.n1, fun g hg e => hn g (h.s1.lt g e) (fun e2 => h.n01 g e2 e) hg⟩, fun _ => Iff.rfl⟩, fun k hk => ?_⟩
  rcases hk with hk | hk | hk
  · exact .inl ((hF k).2 (.inl hk))
  · rcases hG with e2 | ⟨g, e2, hg⟩
    · exact .inl ((hF k).2 (.inr (.inl (e2 ▸ hk))))
    · rw [e2] at hk
      injection hk with hk
      exact .inr (by omega)
  · exact .inl ((hF k).2 (.inr (.inr hk)))
theorem RowsAt.app1 (h : RowsAt w p x y A0 c0 G0 A1 c1 G1) (hF : ∀ k, F k ↔ k = p ∨ G0 = some k ∨ G1 = some k) (T : Tch (fun k => G1 = some k) w w2) {q : List (Int × Int)} {A' : Option Addr} {c' : Nat} {G' : Option Nat} (hs : Sl w2 34 2 A' q.length c' (gots q) G') (hG : G' = G1 ∨ ∃ g, G' = some g ∧ w.heap.size ≤ g) :
    RowsGrown w (w2.setCell ⟨p, 1, none⟩ (.slice A' q.length c')) p x q F := by
  have hS : Tch (· = p) w2 (w2.setCell ⟨p, 1, none⟩ (.slice A' q.length c')) := (Tch.refl (· = p) w2).setCell (p := ⟨p, 1, none⟩) (fun _ => rfl) _
  have hlb := h.blk.lt
  have hn : ∀ k, k < w.heap.size → G1 ≠ some k → G' ≠ some k := by
    intro k hk hne e
    rcases hG with e2 | ⟨g, e2, hg⟩
    · exact hne (e2 ▸ e)
    · rw [e2] at e
      injection e with e
      omega
  refine ⟨((T.mono (fun k _ e => (hF k).2 (.inr (.inr e)))).trans (hS.mono (fun k _ e => (hF k).2 (.inl e)))), fun k => k = p ∨ G0 = some k ∨ G' = some k, ⟨A0, c0, G0, A', c', G', ⟨(h.blk.keep T h.n1).set 1 _, (h.s0.keep T (fun g hg e => h.n01 g hg e)).keep hS (fun g hg e => h.n0 (e ▸ hg)), hs.keep hS (fun g hg e => hn p hlb h.n1 (e ▸ hg)), h.n0, hn p hlb h.n1, fun g hg e => hn g (h.s0.lt g hg) (fun e2 => h.n01 g hg e2) e⟩, fun _ => Iff.rfl⟩, fun k hk => ?_⟩
  rcases hk with hk | hk | hk
  · exact .inl ((hF k).2 (.inl hk))
  · exact .inl ((hF k).2 (.inr (.inl hk)))
  · rcases hG with e2 | ⟨g, e2, hg⟩
    · exact .inl ((hF k).2 (.inr (.inr (e2 ▸ hk))))
    · rw [e2] at hk
      injection hk with hk
      exact .inr (by omega)
end

/-- Two streams, and what each told, each in blocks of its own. -/
structure RoomI (w0 w : World) (b room : Nat) (s : St) (F : Nat → Prop) (b' room' : Nat) (s' : St) (F' : Nat → Prop) (p : Nat) (x0 x1 : List (Int × Int)) (P : Nat → Prop) (q : Nat) (y0 y1 : List (Int × Int)) (Q : Nat → Prop) : Prop where
  two : TwoI w0 w b room s F b' room' s' F'
  rp : RowsQ w p x0 x1 P
  rq : RowsQ w q y0 y1 Q
  dp : ∀ k, P k → ¬ F k ∧ ¬ F' k ∧ ¬ Q k
  dq : ∀ k, Q k → ¬ F k ∧ ¬ F' k
  bp : ∀ k, P k → w0.heap.size ≤ k
  bq : ∀ k, Q k → w0.heap.size ≤ k

section
variable {w0 w w' : World} {b room : Nat} {s t : St} {F : Nat → Prop} {b' room' : Nat} {s' : St} {F' : Nat → Prop} {p : Nat} {x0 x1 : List (Int × Int)} {P : Nat → Prop} {q : Nat} {y0 y1 : List (Int × Int)} {Q : Nat → Prop}
theorem RoomI.swap (h : RoomI w0 w b room s F b' room' s' F' p x0 x1 P q y0 y1 Q) : RoomI w0 w b' room' s' F' b room s F q y0 y1 Q p x0 x1 P :=
  ⟨h.two.swap, h.rq, h.rp, fun k hk => ⟨(h.dq k hk).2, (h.dq k hk).1, fun hp => (h.dp k hp).2.2 hk⟩, fun k hk => ⟨(h.dp k hk).2.1, (h.dp k hk).1⟩, h.bq, h.bp⟩
theorem RoomI.none (h : RoomI w0 w b room s F b' room' s' F' p x0 x1 P q y0 y1 Q) (ht : Tch NoBlk w w') : RoomI w0 w' b room s F b' room' s' F' p x0 x1 P q y0 y1 Q :=
  ⟨h.two.keep ht (fun _ h => h.elim) (fun _ h => h.elim), h.rp.keep ht (fun _ _ h => h), h.rq.keep ht (fun _ _ h => h), h.dp, h.dq, h.bp, h.bq⟩
theorem RoomI.base (h : RoomI w0 w b room s F b' room' s' F' p x0 x1 P q y0 y1 Q) : w0.heap.size ≤ w.heap.size := h.two.one.below.size
/-- The first array's rows are made longer. -/
theorem RoomI.grown {z0 z1 : List (Int × Int)} (h : RoomI w0 w b room s F b' room' s' F' p x0 x1 P q y0 y1 Q) (hg : RowsGrown w w' p z0 z1 P) : ∃ P', RoomI w0 w' b room s F b' room' s' F' p z0 z1 P' q y0 y1 Q ∧ ∀ k, P' k → P k ∨ w.heap.size ≤ k := by
  obtain ⟨hT, P', hP, hP'⟩ := hg
  refine ⟨P', ⟨h.two.keep hT (fun i hi => ⟨(h.dp i hi).1, (h.dp i hi).2.1⟩) h.bp, hP, h.rq.keep hT (fun k hk hp => (h.dp k hp).2.2 hk), fun k hk => ?_, h.dq, fun k hk => ?_, h.bq⟩, hP'⟩
  · rcases hP' k hk with z | z
    · exact h.dp k z
    · exact ⟨fun hf => by have := h.two.one.q.lt k hf; omega, fun hf => by have := h.two.two.q.lt k hf; omega, fun hf => by have := h.rq.lt k hf; omega⟩
  · rcases hP' k hk with z | z
    · exact h.bp k z
    · exact Nat.le_trans h.base z

theorem roomi_write (h : RoomI w0 w b room s F b' room' s' F' p x0 x1 P q y0 y1 Q) (value who : Int) (t : St) (l : List (Int × Int)) (en : Int) (hm : writeM room s value who = (t, l, en)) :
    Calls Try.prog 11 #[.pointer (some ⟨b, 0, none⟩), .int .i64 value, .int .i64 who] w fun e w' =>
      ∃ A cap G, e = .returned (.tuple #[.slice A l.length cap, .int .i64 en]) ∧ Sl w' 34 2 A l.length cap (gots l) G ∧ (∀ g, G = some g → w.heap.size ≤ g) ∧ RoomI w0 w' b room t F b' room' s' F' p x0 x1 P q y0 y1 Q ∧ Tch F w w' := by
  refine (two_write h.two value who t l en hm).mono ?_
  rintro e w' ⟨A, c, G, rfl, h1, h2, h3, h4⟩
  exact ⟨A, c, G, rfl, h1, h2, ⟨h3, h.rp.keep h4 (fun k hk => (h.dp k hk).1), h.rq.keep h4 (fun k hk => (h.dq k hk).1), h.dp, h.dq, h.bp, h.bq⟩, h4⟩
theorem roomi_read (h : RoomI w0 w b room s F b' room' s' F' p x0 x1 P q y0 y1 Q) (who : Int) (t : St) (l : List (Int × Int)) (en : Int) (hm : readM s who = (t, l, en)) :
    Calls Try.prog 10 #[.pointer (some ⟨b, 0, none⟩), .int .i64 who] w fun e w' =>
      ∃ A cap G, e = .returned (.tuple #[.slice A l.length cap, .int .i64 en]) ∧ Sl w' 34 2 A l.length cap (gots l) G ∧ (∀ g, G = some g → w.heap.size ≤ g) ∧ RoomI w0 w' b room t F b' room' s' F' p x0 x1 P q y0 y1 Q ∧ Tch F w w' := by
  refine (two_read h.two who t l en hm).mono ?_
  rintro e w' ⟨A, c, G, rfl, h1, h2, h3, h4⟩
  exact ⟨A, c, G, rfl, h1, h2, ⟨h3, h.rp.keep h4 (fun k hk => (h.dp k hk).1), h.rq.keep h4 (fun k hk => (h.dq k hk).1), h.dp, h.dq, h.bp, h.bq⟩, h4⟩
end

/-- Cells that are read from the head of a block on. -/
def Head (w : World) (A : Option Addr) (n : Nat) (cs : List Value) : Prop := 0 < n → ∃ g, A = some ⟨g, 0, none⟩ ∧ ∀ (j : Nat) (u : Value), cs[j]? = some u → w.cell? ⟨g, j, none⟩ = some u
theorem Sl.head {w : World} {e : TypeId} {sz n cap : Nat} {A : Option Addr} {xs : List Value} {G : Option Nat} (h : Sl w e sz A n cap xs G) : Head w A n xs := fun hn => by
  obtain ⟨g, h1, _, h2⟩ := h.cells hn
  exact ⟨g, h1, h2⟩
theorem Head.less {w : World} {A : Option Addr} {n m : Nat} {cs ds : List Value} (h : Head w A n cs) (hm : m ≤ n) (hd : ∀ (j : Nat) (u : Value), ds[j]? = some u → cs[j]? = some u) : Head w A m ds := fun hn => by
  obtain ⟨g, h1, h2⟩ := h (by omega)
  exact ⟨g, h1, fun j u hu => h2 j u (hd j u hu)⟩
theorem Head.drewN {w : World} {A : Option Addr} {n : Nat} {cs : List Value} (h : Head w A n cs) (k : Nat) : Head (w.drewN k) A n cs := h

theorem stream_same_head (A A' : Option Addr) (c c' : Nat) (x y : List (Int × Int)) (w : World) (h : Head w A x.length (gots x)) (h' : Head w A' y.length (gots y)) (hcap : x.length ≤ c ∧ c ≤ 9223372036854775807) (hcap' : y.length ≤ c' ∧ c' ≤ 9223372036854775807) (he : x = y) :
    Calls Try.prog 12 #[.slice A x.length c, .slice A' y.length c'] w fun e w' => e = .returned (.bool true) ∧ ∃ k, w' = w.drewN k := by
  subst he
  go_enter Try.func12, Try.ntmps12
  go_wp2_with fail
  go_loopw [5] (fun i wr => ∃ k n : Nat, i = .int .i64 k ∧ k ≤ x.length ∧ wr = w.drewN n) (fun i _ => x.length - (intOf i).toNat)
  case atStart => exact ⟨0, 0, rfl, by omega, rfl⟩
  case round =>
    obtain ⟨k, n, rfl, hk, rfl⟩ := hrel
    by_cases hlt : k < x.length
    · obtain ⟨g, rfl, hc⟩ := h (by omega)
      obtain ⟨g', rfl, hc'⟩ := h' (by omega)
      have e1 : (gots x)[k * 2]? = some (.int .i64 (x.getD k (0, 0)).1) ∧ (gots x)[k * 2 + 1]? = some (.int .i64 (x.getD k (0, 0)).2) := gots_get x k hlt
      have c1 : (w.drewN n).cell? ⟨g, k * 2, none⟩ = _ := hc _ _ e1.1
      have c2 : (w.drewN n).cell? ⟨g, k * 2 + 1, none⟩ = _ := hc _ _ e1.2
      have c3 : (w.drewN n).cell? ⟨g', k * 2, none⟩ = _ := hc' _ _ e1.1
      have c4 : (w.drewN n).cell? ⟨g', k * 2 + 1, none⟩ = _ := hc' _ _ e1.2
      have d1 : w.cell? ⟨g, k * 2, none⟩ = _ := hc _ _ e1.1
      have d2 : w.cell? ⟨g, k * 2 + 1, none⟩ = _ := hc _ _ e1.2
      have d3 : w.cell? ⟨g', k * 2, none⟩ = _ := hc' _ _ e1.1
      have d4 : w.cell? ⟨g', k * 2 + 1, none⟩ = _ := hc' _ _ e1.2
      clear hc hc' e1 h h'
      generalize (x.getD k (0, 0)).1 = p at *
      generalize (x.getD k (0, 0)).2 = q at *
      go_wp2_with fail
      go_quiet (fail)
      go_wp2
      go_roundw
      case rel => exact ⟨k + 1, _, num (by omega), by omega, rfl⟩
      case measure => simp [intOf]; omega
    · go_wp2
      go_ret
      exact ⟨rfl, _, rfl⟩
end Go.Proofs.Ytmmnilckdlkggaa
