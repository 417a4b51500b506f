/- The document's ring: a list. -/
import Derived.Test.YtcfnnpdackklhaaProg
import Derived.Test.YtcfnnpdackklhaaSlices
namespace Go.Proofs.Ytcfnnpdackklhaa
open Go.RowKit

def ints (l : List Int) : List Value := l.map fun x => .int .i64 x
theorem ints_length (l : List Int) : (ints l).length = l.length := by simp [ints]
theorem ints_one (l : List Int) : ∀ u ∈ ints l, u.oneCell' = true := by
  intro u hu
  simp only [ints, List.mem_map] at hu
  obtain ⟨x, _, rfl⟩ := hu
  rfl

theorem infoInt : (Try.prog.info? 3).map (fun i => (i.zero, i.size, i.bytes)) = some (some (.int .i64 0), 1, 8) := by kernel_rfl

structure RefRing (w : World) (b most : Nat) (q : List Int) (A : Option Addr) (cap : Nat) (G : Option Nat) : Prop where
  blk : Blk w b 37 [.int .i64 most, .slice A q.length cap]
  sl : Sl w 3 1 A q.length cap (ints q) G
  ne : ∀ g, G = some g → g ≠ b
  le : q.length ≤ most
  m256 : most ≤ 256

/-- The document's ring at block b has room for m, and holds q. -/
def RefQ (w : World) (b m : Nat) (q : List Int) : Prop := ∃ A cap G, RefRing w b m q A cap G

/-- All that it is made of lies from base on. -/
def RefFrom (w : World) (base b m : Nat) (q : List Int) : Prop := ∃ A cap G, RefRing w b m q A cap G ∧ base ≤ b ∧ ∀ g, G = some g → base ≤ g

theorem RefRing.keep {w w' : World} {b m : Nat} {q : List Int} {A : Option Addr} {cap : Nat} {G : Option Nat} (h : RefRing w b m q A cap G) {S : Nat → Prop} (ht : Tch S w w') (hb : ¬ S b) (hG : ∀ g, G = some g → ¬ S g) : RefRing w' b m q A cap G :=
  ⟨h.blk.keep ht hb, h.sl.keep ht hG, h.ne, h.le, h.m256⟩

theorem refring_new_yes (m : Nat) (w : World) (h1 : 1 ≤ m) (h2 : m ≤ 256) :
    Calls Try.prog 10 #[.int .i64 m] w fun e w' => ∃ b, e = .returned (.tuple #[.pointer (some ⟨b, 0, none⟩), .int .i64 0]) ∧ w.heap.size ≤ b ∧ RefRing w' b m [] none 0 none ∧ Tch NoBlk w w' := by
  go_enter Try.func10, Try.ntmps10
  go_wp2
  go_ret2
  exact ⟨w.heap.size, rfl, Nat.le_refl _, ⟨Blk.new w _ _, Sl.nil _ _ _, by simp, by simp, h2⟩, (Tch.refl _ _).alloc _⟩

theorem refring_new_no (m : Int) (w : World) (h : m < 1 ∨ 256 < m) :
    Calls Try.prog 10 #[.int .i64 m] w fun e w' => e = .returned (.tuple #[.pointer none, .int .i64 1]) ∧ w' = w := by
  by_cases h1 : m < 1
  · go_enter Try.func10, Try.ntmps10
    go_wp2
    go_ret2
    exact ⟨rfl, rfl⟩
  · have h2 : 256 < m := by omega
    clear h
    go_enter Try.func10, Try.ntmps10
    go_wp2
    go_ret2
    exact ⟨rfl, rfl⟩

theorem refring_at_no (b m : Nat) (q : List Int) (A : Option Addr) (cap : Nat) (G : Option Nat) (i : Int) (w : World) (h : RefRing w b m q A cap G) (h1 : i < 0 ∨ q.length ≤ i) :
    Calls Try.prog 16 #[.pointer (some ⟨b, 0, none⟩), .int .i64 i] w fun e w' => e = .returned (.tuple #[.int .i64 0, .bool false]) ∧ w' = w := by
  have hc1 := h.blk.cellOf 1 _ rfl
  by_cases h0 : i < 0
  · go_enter Try.func16, Try.ntmps16
    go_wp2
    go_ret2
    exact ⟨rfl, rfl⟩
  · have h2 : (q.length : Int) ≤ i := by omega
    clear h1
    go_enter Try.func16, Try.ntmps16
    go_wp2
    go_ret2
    exact ⟨rfl, rfl⟩

theorem refring_at_yes (b m : Nat) (q : List Int) (A : Option Addr) (cap : Nat) (G : Option Nat) (i : Int) (w : World) (h : RefRing w b m q A cap G) (h0 : 0 ≤ i) (h1 : i < q.length) :
    Calls Try.prog 16 #[.pointer (some ⟨b, 0, none⟩), .int .i64 i] w fun e w' => e = .returned (.tuple #[.int .i64 (q.getD i.toNat 0), .bool true]) ∧ w' = w := by
  have hc1 := h.blk.cellOf 1 _ rfl
  obtain ⟨n, rfl⟩ := Int.eq_ofNat_of_zero_le h0
  have hn : n < q.length := by omega
  obtain ⟨g, rfl, rfl, hcell⟩ := h.sl.cells (by omega)
  have hcl : w.cell? ⟨g, n, none⟩ = some (.int .i64 (q.getD n 0)) := hcell n _ (by simp [ints, List.getD_eq_getElem?_getD, hn])
  have hm := h.le
  have hm2 := h.m256
  clear hcell
  simp only [Int.toNat_natCast]
  generalize q.getD n 0 = v at *
  go_enter Try.func16, Try.ntmps16
  go_wp2
  go_ret2
  exact ⟨rfl, rfl⟩

theorem refring_put_no (b m : Nat) (q : List Int) (A : Option Addr) (cap : Nat) (G : Option Nat) (x : Int) (w : World) (h : RefRing w b m q A cap G) (hl : q.length = m) :
    Calls Try.prog 14 #[.pointer (some ⟨b, 0, none⟩), .int .i64 x] w fun e w' => e = .returned (.bool false) ∧ ∃ n, w' = w.drewN n := by
  have hc0 := h.blk.cellOf 0 _ rfl
  have hc1 := h.blk.cellOf 1 _ rfl
  have hm2 := h.m256
  have hd : m ≤ q.length := by omega
  clear hl
  go_enter Try.func14, Try.ntmps14
  go_wp2
  go_quiet (fail)
  go_wp2
  go_ret
  exact ⟨rfl, _, rfl⟩

theorem refring_put_yes (b m : Nat) (q : List Int) (A : Option Addr) (cap : Nat) (G : Option Nat) (x : Int) (w : World) (h : RefRing w b m q A cap G) (hl : q.length < m) :
    Calls Try.prog 14 #[.pointer (some ⟨b, 0, none⟩), .int .i64 x] w fun e w' => e = .returned (.bool true) ∧ Tch (· = b) w w' ∧ ∃ A' cap' G', RefRing w' b m (q ++ [x]) A' cap' G' ∧ ∀ g, G' = some g → w.heap.size ≤ g := by
  have hc0 := h.blk.cellOf 0 _ rfl
  have hc1 := h.blk.cellOf 1 _ rfl
  have hm2 := h.m256
  have hsl := h.sl
  have hlt := h.blk.lt
  have hq := h.le
  have ca : ∀ (n : Nat) (o : Obj), ((w.drewN n).alloc o).cell? ⟨b, 1, none⟩ = some (.slice A q.length cap) := fun n o => (World.cell?_alloc_lt (w.drewN n) o ⟨b, 1, none⟩ hlt).trans hc1
  go_enter Try.func14, Try.ntmps14
  go_wp2
  go_quiet (fail)
  go_wp2_with (at_builtin; first
    | (refine wpList_app _ rfl (.tmp 16) (.tmp 20) 22 rfl 3 (.int .i64 0) 1 8 Try.underlying22 infoInt rfl (by decide) (by decide) _ _ _ _ _ _ _ _ _ rfl rfl (Sl.made (w.drewN nq) 3 #[] 0 rfl (by decide)) ((hsl.drewN nq).alloc _).src (ints_one q) (by omega) ?_; intro A1 cap1 w1 G1 hs1 ht1 hg1; simp only [Nat.zero_add, List.nil_append] at hs1; have T1 := Lib.hid (tch_own (((Tch.refl NoBlk w).drewN nq).alloc _) ht1 (own_some (Nat.le_refl _))); have N1 := Lib.hid (own_from (B := w.heap.size) (by simp) (own_some (Nat.le_refl _)) hg1); clear ht1 hg1)
    | (refine wpList_app _ rfl (.tmp 21) (.tmp 23) 22 rfl 3 (.int .i64 0) 1 8 Try.underlying22 infoInt rfl (by decide) (by decide) _ _ _ _ _ _ _ _ _ rfl rfl (hs1.alloc _) (Src.made w1 3 #[.int .i64 x] 1 rfl) (ints_one [x]) (by omega) ?_; intro A2 cap2 w2 G2 hs2 ht2 hg2; have T2 := Lib.hid (tch_own (T1.out.alloc _) ht2 N1.out); have N2 := Lib.hid (own_from (Nat.le_trans T1.out.size (by simp)) N1.out hg2); have hc2 := (h.blk.keep T2.out (fun h => h)).cellOf 1 _ rfl; have hf2 := (h.blk.keep T2.out (fun h => h)).free 1; clear ht2 hg2))
  go_ret
  have hb2 := (h.blk.keep T2.out (fun h => h)).set 1 (.slice A2 (q.length + 1) cap2)
  refine ⟨rfl, (T2.out.mono (T := (· = b)) (fun _ _ h => h.elim)).setCell (p := ⟨b, 1, none⟩) (fun _ => rfl) _, A2, cap2, G2, ⟨?_, ?_, fun g hg => ?_, ?_, hm2⟩, N2.out⟩
  · rw [List.length_append]
    exact hb2
  · rw [List.length_append, ints, List.map_append]
    exact hs2.keep ((Tch.refl (· = b) _).setCell (p := ⟨b, 1, none⟩) (fun _ => rfl) _) (fun g hg e => by have := N2.out g hg; omega)
  · have := N2.out g hg
    omega
  · simp
    omega

theorem refring_take_no (b m : Nat) (A : Option Addr) (cap : Nat) (G : Option Nat) (w : World) (h : RefRing w b m [] A cap G) :
    Calls Try.prog 12 #[.pointer (some ⟨b, 0, none⟩)] w fun e w' => e = .returned (.tuple #[.int .i64 0, .bool false]) ∧ w' = w := by
  have hc1 := h.blk.cellOf 1 _ rfl
  go_enter Try.func12, Try.ntmps12
  go_wp2
  go_ret2
  exact ⟨rfl, rfl⟩

theorem refring_take_yes (b m : Nat) (x : Int) (q : List Int) (A : Option Addr) (cap : Nat) (G : Option Nat) (w : World) (hR : RefRing w b m (x :: q) A cap G) :
    Calls Try.prog 12 #[.pointer (some ⟨b, 0, none⟩)] w fun e w' => e = .returned (.tuple #[.int .i64 x, .bool true]) ∧ Tch (· = b) w w' ∧ ∃ A' cap' G', RefRing w' b m q A' cap' G' ∧ ∀ g, G' = some g → w.heap.size ≤ g := by
  have hc1 := hR.blk.cellOf 1 _ rfl
  obtain ⟨g, rfl, rfl, hcell⟩ := hR.sl.cells (by simp)
  have hcl : w.cell? ⟨g, 0, none⟩ = some (.int .i64 x) := hcell 0 _ (by simp [ints])
  have hm := hR.le
  have hm2 := hR.m256
  have hlt := hR.blk.lt
  have hsl := hR.sl
  have hcap := hR.sl.cap_le
  clear hcell
  simp only [List.length_cons] at hc1 hm hsl hcap
  have ca : ∀ (o : Obj), (w.alloc o).cell? ⟨b, 1, none⟩ = some (.slice (some ⟨g, 0, none⟩) (q.length + 1) cap) := fun o => (World.cell?_alloc_lt w o ⟨b, 1, none⟩ hlt).trans hc1
  have hcap1 : 1 ≤ cap := by omega
  have hsB : ∀ (o : Obj), Src (w.alloc o) 1 (some ⟨g, 1, none⟩) q.length (ints q) := fun o => (hsl.alloc o).src.tail1
  have hsA : ∀ (o : Obj), cap = 1 → Src (w.alloc o) 1 (some ⟨g, 0, none⟩) q.length (ints q) := fun o hc => by
    obtain rfl : q = [] := List.eq_nil_of_length_eq_zero (by omega)
    exact Src.empty _ _ _
  have HA := Lib.hid hsA
  have HB := Lib.hid hsB
  clear hsA hsB
  go_enter Try.func12, Try.ntmps12
  go_wp2_with (at_builtin; go_loud (refine wpList_app _ rfl (.tmp 18) (.tmp 23) 22 rfl 3 (.int .i64 0) 1 8 Try.underlying22 infoInt rfl (by decide) (by decide) _ _ _ _ _ _ _ _ (ints q) rfl rfl (Sl.made w 3 #[] 0 rfl (by decide)) (by split; exact HA.out _ ‹cap = 1›; exact HB.out _) (ints_one q) (by omega) ?_); intro A1 cap1 w1 G1 hs1 ht1 hg1; simp only [Nat.zero_add, List.nil_append] at hs1; have T1 := Lib.hid (tch_own ((Tch.refl NoBlk w).alloc _) ht1 (own_some (Nat.le_refl _))); have N1 := Lib.hid (own_from (B := w.heap.size) (by simp) (own_some (Nat.le_refl _)) hg1); have hc2 := (hR.blk.keep T1.out (fun h => h)).cellOf 1 _ rfl; have hf2 := (hR.blk.keep T1.out (fun h => h)).free 1; clear ht1 hg1)
  all_goals
    go_ret2
    have hb2 := (hR.blk.keep T1.out (fun h => h)).set 1 (.slice A1 q.length cap1)
    refine ⟨rfl, (T1.out.mono (T := (· = b)) (fun _ _ h => h.elim)).setCell (p := ⟨b, 1, none⟩) (fun _ => rfl) _, A1, cap1, G1, ⟨hb2, ?_, fun g hg => ?_, ?_, hm2⟩, N1.out⟩
    · exact hs1.keep ((Tch.refl (· = b) _).setCell (p := ⟨b, 1, none⟩) (fun _ => rfl) _) (fun g hg e => by have := N1.out g hg; omega)
    · have := N1.out g hg
      omega
    · omega
end Go.Proofs.Ytcfnnpdackklhaa
