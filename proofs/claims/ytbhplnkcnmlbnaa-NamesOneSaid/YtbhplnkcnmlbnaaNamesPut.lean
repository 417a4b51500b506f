/- names.Put. -/
import Derived.Test.YtbhplnkcnmlbnaaNames
namespace Go.Proofs.Ytbhplnkcnmlbnaa
open Go.RowKit

theorem names_put_nil (s : ByteArray) (w : World) :
    Calls Try.prog 11 #[.pointer none, .string s] w fun e w' => e = .returned (.tuple #[.int .i64 0, .int .i64 2]) ∧ w' = w := by
  go_enter Try.func11, Try.ntmps11
  go_wp2
  go_ret2
  exact ⟨rfl, rfl⟩

theorem names_put_arg (b : Nat) (s : ByteArray) (w : World) (hs : s.size < 1 ∨ 32 < s.size) :
    Calls Try.prog 11 #[.pointer (some ⟨b, 0, none⟩), .string s] w fun e w' => e = .returned (.tuple #[.int .i64 0, .int .i64 1]) ∧ w' = w := by
  by_cases h1 : s.size < 1
  · clear hs
    go_enter Try.func11, Try.ntmps11
    go_wp2
    go_ret2
    exact ⟨rfl, rfl⟩
  · have h2 : 32 < s.size := by omega
    clear hs
    go_enter Try.func11, Try.ntmps11
    go_wp2
    go_ret2
    exact ⟨rfl, rfl⟩

theorem names_put_old (b : Nat) (l : List ByteArray) (F : Nat → Prop) (s : ByteArray) (n : Nat) (w : World) (h : NamesQ w b l F) (h1 : 1 ≤ s.size) (h2 : s.size ≤ 32) (hn : npos s l 0 = some n) :
    Calls Try.prog 11 #[.pointer (some ⟨b, 0, none⟩), .string s] w fun e w' => e = .returned (.tuple #[.int .i64 n, .int .i64 0]) ∧ w' = w := by
  obtain ⟨A, cap, G, r, h, hF⟩ := h
  have hc := h.blk.cellOf 1 _ rfl
  have hmp := h.mp
  have hu := lk_numb s l 0
  rw [hn] at hu
  have HU := Lib.hid hu
  clear hu hn
  go_enter Try.func11, Try.ntmps11
  go_wp2_with (at_lookup; refine wpList_lk nameKeys rfl _ _ 43 3 rfl Try.underlying43 (.int .i64 0) zeroInt r _ s rfl rfl hmp (some (.int .i64 n)) HU.out ?_)
  go_ret2
  exact ⟨rfl, rfl⟩

set_option maxRecDepth 100000 in
theorem names_put_full (b : Nat) (l : List ByteArray) (F : Nat → Prop) (s : ByteArray) (w : World) (h : NamesQ w b l F) (h1 : 1 ≤ s.size) (h2 : s.size ≤ 32) (hn : npos s l 0 = none) (hl : 4096 ≤ l.length) :
    Calls Try.prog 11 #[.pointer (some ⟨b, 0, none⟩), .string s] w fun e w' => e = .returned (.tuple #[.int .i64 0, .int .i64 3]) ∧ w' = w := by
  obtain ⟨A, cap, G, r, h, hF⟩ := h
  have hc0 := h.blk.cellOf 0 _ rfl
  have hc := h.blk.cellOf 1 _ rfl
  have hmp := h.mp
  have hu := lk_numb s l 0
  rw [hn] at hu
  have HU := Lib.hid hu
  clear hu hn
  go_enter Try.func11, Try.ntmps11
  go_wp2_with (at_lookup; refine wpList_lk nameKeys rfl _ _ 43 3 rfl Try.underlying43 (.int .i64 0) zeroInt r _ s rfl rfl hmp none HU.out ?_)
  go_ret2
  exact ⟨rfl, rfl⟩

set_option maxRecDepth 100000 in
theorem names_put_new (b : Nat) (l : List ByteArray) (F : Nat → Prop) (s : ByteArray) (w : World) (h : NamesQ w b l F) (h1 : 1 ≤ s.size) (h2 : s.size ≤ 32) (hn : npos s l 0 = none) (hl : l.length < 4096) :
    Calls Try.prog 11 #[.pointer (some ⟨b, 0, none⟩), .string s] w fun e w' => e = .returned (.tuple #[.int .i64 l.length, .int .i64 0]) ∧ Tch F w w' ∧
      ∃ F', NamesQ w' b (l ++ [s]) F' ∧ ∀ k, F' k → F k ∨ w.heap.size ≤ k := by
  obtain ⟨A, cap, G, r, hN, hF⟩ := h
  have HF := Lib.hid hF
  have hc0 := hN.blk.cellOf 0 _ rfl
  have hc := hN.blk.cellOf 1 _ rfl
  have hmp := hN.mp
  have hsl := hN.sl
  have hu := lk_numb s l 0
  rw [hn] at hu
  have HU := Lib.hid hu
  have HN := Lib.hid (upd_numb s l hn)
  have hlb := hN.blk.lt
  have hlr := hN.mp.lt
  have hrb := hN.rb
  clear hu hn hF
  go_enter Try.func11, Try.ntmps11
  go_wp2_with (first
    | (at_lookup; refine wpList_lk nameKeys rfl _ _ 43 3 rfl Try.underlying43 (.int .i64 0) zeroInt r _ s rfl rfl hmp none HU.out ?_)
    | (at_builtin; refine wpList_app _ rfl (.tmp 43) (.tmp 45) 22 rfl 9 (.string ByteArray.empty) 1 16 Try.underlying22 infoStr rfl (by decide) (by decide) _ _ _ _ _ _ _ _ _ rfl rfl (hsl.alloc _) (Src.made w 9 #[.string s] 1 rfl) (strs_one [s]) (by omega) ?_; intro A2 cap2 w2 G2 hs2 ht2 hg2; have T2 : Hid (Tch (fun k => G = some k) w w2) := Lib.hid (Tch.trans ((Tch.refl _ _).alloc _) ht2); have hG2 := Lib.hid hg2; have hb2 := hN.blk.keep T2.out (fun e => (hN.ne _ e).1 rfl); have hf2 := hb2.free 0; have hc20 := hb2.cellOf 0 _ rfl; have hc21 := hb2.cellOf 1 _ rfl; have hm2 : ∀ v, MapAt (w2.setCell ⟨b, 0, none⟩ v) r (ents nameKeys (numb l 0)) := fun v => (hN.mp.keep T2.out (fun e => (hN.ne _ e).2 rfl)).keep ((Tch.refl (· = b) w2).setCell (p := ⟨b, 0, none⟩) (fun _ => rfl) v) hrb; clear ht2 hg2)
    | (at_mapUpdate; refine wpList_upd nameKeys rfl _ _ _ 43 3 rfl Try.underlying43 r _ s (.int .i64 l.length) rfl rfl rfl (hm2 _) ?_; intro w3 hm3 ht3; have T3 := Lib.hid ht3; clear ht3))
  go_ret2
  rw [HN.out] at hm3
  have T12 : Tch (fun k => k = b ∨ G = some k) w (w2.setCell ⟨b, 0, none⟩ (.slice A2 (l.length + 1) cap2)) := (T2.out.mono (fun _ _ h => .inr h)).setCell (p := ⟨b, 0, none⟩) (fun _ => .inl rfl) _
  have hsz := T12.size
  have hlt : ∀ g, G2 = some g → g ≠ b ∧ g ≠ r := by
    intro g hg
    rcases hG2.out with e | ⟨k, e, hk⟩
    · exact hN.ne g (e ▸ hg)
    · rw [e] at hg
      injection hg with hg
      simp at hk
      omega
  refine ⟨rfl, (T12.mono (T := F) (fun k _ hk => ?_)).then T3.out (fun k _ hk => (HF.out k).2 (.inr (.inl hk))), fun k => k = b ∨ k = r ∨ G2 = some k, ⟨A2, cap2, G2, r, ⟨?_, ?_, hm3, hlt, hrb, ?_⟩, fun k => Iff.rfl⟩, fun k hk => ?_⟩
  · rcases hk with hk | hk
    · exact (HF.out k).2 (.inl hk)
    · exact (HF.out k).2 (.inr (.inr hk))
  · have h1 : Blk (w2.setCell ⟨b, 0, none⟩ (.slice A2 (l.length + 1) cap2)) b 51 [.slice A2 (l.length + 1) cap2, .map (some r)] := hb2.set 0 _
    rw [List.length_append]
    exact h1.keep T3.out (Ne.symm hrb)
  · rw [List.length_append, strs, List.map_append]
    exact (hs2.keep ((Tch.refl (· = b) w2).setCell (p := ⟨b, 0, none⟩) (fun _ => rfl) _) (fun g hg e => (hlt g hg).1 e)).keep T3.out (fun g hg e => (hlt g hg).2 e)
  · simp
    omega
  · rcases hk with rfl | rfl | hk
    · exact .inl ((HF.out _).2 (.inl rfl))
    · exact .inl ((HF.out _).2 (.inr (.inl rfl)))
    · rcases hG2.out with e | ⟨g, e, hg⟩
      · exact .inl ((HF.out _).2 (.inr (.inr (e ▸ hk))))
      · right
        rw [e] at hk
        injection hk with hk
        simp at hg
        omega
end Go.Proofs.Ytbhplnkcnmlbnaa
