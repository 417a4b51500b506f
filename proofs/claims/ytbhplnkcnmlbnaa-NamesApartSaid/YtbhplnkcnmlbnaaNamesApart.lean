/- NamesApart's walk. -/
import Derived.Test.YtbhplnkcnmlbnaaNamesLaw
namespace Go.Proofs.Ytbhplnkcnmlbnaa
open Go.RowKit

/-- Three rows of names and two slices of strings, each in blocks of its own, new since w0. -/
structure Three (w0 w : World) (a : Nat) (la : List ByteArray) (b : Nat) (lb : List ByteArray) (c : Nat) (lc : List ByteArray) (Ax : Option Addr) (cx : Nat) (X : List ByteArray) (Ay : Option Addr) (cy : Nat) (Y : List ByteArray) (Gx Gy : Option Nat) (Fa Fb Fc : Nat → Prop) : Prop where
  na : NamesQ w a la Fa
  nb : NamesQ w b lb Fb
  nc : NamesQ w c lc Fc
  sx : Sl w 9 1 Ax X.length cx (strs X) Gx
  sy : Sl w 9 1 Ay Y.length cy (strs Y) Gy
  ab : ∀ k, Fa k → Fb k → False
  ac : ∀ k, Fa k → Fc k → False
  bc : ∀ k, Fb k → Fc k → False
  gx : ∀ g, Gx = some g → ¬ Fa g ∧ ¬ Fb g ∧ ¬ Fc g
  gy : ∀ g, Gy = some g → ¬ Fa g ∧ ¬ Fb g ∧ ¬ Fc g
  base : ∀ k, Fa k ∨ Fb k ∨ Fc k → w0.heap.size ≤ k
  below : Below w0.heap.size w0 w

/-- One row of names as it stands, whatever block it lies in. -/
def ThreeQ (w0 w : World) (a : Nat) (la : List ByteArray) (b : Nat) (lb : List ByteArray) (c : Nat) (lc : List ByteArray) (Ax : Option Addr) (cx : Nat) (X : List ByteArray) (Ay : Option Addr) (cy : Nat) (Y : List ByteArray) : Prop :=
  ∃ Gx Gy Fa Fb Fc, Three w0 w a la b lb c lc Ax cx X Ay cy Y Gx Gy Fa Fb Fc

section
variable {w0 w : World} {a : Nat} {la : List ByteArray} {b : Nat} {lb : List ByteArray} {c : Nat} {lc : List ByteArray} {Ax : Option Addr} {cx : Nat} {X : List ByteArray} {Ay : Option Addr} {cy : Nat} {Y : List ByteArray}

theorem ThreeQ.ab (h : ThreeQ w0 w a la b lb c lc Ax cx X Ay cy Y) : ThreeQ w0 w b lb a la c lc Ax cx X Ay cy Y := by
  obtain ⟨Gx, Gy, Fa, Fb, Fc, h⟩ := h
  exact ⟨Gx, Gy, Fb, Fa, Fc, h.nb, h.na, h.nc, h.sx, h.sy, fun k x y => h.ab k y x, h.bc, h.ac, fun g hg => ⟨(h.gx g hg).2.1, (h.gx g hg).1, (h.gx g hg).2.2⟩, fun g hg => ⟨(h.gy g hg).2.1, (h.gy g hg).1, (h.gy g hg).2.2⟩,
    fun k hk => h.base k (by rcases hk with h | h | h; exact .inr (.inl h); exact .inl h; exact .inr (.inr h)), h.below⟩

theorem ThreeQ.ac (h : ThreeQ w0 w a la b lb c lc Ax cx X Ay cy Y) : ThreeQ w0 w c lc b lb a la Ax cx X Ay cy Y := by
  obtain ⟨Gx, Gy, Fa, Fb, Fc, h⟩ := h
  exact ⟨Gx, Gy, Fc, Fb, Fa, h.nc, h.nb, h.na, h.sx, h.sy, fun k x y => h.bc k y x, fun k x y => h.ac k y x, fun k x y => h.ab k y x, fun g hg => ⟨(h.gx g hg).2.2, (h.gx g hg).2.1, (h.gx g hg).1⟩, fun g hg => ⟨(h.gy g hg).2.2, (h.gy g hg).2.1, (h.gy g hg).1⟩,
    fun k hk => h.base k (by rcases hk with h | h | h; exact .inr (.inr h); exact .inr (.inl h); exact .inl h), h.below⟩

theorem three_put (h : ThreeQ w0 w a la b lb c lc Ax cx X Ay cy Y) (s : ByteArray) :
    Calls Try.prog 11 #[.pointer (some ⟨a, 0, none⟩), .string s] w fun e w' => (∃ x y : Int, e = .returned (.tuple #[.int .i64 x, .int .i64 y])) ∧ ThreeQ w0 w' a (putM la s).1 b lb c lc Ax cx X Ay cy Y := by
  obtain ⟨Gx, Gy, Fa, Fb, Fc, h⟩ := h
  refine (names_put a la Fa s w h.na).mono ?_
  rintro e w' ⟨rfl, hT, F', hN, hF'⟩
  refine ⟨⟨_, _, rfl⟩, Gx, Gy, F', Fb, Fc, hN, h.nb.keep hT (fun k hb ha => h.ab k ha hb), h.nc.keep hT (fun k hc ha => h.ac k ha hc), h.sx.keep hT (fun g hg => (h.gx g hg).1), h.sy.keep hT (fun g hg => (h.gy g hg).1), ?_, ?_, h.bc, ?_, ?_, ?_, below_tch h.below hT (fun k hk => h.base k (.inl hk))⟩
  · intro k hk hb
    rcases hF' k hk with h1 | h1
    · exact h.ab k h1 hb
    · have := h.nb.lt k hb
      omega
  · intro k hk hb
    rcases hF' k hk with h1 | h1
    · exact h.ac k h1 hb
    · have := h.nc.lt k hb
      omega
  · intro g hg
    refine ⟨fun hk => ?_, (h.gx g hg).2⟩
    rcases hF' g hk with h1 | h1
    · exact (h.gx g hg).1 h1
    · have := h.sx.lt g hg
      omega
  · intro g hg
    refine ⟨fun hk => ?_, (h.gy g hg).2⟩
    rcases hF' g hk with h1 | h1
    · exact (h.gy g hg).1 h1
    · have := h.sy.lt g hg
      omega
  · intro k hk
    rcases hk with hk | hk
    · rcases hF' k hk with h1 | h1
      · exact h.base k (.inl h1)
      · exact Nat.le_trans h.below.size h1
    · exact h.base k (.inr hk)

theorem three_put_b (h : ThreeQ w0 w a la b lb c lc Ax cx X Ay cy Y) (s : ByteArray) :
    Calls Try.prog 11 #[.pointer (some ⟨b, 0, none⟩), .string s] w fun e w' => (∃ x y : Int, e = .returned (.tuple #[.int .i64 x, .int .i64 y])) ∧ ThreeQ w0 w' a la b (putM lb s).1 c lc Ax cx X Ay cy Y :=
  (three_put h.ab s).mono fun _ _ ⟨he, hw⟩ => ⟨he, hw.ab⟩

theorem three_put_c (h : ThreeQ w0 w a la b lb c lc Ax cx X Ay cy Y) (s : ByteArray) :
    Calls Try.prog 11 #[.pointer (some ⟨c, 0, none⟩), .string s] w fun e w' => (∃ x y : Int, e = .returned (.tuple #[.int .i64 x, .int .i64 y])) ∧ ThreeQ w0 w' a la b lb c (putM lc s).1 Ax cx X Ay cy Y :=
  (three_put h.ac s).mono fun _ _ ⟨he, hw⟩ => ⟨he, hw.ac⟩
end

/-- Names, one after the other. -/
def puts (l : List ByteArray) : List ByteArray := l.foldl (fun l s => (putM l s).1) []
theorem puts_snoc (l : List ByteArray) (k : Nat) (h : k < l.length) : puts (l.take (k + 1)) = (putM (puts (l.take k)) (l.getD k ByteArray.empty)).1 := by
  unfold puts
  rw [List.take_succ_eq_append_getElem h, List.foldl_append]
  simp [List.getD_eq_getElem?_getD, h]

theorem puts_over (l : List ByteArray) (k : Nat) (h : l.length ≤ k) : puts (l.take (k + 1)) = puts (l.take k) := by
  rw [List.take_of_length_le (by omega), List.take_of_length_le h]
theorem puts_all (l : List ByteArray) (k : Nat) (h : l.length ≤ k) : puts (l.take k) = puts l := by rw [List.take_of_length_le h]

set_option maxHeartbeats 4000000 in
set_option maxRecDepth 100000 in
theorem namesApart_walk (a : Option Addr) (cap : Nat) (l : List ByteArray) (a' : Option Addr) (cap' : Nat) (l' : List ByteArray) (w : World) (h : StrsIn w a cap l) (h' : StrsIn w a' cap' l') :
    Calls Try.prog 4 #[.slice a l.length cap, .slice a' l'.length cap'] w fun e w' => e = .returned (.bool true) ∧ Below w.heap.size w w' := by
  go_enter Try.func4, Try.ntmps4
  go_wp2_with fail
  refine (names_shown w).mono ?_
  rintro e w1 ⟨rfl, hT1⟩
  have B1 := below_no (Below.refl _ w) hT1
  clear hT1
  go_wp2_with fail
  refine (names_new w1).mono ?_
  rintro e w2 ⟨ba, Fa, rfl, hN2, hF2, hT2⟩
  have hFa : ∀ k, Fa k → w.heap.size ≤ k ∧ k < w2.heap.size := fun k hk => ⟨Nat.le_trans B1.size (hF2 k hk), hN2.lt k hk⟩
  have B2 := below_no B1 hT2
  clear hT2 hF2 B1
  go_wp2_with fail
  refine (names_new w2).mono ?_
  rintro e w3 ⟨bb, Fb, rfl, hM3, hF3, hT3⟩
  have hFb : ∀ k, Fb k → w.heap.size ≤ k ∧ w2.heap.size ≤ k ∧ k < w3.heap.size := fun k hk => ⟨Nat.le_trans B2.size (hF3 k hk), hF3 k hk, hM3.lt k hk⟩
  have hN3 := hN2.keep hT3 (fun _ _ h => h)
  have B3 := below_no B2 hT3
  have s3 := hT3.size
  clear hT3 hF3 B2 hN2
  go_wp2_with fail
  refine (names_new w3).mono ?_
  rintro e w4 ⟨bc, Fc, rfl, hP4, hF4, hT4⟩
  have hFc : ∀ k, Fc k → w.heap.size ≤ k ∧ w3.heap.size ≤ k ∧ k < w4.heap.size := fun k hk => ⟨Nat.le_trans B3.size (hF4 k hk), hF4 k hk, hP4.lt k hk⟩
  have hN4 := hN3.keep hT4 (fun _ _ h => h)
  have hM4 := hM3.keep hT4 (fun _ _ h => h)
  have B4 := below_no B3 hT4
  have s4 := hT4.size
  clear hT4 hF4 B3 hN3 hM3
  have hin : StrsIn w4 a cap l := ⟨h.le, h.cap, fun h0 => by
    obtain ⟨x, off, rfl, hc⟩ := h.cells h0
    exact ⟨x, off, rfl, fun i hi => (B4.cell (World.block_lt_of_cell? w _ (hc i hi))).trans (hc i hi)⟩, h.wf⟩
  go_wp2_with fail
  refine (few_any a cap l _ hin).mono ?_
  clear hin
  rintro e w5 ⟨Ax, cx, Gx, rfl, hx5, hGx, hT5⟩
  have hN5 := hN4.keep hT5 (fun _ _ h => h)
  have hM5 := hM4.keep hT5 (fun _ _ h => h)
  have hP5 := hP4.keep hT5 (fun _ _ h => h)
  have B5 := below_no B4 hT5
  have s5 := hT5.size
  clear hT5 B4 hN4 hM4 hP4
  have hin : StrsIn w5 a' cap' l' := ⟨h'.le, h'.cap, fun h0 => by
    obtain ⟨x, off, rfl, hc⟩ := h'.cells h0
    exact ⟨x, off, rfl, fun i hi => (B5.cell (World.block_lt_of_cell? w _ (hc i hi))).trans (hc i hi)⟩, h'.wf⟩
  go_wp2_with fail
  refine (few_any a' cap' l' _ hin).mono ?_
  clear hin
  rintro e w6 ⟨Ay, cy, Gy, rfl, hy6, hGy, hT6⟩
  have hx6 := hx5.keep hT6 (fun _ _ h => h)
  have I6 : ThreeQ w w6 ba [] bb [] bc [] Ax cx (fewL l) Ay cy (fewL l') :=
    ⟨Gx, Gy, Fa, Fb, Fc, hN5.keep hT6 (fun _ _ h => h), hM5.keep hT6 (fun _ _ h => h), hP5.keep hT6 (fun _ _ h => h), hx6, hy6,
      fun k x y => by have := hFa k x; have := hFb k y; omega, fun k x y => by have := hFa k x; have := hFc k y; omega, fun k x y => by have := hFb k x; have := hFc k y; omega,
      fun g hg => by
        have h1 := hGx g hg
        exact ⟨fun hk => by have := hFa g hk; omega, fun hk => by have := hFb g hk; omega, fun hk => by have := hFc g hk; omega⟩,
      fun g hg => by
        have h1 := hGy g hg
        exact ⟨fun hk => by have := hFa g hk; omega, fun hk => by have := hFb g hk; omega, fun hk => by have := hFc g hk; omega⟩,
      fun k hk => by
        rcases hk with hk | hk | hk
        · exact (hFa k hk).1
        · exact (hFb k hk).1
        · exact (hFc k hk).1,
      below_no B5 hT6⟩
  clear hT6 B5 hN5 hM5 hP5 hx5 hx6 hy6 hGx hGy hFa hFb hFc s3 s4 s5
  have hn100 : (fewL l).length ≤ 100 := by rw [fewL_length]; omega
  have hm100 : (fewL l').length ≤ 100 := by rw [fewL_length]; omega
  generalize fewL l = X at *
  generalize fewL l' = Y at *
  go_wp2_with fail
  go_loopw [39] (fun i wr => ∃ k : Nat, i = .int .i64 k ∧ k ≤ X.length ∧ ThreeQ w wr ba [] bb [] bc (puts (X.take k)) Ax cx X Ay cy Y) (fun i _ => X.length - (intOf i).toNat)
  case atStart => exact ⟨0, rfl, Nat.zero_le _, I6⟩
  case round =>
    clear I6
    obtain ⟨k, rfl, hk, I⟩ := hrel
    by_cases hlt : k < X.length
    · have hsn := Lib.hid (puts_snoc X k hlt)
      have I0 := I
      obtain ⟨Gx, Gy, Fa, Fb, Fc, h3⟩ := I0
      obtain ⟨g, rfl, rfl, hcell⟩ := h3.sx.cells (by omega)
      have hcw : wr.cell? ⟨g, k, none⟩ = some (.string (X.getD k ByteArray.empty)) := hcell k _ (by simp [strs, List.getD_eq_getElem?_getD, hlt])
      clear hcell h3
      generalize X.getD k ByteArray.empty = s at *
      go_wp2_with fail
      refine (three_put_c I s).mono ?_
      rintro e w7 ⟨⟨x, y, rfl⟩, I7⟩
      go_wp2
      go_roundw
      case rel => exact ⟨k + 1, num (by omega), by omega, by rw [hsn.out]; exact I7⟩
      case measure => simp [intOf]; omega
    · have hge : X.length ≤ k := by omega
      have HP := Lib.hid (show puts (X.take k) = puts X by rw [List.take_of_length_le hge])
      rw [HP.out] at I
      clear hlt HP
      go_wp2_with fail
      all_goals
        go_loopw [52] (fun i wr => ∃ k : Nat, i = .int .i64 k ∧ k ≤ max X.length Y.length ∧ ThreeQ w wr ba (puts (X.take k)) bb (puts (Y.take k)) bc (puts X) Ax cx X Ay cy Y) (fun i _ => max X.length Y.length - (intOf i).toNat)
        case atStart => exact ⟨0, rfl, Nat.zero_le _, I⟩
        case round =>
          clear I
          obtain ⟨j, rfl, hj, I⟩ := hrel
          by_cases hlt : j < max X.length Y.length
          · have HR : Hid (j + 1 ≤ max X.length Y.length) := Lib.hid (by omega)
            by_cases hjx : j < X.length
            · have hsn := Lib.hid (puts_snoc X j hjx)
              have I0 := I
              obtain ⟨Gx, Gy, Fa, Fb, Fc, h3⟩ := I0
              obtain ⟨g, rfl, rfl, hcell⟩ := h3.sx.cells (by omega)
              have hcw : wr.cell? ⟨g, j, none⟩ = some (.string (X.getD j ByteArray.empty)) := hcell j _ (by simp [strs, List.getD_eq_getElem?_getD, hjx])
              clear hcell h3
              generalize X.getD j ByteArray.empty = s at *
              go_wp2_with fail
              refine (three_put I s).mono ?_
              rintro e w7 ⟨⟨x, y, rfl⟩, I7⟩
              rw [← hsn.out] at I7
              clear I
              by_cases hjy : j < Y.length
              · have hsm := Lib.hid (puts_snoc Y j hjy)
                have I0 := I7
                obtain ⟨Gx, Gy, Fa, Fb, Fc, h3⟩ := I0
                obtain ⟨g', rfl, rfl, hcell⟩ := h3.sy.cells (by omega)
                have hcw : w7.cell? ⟨g', j, none⟩ = some (.string (Y.getD j ByteArray.empty)) := hcell j _ (by simp [strs, List.getD_eq_getElem?_getD, hjy])
                clear hcell h3
                generalize Y.getD j ByteArray.empty = t at *
                go_wp2_with fail
                refine (three_put_b I7 t).mono ?_
                rintro e w8 ⟨⟨x, y, rfl⟩, I8⟩
                rw [← hsm.out] at I8
                go_wp2
                go_roundw
                case rel => exact ⟨j + 1, num (by omega), HR.out, I8⟩
                case measure => simp [intOf]; omega
              · first
                  | (exfalso; omega)
                  | (have hov := Lib.hid (puts_over Y j (by omega))
                     have hjy2 : Y.length ≤ j := by omega
                     rw [← hov.out] at I7
                     go_wp2
                     go_roundw
                     case rel => exact ⟨j + 1, num (by omega), HR.out, I7⟩
                     case measure => simp [intOf]; omega)
            · first
                | (exfalso; omega)
                | (have hov := Lib.hid (puts_over X j (by omega))
                   have hjx2 : X.length ≤ j := by omega
                   rw [← hov.out] at I
                   have hjy : j < Y.length := by omega
                   have hsm := Lib.hid (puts_snoc Y j hjy)
                   have I0 := I
                   obtain ⟨Gx, Gy, Fa, Fb, Fc, h3⟩ := I0
                   obtain ⟨g', rfl, rfl, hcell⟩ := h3.sy.cells (by omega)
                   have hcw : wr.cell? ⟨g', j, none⟩ = some (.string (Y.getD j ByteArray.empty)) := hcell j _ (by simp [strs, List.getD_eq_getElem?_getD, hjy])
                   clear hcell h3
                   generalize Y.getD j ByteArray.empty = t at *
                   go_wp2_with fail
                   refine (three_put_b I t).mono ?_
                   rintro e w8 ⟨⟨x, y, rfl⟩, I8⟩
                   rw [← hsm.out] at I8
                   go_wp2
                   go_roundw
                   case rel => exact ⟨j + 1, num (by omega), HR.out, I8⟩
                   case measure => simp [intOf]; omega)
          · have hge2 : max X.length Y.length ≤ j := by omega
            rw [puts_all X j (by omega)] at I
            clear hlt
            obtain ⟨Gx, Gy, Fa, Fb, Fc, h3⟩ := I
            have hle := h3.na.le
            have B3 := Lib.hid h3.below
            have hA := h3.na
            have hC := h3.nc
            clear h3
            generalize puts X = L at *
            go_wp2_with fail
            refine (names_len bc L Fc _ hC).mono ?_
            rintro e w7 ⟨rfl, rfl⟩
            go_wp2_with fail
            go_loopw [79] (fun i wr => ∃ k : Nat, i = .int .i64 k ∧ k ≤ L.length + 1 ∧ NamesQ wr ba L Fa ∧ NamesQ wr bc L Fc ∧ Below w.heap.size w wr) (fun i _ => L.length + 1 - (intOf i).toNat)
            case atStart => exact ⟨0, rfl, Nat.zero_le _, hA, hC, B3.out⟩
            case round =>
              clear hA hC B3
              obtain ⟨n, rfl, hn, hA, hC, B⟩ := hrel
              have HB := Lib.hid B
              clear B
              by_cases hlt : n < L.length + 1
              · by_cases hnl : n < L.length
                · obtain ⟨s, hs⟩ : ∃ s, L.getD n ByteArray.empty = s := ⟨_, rfl⟩
                  have HS := Lib.hid hs
                  clear hs
                  go_wp2_with fail
                  refine (names_text_yes ba L Fa n _ hA (by omega) (by omega)).mono ?_
                  rintro e w8 ⟨rfl, rfl⟩
                  rw [Int.toNat_natCast, HS.out]
                  go_wp2_with fail
                  refine (names_text_yes bc L Fc n _ hC (by omega) (by omega)).mono ?_
                  rintro e w8 ⟨rfl, rfl⟩
                  rw [Int.toNat_natCast, HS.out]
                  go_wp2
                  go_roundw
                  case rel => exact ⟨n + 1, num (by omega), by omega, hA, hC, HB.out⟩
                  case measure => simp [intOf]; omega
                · go_wp2_with fail
                  refine (names_text_no ba L Fa n _ hA (by omega)).mono ?_
                  rintro e w8 ⟨rfl, rfl⟩
                  go_wp2_with fail
                  refine (names_text_no bc L Fc n _ hC (by omega)).mono ?_
                  rintro e w8 ⟨rfl, rfl⟩
                  go_wp2
                  go_roundw
                  case rel => exact ⟨n + 1, num (by omega), by omega, hA, hC, HB.out⟩
                  case measure => simp [intOf]; omega
              · have hge3 : L.length + 1 ≤ n := by omega
                clear hlt
                go_wp2_with fail
                refine (names_len ba L Fa _ hA).mono ?_
                rintro e w8 ⟨rfl, rfl⟩
                go_wp2_with fail
                refine (names_len bc L Fc _ hC).mono ?_
                rintro e w8 ⟨rfl, rfl⟩
                go_wp2
                go_ret
                refine ⟨ret_bool ?_, HB.out⟩
                simp
end Go.Proofs.Ytbhplnkcnmlbnaa
