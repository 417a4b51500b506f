/- NamesFull's walk. -/
import Derived.Test.YtbhplnkcnmlbnaaNamesOrder
import Derived.Laws.BytesArg
import Derived.Laws.BitsLemmas
namespace Go.Proofs.Ytbhplnkcnmlbnaa
open Go.RowKit

theorem and15 (i : Nat) (h : i < 4096) : bits .and .i64 (i : Int) 15 = (i : Int) % 16 :=
  bits_mask .i64 12 (by decide) (fun n h0 h1 => by rw [IntKind.wrap_i64]; omega) 4 (by decide) (i : Int) (by omega) (by omega)

theorem name_any (i : Nat) (w : World) (h : i < 4096) :
    Calls Try.prog 18 #[.int .i64 i] w fun e w' => e = .returned (.string (strOfNums [97 + (i : Int) % 16, 97 + (i : Int) / 16 % 16, 97 + (i : Int) / 256])) ∧ Tch NoBlk w w' := by
  have h1 := and15 i h
  have h2 : bits .and .i64 ((i : Int) / 16) 15 = (i : Int) / 16 % 16 := by
    have := and15 (i / 16) (by omega)
    simpa using this
  have hcv := run_convert_bytes_arg (P := Try.prog) (w.alloc (.cells #[.int .u8 (97 + (i : Int) % 16), .int .u8 (97 + (i : Int) / 16 % 16), .int .u8 (97 + (i : Int) / 256)] 5)) 47 5 Try.underlying47 Try.underlying5 w.heap.size 0 3 3
    [97 + (i : Int) % 16, 97 + (i : Int) / 16 % 16, 97 + (i : Int) / 256] rfl (fun j hj => by
      rw [Nat.zero_add, World.cell?_alloc_new]
      match j, hj with
      | 0, _ => rfl
      | 1, _ => rfl
      | 2, _ => rfl) 9 Try.underlying9
  generalize strOfNums [97 + (i : Int) % 16, 97 + (i : Int) / 16 % 16, 97 + (i : Int) / 256] = s at *
  go_enter Try.func18, Try.ntmps18
  go_wp2
  go_ret
  exact ⟨rfl, (Tch.refl _ _).alloc _⟩

/-- The i-th of the names that the law puts. -/
def nm (i : Nat) : ByteArray := strOfNums [97 + (i : Int) % 16, 97 + (i : Int) / 16 % 16, 97 + (i : Int) / 256]
theorem nm_size (i : Nat) : (nm i).size = 3 := strOfNums_size _
theorem nm_inj {i j : Nat} (hi : i < 4096) (hj : j < 4096) (h : nm i = nm j) : i = j := by
  have h1 := congrArg (fun s : ByteArray => s.data.toList) h
  simp only [nm, strOfNums_data, List.map_cons, List.map_nil, List.cons.injEq, and_true] at h1
  obtain ⟨h1, h2, h3⟩ := h1
  have e1 := congrArg UInt8.toNat h1
  have e2 := congrArg UInt8.toNat h2
  have e3 := congrArg UInt8.toNat h3
  simp only [UInt8.toNat_ofNat'] at e1 e2 e3
  omega

def nms (k : Nat) : List ByteArray := (List.range k).map nm
theorem nms_length (k : Nat) : (nms k).length = k := by simp [nms]
theorem nms_snoc (k : Nat) : nms (k + 1) = nms k ++ [nm k] := by simp [nms, List.range_succ]
theorem npos_nms_none (k : Nat) (h : k < 4096) : npos (nm k) (nms k) 0 = none := by
  rw [npos_none]
  intro hm
  simp only [nms, List.mem_map, List.mem_range] at hm
  obtain ⟨j, hj, he⟩ := hm
  have := nm_inj (by omega) h he
  omega
theorem npos_nms_some : ∀ (n k : Nat), k < n → n ≤ 4096 → npos (nm k) (nms n) 0 = some k
  | 0, k, h, _ => absurd h (by omega)
  | n + 1, k, h, hn => by
    rw [nms_snoc, npos_snoc]
    by_cases hk : k < n
    · rw [npos_nms_some n k hk (by omega)]
      rfl
    · obtain rfl : k = n := by omega
      rw [npos_nms_none k (by omega), if_pos rfl, nms_length, Nat.zero_add]
      rfl
theorem npos_size (s : ByteArray) (h : s.size ≠ 3) (k : Nat) : npos s (nms k) 0 = none := by
  rw [npos_none]
  intro hm
  simp only [nms, List.mem_map, List.mem_range] at hm
  obtain ⟨j, _, rfl⟩ := hm
  exact h (nm_size j)
end Go.Proofs.Ytbhplnkcnmlbnaa
