/- The reference: a number as bytes. -/
import Derived.Test.YtekblnaogncplaaI
import Derived.Deep.OwnRows
set_option linter.unusedVariables false
set_option linter.unusedSimpArgs false
namespace Go.Proofs.Ytekblnaogncplaa
open Go.RowKit

def dv (n : Nat) : Nat → Nat
  | 0 => n
  | i + 1 => dv n i / 256
def suf (n : Nat) : Nat → List UInt8
  | 0 => []
  | i + 1 => UInt8.ofNat (dv n i) :: suf n i
theorem suf_length (n : Nat) : ∀ i, (suf n i).length = i
  | 0 => rfl
  | i + 1 => by simp [suf, suf_length n i]
theorem be_suf (n k : Nat) : ∀ i, i ≤ k → be n k = be (dv n i) (k - i) ++ suf n i
  | 0, _ => by simp [dv, suf]
  | i + 1, h => by
    rw [be_suf n k i (by omega), show k - i = (k - (i + 1)) + 1 by omega]
    show be (dv n i / 256) _ ++ [UInt8.ofNat (dv n i)] ++ _ = _
    simp [dv, suf]
theorem be_suf' (n k : Nat) : be n k = suf n k := by
  rw [be_suf n k k (Nat.le_refl _), Nat.sub_self]
  rfl
theorem dv_le (n : Nat) : ∀ i, dv n i ≤ n
  | 0 => Nat.le_refl _
  | i + 1 => Nat.le_trans (Nat.div_le_self _ _) (dv_le n i)
def numCells (n k i : Nat) : Array Value := (List.replicate (k - i) (Value.int .u8 0) ++ bvs (suf n i)).toArray
theorem numCells_size (n k i : Nat) (h : i ≤ k) : (numCells n k i).size = k := by simp [numCells, bvs_length, suf_length]; omega
theorem numCells_set (n k i : Nat) (h : i < k) : (numCells n k i).setIfInBounds (k - 1 - i) (bv (UInt8.ofNat (dv n i))) = numCells n k (i + 1) := by
  unfold numCells
  apply Array.ext'
  rw [Array.toList_setIfInBounds]
  simp only []
  obtain ⟨m, rfl⟩ : ∃ m, k = i + m + 1 := ⟨k - i - 1, by omega⟩
  rw [show i + m + 1 - i = m + 1 by omega, show i + m + 1 - 1 - i = m by omega, show i + m + 1 - (i + 1) = m by omega, List.replicate_succ']
  rw [List.append_assoc, List.set_append_right _ _ (by simp)]
  simp [suf, bvs]

set_option maxRecDepth 100000 in
set_option maxHeartbeats 400000 in
theorem num_o (n k : Nat) (hk : k = 2 ∨ k = 4) (hn : n ≤ 1000000000000) (w : World) :
    Calls Try.prog 28 #[.int .i64 (n : Int), .int .i64 (k : Int)] w (fun e w' => ∃ A, e = .returned (.slice A k k) ∧ w'.ownsRow w.heap.size 5 1 (.slice A k k) k (bvs (be n k)) ∧ Below w.heap.size w w') := by
  have hk4 : k ≤ 4 := by omega
  have hk2 : 2 ≤ k := by omega
  obtain ⟨i, hi, hz, hs, hby⟩ := info_parts info5
  go_enter Try.func28, Try.ntmps28
  go_wp2_with (at_make; refine Stop.out ?_)
  refine Stop.mk ?_
  refine wpList_make_row w rfl _ _ 22 rfl 5 i (.int .u8 0) Try.underlying22 hi hz hs rfl .i64 .i64 k rfl rfl (by rw [hby]; omega) (by omega) ?_
  clear hi hz hs hby
  have h0 : (w.alloc (.cells (madeCells #[.int .u8 0] k) 5)).heap[w.heap.size]? = some (.cells (numCells n k 0) 5 (0, 0)) := by
    rw [heap_alloc_new]
    exact congrArg (fun x => some (Obj.cells x 5 (0, 0))) (Array.ext' (by rw [toList_madeCells_one]; simp [numCells, suf, bvs]))
  have hb0 := below_alloc w (.cells (madeCells #[.int .u8 0] k) 5)
  go_wp2_with fail
  go_loopw [0, 6] (fun v i wr => ∃ j : Nat, j ≤ k ∧ v = .int .i64 (dv n j : Int) ∧ i = .int .i64 ((k : Int) - 1 - (j : Int)) ∧ wr.heap[w.heap.size]? = some (.cells (numCells n k j) 5 (0, 0)) ∧ Below w.heap.size w wr) (fun v i _ => (intOf i + 1).toNat)
  case atStart => exact ⟨0, by omega, rfl, by go_num, h0, hb0⟩
  case round =>
    obtain ⟨j, hj, rfl, rfl, hh, hb⟩ := hrel
    have hd := dv_le n j
    by_cases hlt : j < k
    · have hq : (k : Int) - 1 - (j : Int) = ((k - 1 - j : Nat) : Int) := by omega
      have hx : (0 : Int) ≤ (k - 1 - j : Nat) := by omega
      have hfro := frozen_of_row wr w.heap.size (k - 1 - j) (numCells n k j) 5 hh
      have hcell : ∃ u, wr.cell? ⟨w.heap.size, k - 1 - j, none⟩ = some u := by
        rw [cell_of_row wr _ _ _ 5 (0, 0) hh]
        exact ⟨_, Array.getElem?_eq_getElem (by rw [numCells_size n k j hj]; omega)⟩
      obtain ⟨u, hcell⟩ := hcell
      rw [hq]
      go_wp2_with fail
      go_roundw
      case rel =>
        refine ⟨j + 1, hlt, ?_, by go_num, ?_, hb.setCell (by simp) _⟩
        · exact congrArg (Value.int .i64) (by simp [dv]; try go_num)
        · have := heap_setCell_same wr _ (k - 1 - j) (numCells n k j) 5 (bv (UInt8.ofNat (dv n j))) hh
          rw [numCells_set n k j hlt] at this
          rw [← this]
          congr 3
      case measure => simp [intOf]
    · obtain rfl : j = k := by omega
      go_wp2_with fail
      go_ret
      have e : numCells n j j = (bvs (be n j)).toArray := by rw [be_suf']; simp [numCells]
      rw [e] at hh
      exact ⟨some ⟨w.heap.size, 0, none⟩, rfl, ⟨by simp [bvs_length, be_length], .inr ⟨w.heap.size, j, _, rfl, Nat.le_refl _, hh, Nat.le_refl _, by simp [maxLen]; omega, by simp [bvs_length, be_length], by simp [bvs_length, be_length, List.take_of_length_le]⟩⟩, hb⟩
end Go.Proofs.Ytekblnaogncplaa
