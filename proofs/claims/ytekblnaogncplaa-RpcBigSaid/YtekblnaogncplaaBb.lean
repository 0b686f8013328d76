/- RpcBig. -/
import Derived.Test.YtekblnaogncplaaBa
import Derived.Test.YtekblnaogncplaaW
import Derived.Deep.OwnRows
set_option linter.unusedVariables false
set_option linter.unusedSimpArgs false
namespace Go.Proofs.Ytekblnaogncplaa
open Go.RowKit

def zs (n : Nat) : List UInt8 := List.replicate n 0
theorem zs_length (n : Nat) : (zs n).length = n := by simp [zs]
theorem made_rd (w : World) (n : Nat) : Rd (w.alloc (.cells (madeCells #[.int .u8 0] n) 5)) (some ⟨w.heap.size, 0, none⟩) (bvs (zs n)) := by
  have h := Rd.lit w (madeCells #[.int .u8 0] n) 5
  rw [toList_madeCells_one] at h
  simpa [bvs, zs, bv] using h
theorem callM_data (d : List UInt8) (h : d.length ≤ 100000) : CallM 100000 (dataCall d) := ⟨by simp [dataCall], h, by simp [dataCall], by simp [dataCall], by simp [dataCall], by simp [dataCall], by simp [dataCall]⟩
theorem callM_more (d : List UInt8) (h : d.length ≤ 100000) : CallM 100000 (moreCall d) := ⟨by simp [moreCall], by simp [moreCall], h, by simp [moreCall], by simp [moreCall], by simp [moreCall], by simp [moreCall]⟩

/-- A call of so many bytes of data, made on the spot. -/
theorem data_o (n : Nat) (hn : n ≤ 100000) (w : World) (A : Option Addr) (h : Rd w A (bvs (zs n))) :
    Calls Try.prog 9 #[.agg #[.int .i64 0, .int .i64 0, .int .i64 0, .int .i64 0, .int .i64 0, .int .i64 0, .slice none 0 0, .slice A n n, .slice none 0 0, .slice none 0 0, .slice none 0 0]] w (fun e w' => Gives w w' e (encCall (dataCall (zs n)))) := by
  have hU : CallU w w.heap.size (dataCall (zs n)) ⟨none, 0, A, n, none, 0, none, 0, none, 0⟩ := ⟨rdu_nil _ _ _, Nat.le_refl _, h.rdU, by show (zs n).length ≤ n; rw [zs_length]; exact Nat.le_refl _, rdu_nil _ _ _, Nat.le_refl _, atu_nil _ _ _, Nat.le_refl _, atu_nil _ _ _, Nat.le_refl _⟩
  have := call_o (dataCall (zs n)) ⟨none, 0, A, n, none, 0, none, 0, none, 0⟩ 100000 w hU (callM_data _ (by rw [zs_length]; exact hn)) (Nat.le_refl _)
  have e : (callCells (dataCall (zs n)) ⟨none, 0, A, n, none, 0, none, 0, none, 0⟩) = #[.int .i64 0, .int .i64 0, .int .i64 0, .int .i64 0, .int .i64 0, .int .i64 0, .slice none 0 0, .slice A n n, .slice none 0 0, .slice none 0 0, .slice none 0 0] := by
    simp [callCells, dataCall, zs_length]
  rw [e] at this
  exact this
theorem more_o (n : Nat) (hn : n ≤ 100000) (w : World) (A : Option Addr) (h : Rd w A (bvs (zs n))) :
    Calls Try.prog 9 #[.agg #[.int .i64 0, .int .i64 0, .int .i64 0, .int .i64 0, .int .i64 0, .int .i64 0, .slice none 0 0, .slice none 0 0, .slice A n n, .slice none 0 0, .slice none 0 0]] w (fun e w' => Gives w w' e (encCall (moreCall (zs n)))) := by
  have hU : CallU w w.heap.size (moreCall (zs n)) ⟨none, 0, none, 0, A, n, none, 0, none, 0⟩ := ⟨rdu_nil _ _ _, Nat.le_refl _, rdu_nil _ _ _, Nat.le_refl _, h.rdU, by show (zs n).length ≤ n; rw [zs_length]; exact Nat.le_refl _, atu_nil _ _ _, Nat.le_refl _, atu_nil _ _ _, Nat.le_refl _⟩
  have := call_o (moreCall (zs n)) ⟨none, 0, none, 0, A, n, none, 0, none, 0⟩ 100000 w hU (callM_more _ (by rw [zs_length]; exact hn)) (Nat.le_refl _)
  have e : (callCells (moreCall (zs n)) ⟨none, 0, none, 0, A, n, none, 0, none, 0⟩) = #[.int .i64 0, .int .i64 0, .int .i64 0, .int .i64 0, .int .i64 0, .int .i64 0, .slice none 0 0, .slice none 0 0, .slice A n n, .slice none 0 0, .slice none 0 0] := by
    simp [callCells, moreCall, zs_length]
  rw [e] at this
  exact this
end Go.Proofs.Ytekblnaogncplaa
