/- The same call, twice: Eq says so. -/
import Derived.Test.YtekblnaogncplaaN
set_option linter.unusedVariables false
set_option linter.unusedSimpArgs false
namespace Go.Proofs.Ytekblnaogncplaa
open Go.RowKit

set_option maxRecDepth 100000 in
set_option maxHeartbeats 1600000 in
theorem eq_o (x : CallD) (p q : CallP) (w : World) (hp : CallU w w.heap.size x p) (hq : CallU w w.heap.size x q) (hl : x.t1.length ≤ 1000000000 ∧ x.t2.length ≤ 1000000000) :
    Calls Try.prog 12 #[.agg (callCells x p), .agg (callCells x q)] w (fun e w' => e = .returned (.bool true) ∧ Below w.heap.size w w') := by
  have hb : Below w.heap.size w ((w.alloc (.cells (callCells x p) 27)).alloc (.cells (callCells x q) 27)) := (below_alloc w _).alloc (by simp) _
  have hp' := hp.below hb
  have hq' := hq.below hb
  have s1 := run_str (P := Try.prog) _ hp'.param.rd 22 9 5 Try.underlying22 Try.underlying5 Try.underlying9 x.param.length p.pc rfl
  have s2 := run_str (P := Try.prog) _ hq'.param.rd 22 9 5 Try.underlying22 Try.underlying5 Try.underlying9 x.param.length q.pc rfl
  have s3 := run_str (P := Try.prog) _ hp'.data.rd 22 9 5 Try.underlying22 Try.underlying5 Try.underlying9 x.data.length p.dc rfl
  have s4 := run_str (P := Try.prog) _ hq'.data.rd 22 9 5 Try.underlying22 Try.underlying5 Try.underlying9 x.data.length q.dc rfl
  have s5 := run_str (P := Try.prog) _ hp'.more.rd 22 9 5 Try.underlying22 Try.underlying5 Try.underlying9 x.more.length p.mc rfl
  have s6 := run_str (P := Try.prog) _ hq'.more.rd 22 9 5 Try.underlying22 Try.underlying5 Try.underlying9 x.more.length q.mc rfl
  have hA1 := hp'.t1.more hb.size
  have hA2 := hq'.t1.more hb.size
  have hA3 := hp'.t2
  have hA4 := hq'.t2
  have hk0 : ((w.alloc (.cells (callCells x p) 27)).alloc (.cells (callCells x q) 27)).heap[w.heap.size]? = some (.cells (callCells x p) 27 (0, 0)) := by
    rw [Below.heap_alloc _ _ _ (by simp)]; exact heap_alloc_new w _
  have hk1 : ((w.alloc (.cells (callCells x p) 27)).alloc (.cells (callCells x q) 27)).heap[w.heap.size + 1]? = some (.cells (callCells x q) 27 (0, 0)) := by
    simpa using heap_alloc_new (w.alloc (.cells (callCells x p) 27)) (.cells (callCells x q) 27)
  have hz : ((w.alloc (.cells (callCells x p) 27)).alloc (.cells (callCells x q) 27)).heap.size = w.heap.size + 1 + 1 := by simp
  unfold str callCells at s1 s2 s3 s4 s5 s6
  unfold callCells at hb hA1 hA2 hA3 hA4 hk0 hk1 hz ⊢
  clear hp hq hp' hq'
  go_enter Try.func12, Try.ntmps12
  go_wp2_with fail
  clear s1 s2 s3 s4 s5 s6
  refine (eqAttrs_o x.t1 x.t1 p.t1 q.t1 p.c1 q.c1 _ hA1 hA2 hl.1 hl.1).mono ?_
  rintro e w1 ⟨rfl, hb1⟩
  have hb2 := hb.trans (hb1.mono hb.size)
  have k0 := (hb1.block w.heap.size (by rw [hz]; omega)).trans hk0
  have k1 := (hb1.block (w.heap.size + 1) (by rw [hz]; omega)).trans hk1
  have g1 : w1.cell? ⟨w.heap.size, 10, none⟩ = some (.slice p.t2 x.t2.length p.c2) := cell_of_row w1 _ 10 _ 27 (0, 0) k0
  have g2 : w1.cell? ⟨w.heap.size + 1, 10, none⟩ = some (.slice q.t2 x.t2.length q.c2) := cell_of_row w1 _ 10 _ 27 (0, 0) k1
  have hA5 := ((hA3.more hb.size).below hb1).more hb1.size
  have hA6 := ((hA4.more hb.size).below hb1).more hb1.size
  clear hA1 hA2 hA3 hA4 hk0 hk1 k0 k1 hb1 hb
  have ht : (x.t1 == x.t1) = true := by simp
  have ht2 : (x.t2 == x.t2) = true := by simp
  rw [ht]
  go_wp2_with fail
  refine (eqAttrs_o x.t2 x.t2 p.t2 q.t2 p.c2 q.c2 w1 hA5 hA6 hl.2 hl.2).mono ?_
  rintro e w2 ⟨rfl, hb3⟩
  rw [ht2]
  go_wp2_with fail
  go_ret
  exact ⟨rfl, hb2.trans (hb3.mono hb2.size)⟩
end Go.Proofs.Ytekblnaogncplaa
