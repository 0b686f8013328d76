/- The same reply, twice: Eq says so. -/
import Derived.Test.YtekblnaogncplaaN
set_option linter.unusedVariables false
set_option linter.unusedSimpArgs false
namespace Go.Proofs.Ytekblnaogncplaa
open Go.RowKit

set_option maxRecDepth 100000 in
set_option maxHeartbeats 1600000 in
theorem replyEq_o (x : ReplyD) (p q : ReplyP) (w : World) (hp : ReplyU w w.heap.size x p) (hq : ReplyU w w.heap.size x q) (hl : x.attrs.length ≤ 1000000000 ∧ x.list.length ≤ 1000000000) :
    Calls Try.prog 21 #[.agg (replyCells x p), .agg (replyCells x q)] w (fun e w' => e = .returned (.bool true) ∧ Below w.heap.size w w') := by
  have hb : Below w.heap.size w ((w.alloc (.cells (replyCells x p) 48)).alloc (.cells (replyCells x q) 48)) := (below_alloc w _).alloc (by simp) _
  have hp' := hp.below hb
  have hq' := hq.below hb
  have s1 := run_str (P := Try.prog) _ hp'.data.rd 22 9 5 Try.underlying22 Try.underlying5 Try.underlying9 x.data.length p.dc rfl
  have s2 := run_str (P := Try.prog) _ hq'.data.rd 22 9 5 Try.underlying22 Try.underlying5 Try.underlying9 x.data.length q.dc rfl
  have hA1 := hp'.attrs.more hb.size
  have hA2 := hq'.attrs.more hb.size
  have hI1 := hp'.list
  have hI2 := hq'.list
  have hk0 : ((w.alloc (.cells (replyCells x p) 48)).alloc (.cells (replyCells x q) 48)).heap[w.heap.size]? = some (.cells (replyCells x p) 48 (0, 0)) := by
    rw [Below.heap_alloc _ _ _ (by simp)]; exact heap_alloc_new w _
  have hk1 : ((w.alloc (.cells (replyCells x p) 48)).alloc (.cells (replyCells x q) 48)).heap[w.heap.size + 1]? = some (.cells (replyCells x q) 48 (0, 0)) := by
    simpa using heap_alloc_new (w.alloc (.cells (replyCells x p) 48)) (.cells (replyCells x q) 48)
  have hz : ((w.alloc (.cells (replyCells x p) 48)).alloc (.cells (replyCells x q) 48)).heap.size = w.heap.size + 1 + 1 := by simp
  unfold str replyCells at s1 s2
  unfold replyCells at hb hA1 hA2 hI1 hI2 hk0 hk1 hz ⊢
  clear hp hq hp' hq'
  go_enter Try.func21, Try.ntmps21
  go_wp2_with fail
  clear s1 s2
  refine (eqAttrs_o x.attrs x.attrs p.t q.t p.tc q.tc _ hA1 hA2 hl.1 hl.1).mono ?_
  rintro e w1 ⟨rfl, hb1⟩
  have hb2 := hb.trans (hb1.mono hb.size)
  have k0 := (hb1.block w.heap.size (by rw [hz]; omega)).trans hk0
  have k1 := (hb1.block (w.heap.size + 1) (by rw [hz]; omega)).trans hk1
  have hz1 : w.heap.size + 1 < w1.heap.size := by have := hb1.size; omega
  have hJ1 := (hI1.more hb.size).below hb1
  have hJ2 := (hI2.more hb.size).below hb1
  have hJ1 := hJ1.more hb1.size
  have hJ2 := hJ2.more hb1.size
  clear hA1 hA2 hI1 hI2 hk0 hk1 hb1 hb hz
  have ht : (x.attrs == x.attrs) = true := by simp
  rw [ht]
  clear ht
  go_wp2_with fail
  go_loopw [5] (fun i wr => ∃ k : Nat, k ≤ x.list.length ∧ i = .int .i64 k ∧ Below w1.heap.size w1 wr) (fun i _ => x.list.length - (intOf i).toNat)
  case atStart => exact ⟨0, by omega, rfl, Below.refl _ _⟩
  case round =>
    obtain ⟨k, hk, rfl, hb⟩ := hrel
    have g1 : wr.cell? ⟨w.heap.size, 4, none⟩ = some (.slice p.l x.list.length p.lc) := (hb.cell (p := ⟨w.heap.size, 4, none⟩) (by simp; omega)).trans (cell_of_row w1 _ 4 _ 48 (0, 0) k0)
    have g2 : wr.cell? ⟨w.heap.size + 1, 4, none⟩ = some (.slice q.l x.list.length q.lc) := (hb.cell (p := ⟨w.heap.size + 1, 4, none⟩) (by simp; omega)).trans (cell_of_row w1 _ 4 _ 48 (0, 0) k1)
    by_cases hlt : k < x.list.length
    · obtain ⟨ga, oa, hA, hUa, hx1⟩ := (hJ1.below hb).at_ (j := k) (by simpa [ints] using hlt)
      obtain ⟨gb, ob, hB, hUb, hy1⟩ := (hJ2.below hb).at_ (j := k) (by simpa [ints] using hlt)
      have hx2 : wr.cell? ⟨ga, oa + k, none⟩ = some (.int .i64 x.list[k]) := by simpa [ints] using hx1
      have hy2 : wr.cell? ⟨gb, ob + k, none⟩ = some (.int .i64 x.list[k]) := by simpa [ints] using hy1
      rw [hA] at g1
      rw [hB] at g2
      clear hx1 hy1 hA hB k0 k1
      go_wp2_with fail
      go_quiet (fail)
      go_wp2_with fail
      go_roundw
      case rel => exact ⟨k + 1, hlt, by go_num, below_drewN hb _⟩
      case measure => simp [intOf]; omega
    · obtain rfl : k = x.list.length := by omega
      clear k0 k1
      go_wp2_with fail
      go_ret
      exact ⟨rfl, hb2.trans (hb.mono hb2.size)⟩
end Go.Proofs.Ytekblnaogncplaa
