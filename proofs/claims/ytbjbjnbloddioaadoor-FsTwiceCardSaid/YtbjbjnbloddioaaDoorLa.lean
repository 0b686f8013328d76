/- The laws' helpers: Full. -/
import Derived.Test.YtbjbjnbloddioaaDoorPb
set_option linter.unusedVariables false
set_option linter.unusedSimpArgs false
namespace Go.Proofs.YtbjbjnbloddioaaDoor
open Go.RowKit Go.Shelf

/-- So many bytes, of a text that goes on and on. -/
def fullB (b : List UInt8) (n : Nat) : List UInt8 := (List.range n).map fun i => if b = [] then 0 else b.getD (i % b.length) 0
theorem fullB_len (b : List UInt8) (n : Nat) : (fullB b n).length = n := by simp [fullB]
theorem fullB_nil (n : Nat) : fullB [] n = zs n := by
  apply List.ext_getElem?
  intro i
  by_cases h : i < n <;> simp [fullB, zs, h]
set_option maxRecDepth 100000 in
set_option maxHeartbeats 1600000 in
theorem full_o (b : List UInt8) (n : Nat) (hn : n ≤ 20000) (A : Option Addr) (c : Nat) (w : World) (h : Rd w A (bvs b)) (hb : b.length ≤ 140737488355328) :
    Calls Tryd.prog 18 #[.slice A b.length c, .int .i64 (n : Int)] w (fun e w' => ∃ g, e = .returned (.slice (some ⟨g, 0, none⟩) n n) ∧ w.heap.size ≤ g ∧ w'.heap[g]? = some (.cells (bvs (fullB b n)).toArray 5 (0, 0)) ∧ Below w.heap.size w w') := by
  obtain ⟨i, hi, hz, hs, hby⟩ := info_parts info5
  have hni : (n : Int) ≤ 20000 := by omega
  go_enter Tryd.func18, Tryd.ntmps18
  go_wp2_with (at_make; refine Stop.out ?_)
  refine Stop.mk ?_
  refine wpList_make_row w rfl _ _ 28 rfl 5 i (.int .u8 0) Tryd.underlying28 hi hz hs rfl .i64 .i64 n rfl rfl (by rw [hby]; omega) (by omega) ?_
  have hd2 : (w.alloc (.cells (madeCells #[.int .u8 0] n) 5)).heap[w.heap.size]? = some (.cells (mixC (bvs (zs n)) (bvs (fullB b n)) 0) 5 (0, 0)) := by
    rw [heap_alloc_new]
    exact congrArg (fun x => some (Obj.cells x 5 (0, 0))) (Array.ext' (by rw [toList_madeCells_one]; simp [mixC, zs, bvs, bv]))
  have hbE := below_alloc w (.cells (madeCells #[.int .u8 0] n) 5)
  generalize w.alloc (.cells (madeCells #[.int .u8 0] n) 5) = w1 at hd2 hbE ⊢
  have hxl : (bvs (zs n)).length = n := by rw [bvs_length, zs_length]
  have hyl : (bvs (fullB b n)).length = n := by rw [bvs_length, fullB_len]
  by_cases hb0 : b = []
  · subst hb0
    go_wp2_with fail
    go_loopw [6] (fun i wr => i = .int .i64 0 ∧ wr = w1) (fun _ _ => 0)
    case atStart => exact ⟨rfl, rfl⟩
    case round =>
      obtain ⟨rfl, rfl⟩ := hrel
      have hfin : wr.heap[w.heap.size]? = some (.cells (bvs (fullB [] n)).toArray 5 (0, 0)) := by
        rw [hd2, fullB_nil]
        simp [mixC]
      have HF := Lib.hid hfin
      clear hfin hd2
      go_wp2_with fail
      all_goals
        refine bodyPost_ret (results_tmp rfl _ _ _) rfl ?_
        exact ⟨w.heap.size, rfl, Nat.le_refl _, HF.out, hbE⟩
  · have hbl : 0 < b.length := List.length_pos_iff.2 hb0
    have hbl' : (0 : Int) < (b.length : Int) := by omega
    obtain ⟨ga, o, rfl⟩ := h.some_ (by rw [bvs_length]; exact hbl)
    go_wp2_with fail
    go_loopw [6] (fun i wr => ∃ k : Nat, k ≤ n ∧ i = .int .i64 k ∧ wr.heap[w.heap.size]? = some (.cells (mixC (bvs (zs n)) (bvs (fullB b n)) k) 5 (0, 0)) ∧ Below w.heap.size w wr) (fun i _ => n - (intOf i).toNat)
    case atStart => exact ⟨0, by omega, rfl, hd2, hbE⟩
    case round =>
      clear hd2 hbE
      obtain ⟨k, hk, rfl, hF, hbr⟩ := hrel
      by_cases hlt : k < n
      · have hset := mixC_set (bvs (zs n)) (bvs (fullB b n)) k (by omega) (by omega)
        have hm : k % b.length < b.length := Nat.mod_lt _ hbl
        have hyk : (bvs (fullB b n))[k]'(by omega) = bv (b[k % b.length]'hm) := by
          simp [bvs, fullB, hb0, List.getD, hm]
        rw [hyk] at hset
        have hcb : wr.cell? ⟨ga, o + k % b.length, none⟩ = some (bv (b[k % b.length]'hm)) := (h.below hbr).at_ _ (by simp [bvs, hm])
        have hck : ∃ u, wr.cell? ⟨w.heap.size, k, none⟩ = some u := by
          rw [cell_of_row wr _ k _ 5 (0, 0) hF]
          exact ⟨_, Array.getElem?_eq_getElem (by rw [mixC_size _ _ _ (by omega) (by omega), hxl]; exact hlt)⟩
        obtain ⟨u, hck⟩ := hck
        have hfr := frozen_of_row wr w.heap.size k _ 5 hF
        have hnext := heap_setCell_same wr w.heap.size k _ 5 (bv (b[k % b.length]'hm)) hF
        rw [hset] at hnext
        unfold bv at hnext hcb
        have HN := Lib.hid hnext
        have hbne : ¬ b.length = 0 := by omega
        clear hnext hset hyk hF
        generalize b[k % b.length]'hm = x at hcb HN
        go_wp2_with fail
        go_roundw
        case rel => exact ⟨k + 1, by omega, by go_num, HN.out, hbr.setCell (p := ⟨w.heap.size, k, none⟩) (Nat.le_refl _) _⟩
        case measure => simp [intOf]; omega
      · obtain rfl : k = n := by omega
        have e8 : mixC (bvs (zs k)) (bvs (fullB b k)) k = (bvs (fullB b k)).toArray := by
          unfold mixC
          rw [List.take_of_length_le (by omega), List.drop_of_length_le (by omega), List.append_nil]
        rw [e8] at hF
        go_wp2_with fail
        go_ret
        exact ⟨w.heap.size, rfl, Nat.le_refl _, hF, hbr⟩
end Go.Proofs.YtbjbjnbloddioaaDoor
