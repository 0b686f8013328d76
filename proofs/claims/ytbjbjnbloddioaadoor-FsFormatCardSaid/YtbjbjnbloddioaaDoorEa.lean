/- Hash states: made, copied. -/
import Derived.Test.YtbjbjnbloddioaaDoorDb
set_option linter.unusedVariables false
set_option linter.unusedSimpArgs false
namespace Go.Proofs.YtbjbjnbloddioaaDoor
open Go.RowKit

theorem size_o (w : World) : Calls Tryd.prog 50 #[.int .i64 3] w (fun e w' => e = .returned (.int .i64 32) ∧ w = w') := by
  go_enter Tryd.func50, Tryd.ntmps50
  go_wp2
  go_ret
  exact ⟨rfl, rfl⟩
theorem block_o (w : World) : Calls Tryd.prog 53 #[.int .i64 3] w (fun e w' => e = .returned (.int .i64 64) ∧ w = w') := by
  go_enter Tryd.func53, Tryd.ntmps53
  go_wp2
  go_ret
  exact ⟨rfl, rfl⟩

def one64 : List Int := [7640891576956012808, 13503953896175478587, 4354685564936845355, 11912009170470909681, 5840696475078001361, 11170449401992604703, 2270897969802886507, 6620516959819538809]
def two64 : List Int := [14680500436340154072, 7105036623409894663, 10473403895298186519, 1526699215303891257, 7436329637833083697, 10282925794625328401, 15784041429090275239, 5167115440072839076]
/-- The first state. -/
def h256 : List Int := one64.map (· / 4294967296)
theorem size88 : (Tryd.prog.info? 88).map (·.size) = some 8 := by kernel_rfl
theorem size91 : (Tryd.prog.info? 91).map (·.size) = some 11 := by kernel_rfl
theorem wpList_newRow {P : Program} {ops : Array Oper} {rest : List Oper} {o : Oper} {a : Act} {Q : Exit → Act → World → Prop} (hgd : o.guard = none) (T : TypeId) (x y : Operand) (ho : o.op = .store T x y) (w : World) (k : Nat) (hk : k = w.heap.size)
    (cs : Array Value) (hx : a.eval x = .pointer (some ⟨k, 0, none⟩)) (hy : a.eval y = .agg cs) {old : Array Value} (hi : (P.info? T).map (·.size) = some cs.size) (hold : old.size = cs.size) (h1 : cs.all (·.oneCell') = true)
    (h : wpList P ops Q rest (a.put o.dst undef) (w.alloc (.cells cs T))) : wpList P ops Q (o :: rest) a (w.alloc (.cells old T)) := by
  subst hk
  refine wpList_store_row hgd T x y ho w.heap.size cs hx hy T old (heap_alloc_new w _) hi hold h1 ?_
  rw [World.setRow_alloc_new]
  exact h
/-- The first cells are new. -/
def mixC (xs ys : List Value) (k : Nat) : Array Value := (ys.take k ++ xs.drop k).toArray
theorem mixC_at (xs ys : List Value) (k : Nat) (hl : ys.length = xs.length) (hk : k < xs.length) : (mixC xs ys k)[k]? = some xs[k] := by
  unfold mixC
  have h1 : (ys.take k).length = k := by simp; omega
  rw [List.getElem?_toArray, List.getElem?_append_right (by omega), h1, Nat.sub_self, List.getElem?_drop]
  simp [hk]
theorem mixC_set (xs ys : List Value) (k : Nat) (hl : ys.length = xs.length) (hk : k < xs.length) : (mixC xs ys k).setIfInBounds k (ys[k]'(by omega)) = mixC xs ys (k + 1) := by
  unfold mixC
  have h1 : (ys.take k).length = k := by simp; omega
  apply Array.ext'
  rw [Array.toList_setIfInBounds]
  simp only []
  rw [List.set_append_right _ _ (by omega), h1, Nat.sub_self, List.drop_eq_getElem_cons hk, List.set_cons_zero, List.take_succ_eq_append_getElem (show k < ys.length by omega), List.append_assoc]
  rfl
theorem mixC_size (xs ys : List Value) (k : Nat) (hl : ys.length = xs.length) (hk : k ≤ xs.length) : (mixC xs ys k).size = xs.length := by simp [mixC]; omega

set_option maxRecDepth 100000 in
set_option maxHeartbeats 1600000 in
theorem start_o (w : World) : Calls Tryd.prog 51 #[.int .i64 3] w (fun e w' => e = .returned (.agg (h256.map (Value.int .u64)).toArray) ∧ Below w.heap.size w w') := by
  go_enter Tryd.func51, Tryd.ntmps51
  go_wp2_with (with_reducible refine Stop.store 88 ?_)
  refine Stop.mk ?_
  refine wpList_newRow rfl 88 _ _ rfl _ (w.heap.size + 1) (by simp) (one64.map (Value.int .u64)).toArray rfl rfl (by rw [size88]; rfl) rfl (by simp [one64, Value.oneCell']) ?_
  have hb1 : Below w.heap.size w ((w.alloc (.cells (List.replicate 8 (Value.int .u64 0)).toArray 88)).alloc (.cells (one64.map (Value.int .u64)).toArray 88)) := (below_alloc w _).alloc (by simp) _
  have hk0 : ((w.alloc (.cells (List.replicate 8 (Value.int .u64 0)).toArray 88)).alloc (.cells (one64.map (Value.int .u64)).toArray 88)).heap[w.heap.size]? = some (.cells (List.replicate 8 (Value.int .u64 0)).toArray 88 (0, 0)) := by
    rw [Below.heap_alloc _ _ _ (by simp)]; exact heap_alloc_new w _
  have hk1 : ((w.alloc (.cells (List.replicate 8 (Value.int .u64 0)).toArray 88)).alloc (.cells (one64.map (Value.int .u64)).toArray 88)).heap[w.heap.size + 1]? = some (.cells (mixC (one64.map (Value.int .u64)) (h256.map (Value.int .u64)) 0) 88 (0, 0)) := by
    simpa [mixC] using heap_alloc_new (w.alloc (.cells (List.replicate 8 (Value.int .u64 0)).toArray 88)) (.cells (one64.map (Value.int .u64)).toArray 88)
  have hz1 : ((w.alloc (.cells (List.replicate 8 (Value.int .u64 0)).toArray 88)).alloc (.cells (one64.map (Value.int .u64)).toArray 88)).heap.size = w.heap.size + 1 + 1 := by simp
  obtain ⟨w1, hw1⟩ : ∃ w1, w1 = (w.alloc (.cells (List.replicate 8 (Value.int .u64 0)).toArray 88)).alloc (.cells (one64.map (Value.int .u64)).toArray 88) := ⟨_, rfl⟩
  rw [← hw1] at hb1 hk0 hk1 hz1
  have hw1' : (w.alloc (.cells #[.int .u64 0, .int .u64 0, .int .u64 0, .int .u64 0, .int .u64 0, .int .u64 0, .int .u64 0, .int .u64 0] 88)).alloc (.cells (one64.map (Value.int .u64)).toArray 88) = w1 := hw1.symm
  rw [hw1']
  clear hw1 hw1'
  go_wp2_with (with_reducible refine Stop.store 88 ?_)
  refine Stop.mk ?_
  refine wpList_newRow rfl 88 _ _ rfl w1 (w.heap.size + 1 + 1) hz1.symm (two64.map (Value.int .u64)).toArray rfl rfl (by rw [size88]; rfl) rfl (by simp [two64, Value.oneCell']) ?_
  have hbE := below_alloc w1 (.cells (two64.map (Value.int .u64)).toArray 88)
  have k0 := (hbE.block w.heap.size (by omega)).trans hk0
  have k1 := (hbE.block (w.heap.size + 1) (by omega)).trans hk1
  have hb2 := hb1.trans (hbE.mono hb1.size)
  have hz2 : w.heap.size + 1 < (w1.alloc (.cells (two64.map (Value.int .u64)).toArray 88)).heap.size := (Array.getElem?_eq_some_iff.1 k1).1
  generalize w1.alloc (.cells (two64.map (Value.int .u64)).toArray 88) = w2 at k0 k1 hb2 hz2 ⊢
  clear hbE hk0 hk1 hb1 hz1
  have hl1 : (one64.map (Value.int .u64)).length = 8 := rfl
  have hl2 : (h256.map (Value.int .u64)).length = 8 := rfl
  generalize hX : one64.map (Value.int .u64) = X at k1 hl1
  generalize hY : h256.map (Value.int .u64) = Y at k1 hl2
  have HX := Lib.hid hX
  have HY := Lib.hid hY
  clear hX hY
  go_wp2_with fail
  go_loopw [27] (fun i wr => ∃ k : Nat, k ≤ 8 ∧ i = .int .i64 k ∧ wr.heap[w.heap.size + 1]? = some (.cells (mixC X Y k) 88 (0, 0)) ∧ Below (w.heap.size + 1) w2 wr) (fun i _ => 8 - (intOf i).toNat)
  case atStart => exact ⟨0, by omega, rfl, k1, Below.refl _ _⟩
  case round =>
    clear k1
    obtain ⟨k, hk, rfl, hF, hb⟩ := hrel
    by_cases hlt : k < 8
    · have hat := mixC_at X Y k (by omega) (by omega)
      have hset := mixC_set X Y k (by omega) (by omega)
      have hxk : ∃ x : Int, X[k]'(by omega) = .int .u64 x ∧ Y[k]'(by omega) = .int .u64 (x / 4294967296) := by
        refine ⟨one64[k]'(by rw [show one64.length = 8 from rfl]; exact hlt), ?_, ?_⟩
        · have := HX.out; subst this; simp
        · have := HY.out; subst this; simp [h256]
      obtain ⟨x, hx1, hx2⟩ := hxk
      rw [hx1] at hat
      rw [hx2] at hset
      have hck : wr.cell? ⟨w.heap.size + 1, k, none⟩ = some (.int .u64 x) := (cell_of_row wr _ k _ 88 (0, 0) hF).trans hat
      have hfr := frozen_of_row wr (w.heap.size + 1) k _ 88 hF
      have hnext := heap_setCell_same wr (w.heap.size + 1) k _ 88 (.int .u64 (x / 4294967296)) hF
      rw [hset] at hnext
      have HN := Lib.hid hnext
      clear hnext hset hat hx1 hx2 hF
      go_wp2_with fail
      go_roundw
      case rel => exact ⟨k + 1, hlt, by go_num, HN.out, hb.setCell (p := ⟨w.heap.size + 1, k, none⟩) (Nat.le_refl _) _⟩
      case measure => simp [intOf]; omega
    · obtain rfl : k = 8 := by omega
      have e8 : mixC X Y 8 = Y.toArray := by simp [mixC, List.take_of_length_le, List.drop_of_length_le, hl1, hl2]
      rw [e8, ← HY.out] at hF
      have kr := (hb.block w.heap.size (Nat.lt_succ_self _)).trans k0
      have hbw := hb2.trans (hb.mono (Nat.le_succ _))
      clear e8
      go_wp2_with (with_reducible refine Stop.load 88 ?_)
      refine Stop.mk ?_
      refine wpList_load_row rfl 88 _ rfl (w.heap.size + 1) rfl 88 _ _ _ hF Tryd.underlying88 rfl (by rw [size88]; rfl) ?_
      go_wp2_with (with_reducible refine Stop.store 88 ?_)
      refine Stop.mk ?_
      refine wpList_store_row rfl 88 _ _ rfl w.heap.size (h256.map (Value.int .u64)).toArray rfl rfl 88 _ kr (by rw [size88]; rfl) rfl (by simp [h256, one64, Value.oneCell']) ?_
      have kf := setRow_heap wr w.heap.size _ (h256.map (Value.int .u64)).toArray 88 _ kr
      have hbf := below_setRow hbw (Nat.le_refl _) (h256.map (Value.int .u64)).toArray
      generalize wr.setRow w.heap.size (h256.map (Value.int .u64)).toArray = wf at kf hbf ⊢
      go_wp2_with fail
      refine bodyPost_ret (results_cell_row rfl _ wf w.heap.size 88 _ (0, 0) _ rfl kf Tryd.underlying88 rfl (by rw [size88]; rfl)) rfl ?_
      exact ⟨rfl, hbf⟩
end Go.Proofs.YtbjbjnbloddioaaDoor
