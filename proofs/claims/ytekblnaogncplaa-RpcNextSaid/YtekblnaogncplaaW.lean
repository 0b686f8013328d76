/- begun. -/
import Derived.Test.YtekblnaogncplaaV
import Derived.Test.YtekblnaogncplaaF
import Derived.Lib.SlBytesConst
import Derived.Deep.WholeRow
set_option linter.unusedVariables false
set_option linter.unusedSimpArgs false
namespace Go.Proofs.Ytekblnaogncplaa
open Go.RowKit Go.Shelf
attribute [local go_sem] Oper.semAt_some

def c0 : CallD := ⟨9, 1, 0, 0, 0, 0, [], [97], [], [], []⟩
def f0 : List UInt8 := (encCall c0).getD []
theorem enc_c0 : encCall c0 = some f0 := by decide +kernel
theorem next_f0 : nextOf f0 = (f0.drop 4, f0.length, true) := by decide +kernel
def r0 : ReplyD := ⟨0, 5, 0, [], [], []⟩
def g0 : List UInt8 := (encReply r0).getD []
theorem enc_r0 : encReply r0 = some g0 := by decide +kernel
theorem f0_len : 4 ≤ f0.length ∧ f0.length ≤ 1000 := by decide +kernel
def p0 (k : Nat) : CallP := ⟨none, 0, some ⟨k, 0, none⟩, 1, none, 0, none, 0, none, 0⟩
def rp0 : ReplyP := ⟨none, 0, none, 0, none, 0⟩
theorem rdu_nil (w : World) (U : Nat) (A : Option Addr) : RdU w U A (bvs []) := fun i v h => by simp [bvs] at h
theorem atu_nil (w : World) (U : Nat) (A : Option Addr) : AtU w U A [] := fun i t v h => by simp at h
theorem read_f0 : (readCall (f0.drop 4)).2 = true ∧ (readCall (f0.drop 4)).1.fn = 9 ∧ (readCall (f0.drop 4)).1.data = [97] := by decide +kernel
theorem g0_len : 4 < g0.length := by decide +kernel

theorem wpList_new27 {ops : Array Oper} {rest : List Oper} {o : Oper} {a : Act} {Q : Exit → Act → World → Prop} (hgd : o.guard = none) (x y : Operand) (ho : o.op = .store 27 x y) (w : World) (k : Nat) (hk : k = w.heap.size)
    (X : CallD) (p : CallP) (hx : a.eval x = .pointer (some ⟨k, 0, none⟩)) (hy : a.eval y = .agg (callCells X p)) {old : Array Value} (hold : old.size = 11)
    (h : wpList Try.prog ops Q rest (a.put o.dst undef) (w.alloc (.cells (callCells X p) 27))) : wpList Try.prog ops Q (o :: rest) a (w.alloc (.cells old 27)) := by
  subst hk
  refine wpList_store_row hgd 27 x y ho w.heap.size (callCells X p) hx hy 27 old (heap_alloc_new w _) (by rw [size27]; rfl) hold (cells_one _ _) ?_
  rw [World.setRow_alloc_new]
  exact h
theorem eql_func (fn : Fn) (fi ca : Array Value) (w : World) : (binOp .eql 41 (.func fn fi ca) .nilFunc).run Try.prog w = .ok (.bool false) w := by
  have h : ∀ d : Nat, (Op.equalIn (d + 1) 41 (.func fn fi ca) .nilFunc).run Try.prog w = .ok false w := fun d => by
    simp [Op.equalIn, run_underlying Try.underlying41]
  simp only [binOp]
  simp [Op.equal, Op.maxDepth, h 9999]
theorem one_stops (n : Nat) (hn : 1 ≤ n) (Bx n₀ : Nat) (b body : List UInt8) (A : Option Addr) (c : Nat) (hbody : nextOf b = (body, b.length, true)) (hpos : 0 < b.length) (hsm : b.length ≤ 1000000) (hc : b.length ≤ c) (w : World)
    (hBx : w.cell? ⟨Bx, 0, none⟩ = some (.slice A b.length c)) (hBn : Bx < n₀) (hn₀ : n₀ ≤ w.heap.size) (hrd : RdU w n₀ A (bvs b)) :
    SeqStopsK Fence.wide n Try.prog 37 #[.pointer (some ⟨Bx, 0, none⟩)] (fun x : Int × Value => #[.int .i64 x.1, x.2]) (Below n₀) (fun ys => ys.length = 1) (fun _ => True) 1 w := fun l J Jx W hW hJ _ hY h0 =>
  one_in n hn l Bx n₀ b body A c hbody hpos hsm hc J Jx W hJ hY ((hW.cell (p := ⟨Bx, 0, none⟩) (by simp; omega)).trans hBx) hBn (Nat.le_trans hn₀ hW.size) (hrd.below (hW.mono hn₀)) h0
theorem bodies_o (A : Option Addr) (n c : Nat) (w : World) :
    Calls Try.prog 16 #[.slice A n c] w (fun e w' => e = .returned (.func (.func 37) #[] #[.pointer (some ⟨w.heap.size, 0, none⟩)]) ∧ w' = w.alloc (.cells #[.slice A n c] 22)) := by
  go_enter Try.func16, Try.ntmps16
  go_wp2
  go_ret
  exact ⟨rfl, rfl⟩

set_option maxRecDepth 100000 in
set_option maxHeartbeats 1600000 in
theorem begun_o (w : World) : Calls Try.prog 7 #[] w (fun e w' => e = .returned (.bool true) ∧ Below w.heap.size w w') := by
  refine (callsIn_wide (n := 5)).1 ?_
  refine callsIn_of_wp_marks Try.func7 rfl trivial ?_ rfl
  simp only [Try.ntmps7, List.size_toArray, List.length_cons, List.length_nil, Nat.reduceAdd, Nat.reduceSub, Array.replicate_succ, Array.replicate_zero, List.push_toArray, List.append_toArray, List.nil_append, List.cons_append]
  refine wpIn_wide.2 ?_
  have hcv := Lib.run_convert_bytes_const (P := Try.prog) w 22 5 #[.int .u8 97] 1 1 Try.underlying22 Try.underlying5
  go_wp2_with (with_reducible refine Stop.store 27 ?_)
  refine Stop.mk ?_
  clear hcv
  refine wpList_new27 rfl _ _ rfl (w.alloc (.cells #[.int .u8 97] 5 (1, 2))) (w.heap.size + 1) (by simp) c0 (p0 w.heap.size) rfl rfl rfl ?_
  obtain ⟨w1, hw1⟩ : ∃ w1, w1 = (w.alloc (.cells #[.int .u8 97] 5 (1, 2))).alloc (.cells (callCells c0 (p0 w.heap.size)) 27) := ⟨_, rfl⟩
  have hb1 : Below w.heap.size w w1 := by rw [hw1]; exact (below_alloc w _).alloc (by simp) _
  have hk1 : w1.heap[w.heap.size + 1]? = some (.cells (callCells c0 (p0 w.heap.size)) 27 (0, 0)) := by rw [hw1]; simpa using heap_alloc_new (w.alloc (.cells #[.int .u8 97] 5 (1, 2))) (.cells (callCells c0 (p0 w.heap.size)) 27)
  have hd1 : RdU w1 w1.heap.size (some ⟨w.heap.size, 0, none⟩) (bvs [97]) := by
    have h0 : w1.heap[w.heap.size]? = some (.cells #[.int .u8 97] 5 (1, 2)) := by rw [hw1, Below.heap_alloc _ _ _ (by simp)]; exact heap_alloc_new w _
    exact (Rd.blk h0).rdU
  have hU1 : CallU w1 w1.heap.size c0 (p0 w.heap.size) := ⟨rdu_nil _ _ _, Nat.le_refl _, hd1, Nat.le_refl _, rdu_nil _ _ _, Nat.le_refl _, atu_nil _ _ _, Nat.le_refl _, atu_nil _ _ _, Nat.le_refl _⟩
  have hM1 : CallM 100000 c0 := ⟨by decide, by decide, by decide, by decide, by decide, by simp [c0], by simp [c0]⟩
  rw [← hw1]
  clear hw1 hd1
  go_wp2_with (with_reducible refine Stop.load 27 ?_)
  refine Stop.mk ?_
  refine wpList_load_row rfl 27 _ rfl (w.heap.size + 1) rfl 27 _ _ _ hk1 Try.underlying27 rfl size27 ?_
  go_wp2_with (with_reducible refine Stop.load 27 ?_)
  refine (call_o c0 (p0 w.heap.size) 100000 w1 hU1 hM1 (Nat.le_refl _)).mono ?_
  intro e w2 hG
  rw [enc_c0] at hG
  obtain ⟨A, c, rfl, hc, ho, hb2⟩ := hG
  simp only [Option.getD_some] at hc ho
  have hl0 := f0_len
  go_wp2_with fail
  refine (next_o f0 A c w2 (Rd.own ho) (by omega) hc).mono ?_
  intro e w3 hN
  rw [next_f0] at hN
  obtain ⟨B, d, rfl, hd, ho3, hb3⟩ := hN
  dsimp only at hd ho3
  go_wp2_with fail
  refine (readCall_o (f0.drop 4) B d w3 (Rd.own ho3) hd (by simp; omega)).mono ?_
  intro e w4 hR
  have hr := read_f0
  generalize readCall (f0.drop 4) = rc at hR hr
  obtain ⟨rx, rb⟩ := rc
  obtain ⟨q, rfl, hU4, hb4⟩ := hR
  obtain ⟨hr1, hr2, hr3⟩ := hr
  dsimp only at hr1 hr2 hr3 hU4 ⊢
  subst hr1
  go_wp2_with (with_reducible refine Stop.store 27 ?_)
  refine Stop.mk ?_
  refine wpList_new27 rfl _ _ rfl w4 w4.heap.size rfl rx q rfl rfl rfl ?_
  obtain ⟨w5, hw5⟩ : ∃ w5, w5 = w4.alloc (.cells (callCells rx q) 27) := ⟨_, rfl⟩
  have hb5 : Below w4.heap.size w4 w5 := by rw [hw5]; exact below_alloc w4 _
  have hk5 : w5.heap[w4.heap.size]? = some (.cells (callCells rx q) 27 (0, 0)) := by rw [hw5]; exact heap_alloc_new w4 _
  have hz5 : w4.heap.size < w5.heap.size := by rw [hw5]; simp
  have hU5 := hU4.below hb5
  rw [← hw5]
  clear hw5 hU4
  go_wp2_with fail
  refine (reply_o r0 rp0 100000 w5 ⟨rdu_nil _ _ _, Nat.le_refl _, fun i v h => by simp [r0, ints] at h, Nat.le_refl _, atu_nil _ _ _, Nat.le_refl _⟩ ⟨by decide, by decide, by decide, by simp [r0]⟩ (Nat.le_refl _)).mono ?_
  intro e w6 hG
  rw [enc_r0] at hG
  obtain ⟨A6, c6, rfl, hc6, ho6, hb6⟩ := hG
  simp only [Option.getD_some] at hc6 ho6
  have hg0 := g0_len
  go_wp2_with fail
  refine (bodies_o A f0.length c w6).mono ?_
  rintro e w7 ⟨rfl, hw7⟩
  have hef := eql_func (.func 37) #[] #[.pointer (some ⟨w6.heap.size, 0, none⟩)] w7
  have hb7 : Below w6.heap.size w6 w7 := by rw [hw7]; exact below_alloc w6 _
  have hk7 : w7.heap[w6.heap.size]? = some (.cells #[.slice A f0.length c] 22 (0, 0)) := by rw [hw7]; exact heap_alloc_new w6 _
  have hz7 : w6.heap.size < w7.heap.size := by rw [hw7]; simp
  clear hw7
  go_wp2_with fail
  clear hef
  obtain ⟨w8, hw8⟩ : ∃ w8, w8 = w7.alloc (.cells #[.int .i64 0] 3) := ⟨_, rfl⟩
  have hb8 : Below w7.heap.size w7 w8 := by rw [hw8]; exact below_alloc w7 _
  have hk8 : w8.heap[w7.heap.size]? = some (.cells #[.int .i64 0] 3 (0, 0)) := by rw [hw8]; exact heap_alloc_new w7 _
  have hz8 : w7.heap.size < w8.heap.size := by rw [hw8]; simp
  rw [← hw8]
  clear hw8
  have hbox : w8.cell? ⟨w6.heap.size, 0, none⟩ = some (.slice A f0.length c) := (hb8.cell (p := ⟨w6.heap.size, 0, none⟩) hz7).trans (cell_of_row w7 _ 0 _ 22 (0, 0) hk7)
  have hrd8 : RdU w8 w7.heap.size A (bvs f0) := by
    have h2 := (Rd.own ho).rdU
    have h27 : Below w2.heap.size w2 w7 := (hb3.trans ((hb4.mono hb3.size).trans ((hb5.mono (Nat.le_trans hb3.size hb4.size)).trans ((hb6.mono (Nat.le_trans hb3.size (Nat.le_trans hb4.size hb5.size))).trans (hb7.mono (Nat.le_trans hb3.size (Nat.le_trans hb4.size (Nat.le_trans hb5.size hb6.size))))))))
    exact ((h2.below h27).more h27.size).below hb8
  have hst := one_stops (5 - 1) (by decide) w6.heap.size w7.heap.size f0 (f0.drop 4) A c next_f0 (by omega) (by omega) hc w8 hbox hz7 (Nat.le_of_lt hz8) hrd8
  refine (wpIn_wide (n := 5)).1 ?_
  refine wpIn_rangeFunc_ownF (F := Fence.wide) (n := 5) rfl (by decide) (gf := 37) (lb := #[.pointer (some ⟨w6.heap.size, 0, none⟩)]) rfl trivial (enters_of Try.func37 (by kernel_rfl) rfl) hst belowK_t (belowK_b (Nat.le_of_lt hz8)) (Below.refl _ _) (fun _ => rfl)
    (fun pre W => (W.cell? ⟨w7.heap.size, 0, none⟩ = some (.int .i64 (pre.length : Int)) ∧ W.frozen? ⟨w7.heap.size, 0, none⟩ = false) ∧ Below w7.heap.size w8 W) (fun _ _ _ => False)
    (OwnFrom.and (Own.from (fun s A B row hs hg hr => ⟨cell_kept hs.1 hg hr, (frozen_kept hs.1 hg hr).trans hs.2⟩) _) (ownFrom_below (Nat.le_of_lt hz8) (Nat.le_of_lt hz8)))
    (fun _ _ _ _ _ hs _ _ => hs) ⟨⟨cell_of_row w8 _ 0 _ 3 (0, 0) hk8, frozen_of_row w8 _ 0 _ 3 hk8⟩, Below.refl _ _⟩ ?a1 ?assign ?body ?done ?stop
  case assign =>
    intro l x W K hK
    refine wpIn_skip ?_
    exact hK
  case stop =>
    rintro D c pre W _ _ h _
    exact h.elim
  case body =>
    rintro l pre x W ⟨⟨hc1, hf1⟩, hbW⟩ _
    gi_wp2
    exact ⟨KeepsOthers.setCell _ _ _, (Below.refl w7.heap.size W).setCell (p := ⟨w7.heap.size, 0, none⟩) (Nat.le_refl _) _, ⟨by rw [World.cell?_setCell_same' _ _ _ (by rw [hc1]; rfl)]; simp, by rw [World.frozen?_setCell]; exact hf1⟩,
      hbW.setCell (p := ⟨w7.heap.size, 0, none⟩) (Nat.le_refl _) _⟩
  case done =>
    rintro D ys W hD hys ⟨⟨hc1, hf1⟩, hbW⟩ hK
    rw [hys] at hc1
    have h57 : Below w5.heap.size w5 W := hb6.trans ((hb7.mono hb6.size).trans ((hb8.mono (Nat.le_trans hb6.size hb7.size)).trans (hbW.mono (Nat.le_trans hb6.size hb7.size))))
    have hkW := (h57.block w4.heap.size hz5).trans hk5
    have x0 : W.cell? ⟨w4.heap.size, 0, none⟩ = some (.int .i64 9) := by rw [cell_of_row W _ 0 _ 27 (0, 0) hkW, ← hr2]; rfl
    have x7 : W.cell? ⟨w4.heap.size, 7, none⟩ = some (.slice q.d 1 q.dc) := by
      rw [cell_of_row W _ 7 _ 27 (0, 0) hkW]
      show some (Value.slice q.d rx.data.length q.dc) = _
      rw [hr3]; rfl
    have hdW := (hU5.data.more (Nat.le_of_lt hz5)).below h57
    rw [hr3] at hdW
    have hs := run_str (P := Try.prog) W hdW.rd 22 9 5 Try.underlying22 Try.underlying5 Try.underlying9 1 q.dc rfl
    unfold str at hs
    have hg0' : (4 : Int) < (g0.length : Int) := by omega
    have hBW : Below w.heap.size w W := hb1.trans ((hb2.mono hb1.size).trans ((hb3.mono (Nat.le_trans hb1.size hb2.size)).trans ((hb4.mono (Nat.le_trans hb1.size (Nat.le_trans hb2.size hb3.size))).trans ((hb5.mono (Nat.le_trans hb1.size (Nat.le_trans hb2.size (Nat.le_trans hb3.size hb4.size)))).trans (h57.mono (Nat.le_trans hb1.size (Nat.le_trans hb2.size (Nat.le_trans hb3.size (Nat.le_trans hb4.size hb5.size)))))))))
    have hwD : w.heap.size ≤ D := Nat.le_trans hb1.size (Nat.le_trans hb2.size (Nat.le_trans hb3.size (Nat.le_trans hb4.size (Nat.le_trans hb5.size (Nat.le_trans hb6.size (Nat.le_trans hb7.size (Nat.le_trans hb8.size hD)))))))
    clear hbW hb8 hb7 hb6 hb5 hb4 hb3 hb2 hb1 hk1 hk5 hk7 hk8 hst hrd8 hbox h57 ho ho3 ho6 hU1 hM1 hU5 hdW hkW
    go_wp2_with fail
    refine ⟨by simp, .inl ⟨_, _, rfl, run_takeDeferred hK, ?_⟩⟩
    exact ⟨_, results_tmp rfl _ _ _, rfl, hBW.trans (belowK_b (w := w) (Nat.le_refl _) W D _ _ hwD hK rfl rfl)⟩
end Go.Proofs.Ytekblnaogncplaa
