/- A call, cut. -/
import Derived.Test.YtekblnaogncplaaO
set_option linter.unusedVariables false
set_option linter.unusedSimpArgs false
namespace Go.Proofs.Ytekblnaogncplaa
open Go.RowKit

def cutCall (x : CallD) : CallD := { x with param := x.param.take 300, data := x.data.take 400, more := x.more.take 200, t1 := cutA 300 x.t1, t2 := cutA 300 x.t2 }
/-- A call whose bytes lie below block U, its attributes in rows made from block B on. -/
structure CallF (w : World) (U B : Nat) (x : CallD) (p : CallP) : Prop where
  param : RdU w U p.p (bvs x.param)
  pc : x.param.length ≤ p.pc
  data : RdU w U p.d (bvs x.data)
  dc : x.data.length ≤ p.dc
  more : RdU w U p.m (bvs x.more)
  mc : x.more.length ≤ p.mc
  t1 : ∃ xs, w.ownsRow B 50 2 (.slice p.t1 x.t1.length p.c1) x.t1.length xs ∧ AtRow w B xs x.t1
  c1 : x.t1.length ≤ p.c1
  t2 : ∃ xs, w.ownsRow B 50 2 (.slice p.t2 x.t2.length p.c2) x.t2.length xs ∧ AtRow w B xs x.t2
  c2 : x.t2.length ≤ p.c2
theorem CallF.toU {w : World} {U B : Nat} {x : CallD} {p : CallP} (h : CallF w U B x p) (hU : U ≤ w.heap.size) : CallU w w.heap.size x p := by
  obtain ⟨xs, h1, h2⟩ := h.t1
  obtain ⟨ys, h3, h4⟩ := h.t2
  exact ⟨h.param.more hU, h.pc, h.data.more hU, h.dc, h.more.more hU, h.mc, h2.atU h1, h.c1, h4.atU h3, h.c2⟩
theorem CallF.next {w w' : World} {U B g : Nat} {x : CallD} {p : CallP} (h : CallF w U B x p) (hb : Below U w w') (hu : Up g w w') (hg : g < B) : CallF w' U B x p := by
  obtain ⟨xs, h1, h2⟩ := h.t1
  obtain ⟨ys, h3, h4⟩ := h.t2
  exact ⟨h.param.below hb, h.pc, h.data.below hb, h.dc, h.more.below hb, h.mc, ⟨xs, own_up h1 hg hu, h2.up hg hu⟩, h.c1, ⟨ys, own_up h3 hg hu, h4.up hg hu⟩, h.c2⟩
/-- What stands while a call is cut. -/
structure CutAt (w wk : World) (cs : Array Value) : Prop where
  call : wk.heap[w.heap.size]? = some (.cells cs 27 (0, 0))
  res : wk.heap[w.heap.size + 1]? = some (.cells (callCells zeroCall zeroP) 27 (0, 0))
  below : Below w.heap.size w wk
  size : w.heap.size + 1 < wk.heap.size
theorem CutAt.kept {w wk w' : World} {cs : Array Value} (h : CutAt w wk cs) (hb : Below wk.heap.size wk w') : CutAt w w' cs :=
  ⟨(hb.block _ (Nat.lt_of_succ_lt h.size)).trans h.call, (hb.block _ h.size).trans h.res, h.below.trans (hb.mono h.below.size), Nat.lt_of_lt_of_le h.size hb.size⟩
theorem CutAt.store {w wk : World} {cs : Array Value} (h : CutAt w wk cs) (j : Nat) (v : Value) : CutAt w (wk.setCell ⟨w.heap.size, j, none⟩ v) (cs.setIfInBounds j v) :=
  ⟨heap_setCell_same wk _ j cs 27 v h.call, (heap_setCell_other wk _ _ _ (by simp)).trans h.res, h.below.setCell (by simp) v, by simpa using h.size⟩
theorem CutAt.cell {w wk : World} {cs : Array Value} (h : CutAt w wk cs) (j : Nat) : wk.cell? ⟨w.heap.size, j, none⟩ = cs[j]? := cell_of_row wk _ j _ 27 (0, 0) h.call
theorem CutAt.frozen {w wk : World} {cs : Array Value} (h : CutAt w wk cs) (j : Nat) : wk.frozen? ⟨w.heap.size, j, none⟩ = false := frozen_of_row wk _ j _ 27 h.call
theorem res8 (tmps : Array Value) (w : World) (g : Nat) (cs : Array Value) (hp : tmps.getD 2 undef = .pointer (some ⟨g, 0, none⟩))
    (hg : w.heap[g]? = some (.cells cs 27 (0, 0))) (hs : cs.size = 11) : (results Try.f8 tmps).run Try.prog w = .ok (.agg cs) w :=
  results_cell_row rfl tmps w g 27 cs (0, 0) _ hp hg Try.underlying27 rfl (by rw [size27, hs])

set_option maxRecDepth 100000 in
set_option maxHeartbeats 1600000 in
theorem cutCall_o (x : CallD) (p : CallP) (w : World) (U : Nat) (hUw : U ≤ w.heap.size) (hx0 : CallU w U x p) (hl : x.t1.length ≤ 9223372036854775807 ∧ x.t2.length ≤ 9223372036854775807) :
    Calls Try.prog 8 #[.agg (callCells x p)] w (fun e w' => ∃ q, e = .returned (.agg (callCells (cutCall x) q)) ∧ CallF w' U w.heap.size (cutCall x) q ∧ Below w.heap.size w w') := by
  have hx := hx0.more_ hUw
  have hb : Below w.heap.size w ((w.alloc (.cells (callCells x p) 27)).alloc (.cells (callCells zeroCall zeroP) 27)) := (below_alloc w _).alloc (by simp) _
  have hx' := hx.below hb
  have hk0 : ((w.alloc (.cells (callCells x p) 27)).alloc (.cells (callCells zeroCall zeroP) 27)).heap[w.heap.size]? = some (.cells (callCells x p) 27 (0, 0)) := by
    rw [Below.heap_alloc _ _ _ (by simp)]; exact heap_alloc_new w _
  have hk1 : ((w.alloc (.cells (callCells x p) 27)).alloc (.cells (callCells zeroCall zeroP) 27)).heap[w.heap.size + 1]? = some (.cells (callCells zeroCall zeroP) 27 (0, 0)) := by
    simpa using heap_alloc_new (w.alloc (.cells (callCells x p) 27)) (.cells (callCells zeroCall zeroP) 27)
  unfold callCells zeroCall zeroP at hb hx' hk0 hk1
  unfold callCells
  simp only [List.length_nil] at hb hx' hk0 hk1
  go_enter Try.func8, Try.ntmps8
  go_wp2_with fail
  have A0 : CutAt w _ _ := ⟨hk0, hk1, hb, by simp⟩
  have hsh := short_o x.param 300 (by omega) p.p p.pc _ hx'.param.rd hx'.pc
  have hlp : (x.param.take 300).length ≤ p.pc := Nat.le_trans (by simp; omega) hx.pc
  generalize hv1 : x.param.take 300 = v1 at hsh hlp
  refine hsh.mono ?_
  rintro e w1 ⟨rfl, hw1⟩
  rw [hw1] at A0
  clear hsh hw1 hk0 hk1 hb hx'
  have HV1 := Lib.hid hv1
  clear hv1
  have g6 : w1.cell? ⟨w.heap.size, 6, none⟩ = some (.slice p.p x.param.length p.pc) := A0.cell 6
  have g7 : w1.cell? ⟨w.heap.size, 7, none⟩ = some (.slice p.d x.data.length p.dc) := A0.cell 7
  have e6 := A0.frozen 6
  go_wp2_with fail
  have A1 := A0.store 6 (.slice p.p v1.length p.pc)
  clear g6 g7 e6 A0
  have hsh := short_o x.data 400 (by omega) p.d p.dc _ (hx.data.below A1.below).rd hx.dc
  have hld : (x.data.take 400).length ≤ p.dc := Nat.le_trans (by simp; omega) hx.dc
  generalize hv2 : x.data.take 400 = v2 at hsh hld
  refine hsh.mono ?_
  rintro e w2 ⟨rfl, hw2⟩
  rw [hw2] at A1
  clear hsh hw2
  have HV2 := Lib.hid hv2
  clear hv2
  have g7 : w2.cell? ⟨w.heap.size, 7, none⟩ = some (.slice p.d x.data.length p.dc) := A1.cell 7
  have g8 : w2.cell? ⟨w.heap.size, 8, none⟩ = some (.slice p.m x.more.length p.mc) := A1.cell 8
  have e7 := A1.frozen 7
  go_wp2_with fail
  have A2 := A1.store 7 (.slice p.d v2.length p.dc)
  clear g7 g8 e7 A1
  have hsh := short_o x.more 200 (by omega) p.m p.mc _ (hx.more.below A2.below).rd hx.mc
  have hlm : (x.more.take 200).length ≤ p.mc := Nat.le_trans (by simp; omega) hx.mc
  generalize hv3 : x.more.take 200 = v3 at hsh hlm
  refine hsh.mono ?_
  rintro e w3 ⟨rfl, hw3⟩
  rw [hw3] at A2
  clear hsh hw3
  have HV3 := Lib.hid hv3
  clear hv3
  have g8 : w3.cell? ⟨w.heap.size, 8, none⟩ = some (.slice p.m x.more.length p.mc) := A2.cell 8
  have g9 : w3.cell? ⟨w.heap.size, 9, none⟩ = some (.slice p.t1 x.t1.length p.c1) := A2.cell 9
  have e8 := A2.frozen 8
  go_wp2_with fail
  have A3 := A2.store 8 (.slice p.m v3.length p.mc)
  clear g8 g9 e8 A2
  have hU3 := (hx.t1.below A3.below).more A3.below.size
  have hz3 := A3.size
  refine (cutA_o 300 (by omega) x.t1 p.t1 p.c1 _ hU3 hl.1).mono ?_
  clear hU3
  rintro e w4 ⟨⟨At, ct, xt, rfl, hct, hot, hat⟩, hb4⟩
  generalize hv4 : cutA 300 x.t1 = v4 at hct hot hat ⊢
  have HV4 := Lib.hid hv4
  clear hv4
  have A4 := A3.kept hb4
  have ot4 := own_less hot (show w.heap.size + 1 + 1 ≤ _ from hz3)
  have at4 := hat.less (show w.heap.size + 1 + 1 ≤ _ from hz3)
  clear hot hat hb4 A3 hz3
  have g9 : w4.cell? ⟨w.heap.size, 9, none⟩ = some (.slice p.t1 x.t1.length p.c1) := A4.cell 9
  have g10 : w4.cell? ⟨w.heap.size, 10, none⟩ = some (.slice p.t2 x.t2.length p.c2) := A4.cell 10
  have e9 := A4.frozen 9
  go_wp2_with fail
  have A5 := A4.store 9 (.slice At v4.length ct)
  have hu5 := Up.store w4 (Nat.le_succ w.heap.size) 9 (.slice At v4.length ct)
  have ot5 := own_up ot4 (Nat.lt_succ_self _) hu5
  have at5 := at4.up (Nat.lt_succ_self _) hu5
  clear g9 g10 e9 A4 ot4 at4 hu5
  have hU5 := (hx.t2.below A5.below).more A5.below.size
  have hz5 := A5.size
  refine (cutA_o 300 (by omega) x.t2 p.t2 p.c2 _ hU5 hl.2).mono ?_
  clear hU5
  rintro e w6 ⟨⟨Au, cu, xu, rfl, hcu, hou, hau⟩, hb6⟩
  generalize hv5 : cutA 300 x.t2 = v5 at hcu hou hau ⊢
  have HV5 := Lib.hid hv5
  clear hv5
  have A6 := A5.kept hb6
  have ou6 := own_less hou (show w.heap.size + 1 + 1 ≤ _ from hz5)
  have au6 := hau.less (show w.heap.size + 1 + 1 ≤ _ from hz5)
  have ot6 := own_below ot5 hb6
  have at6 := at5.kept (grown_of_below (g := none) hb6) (by simp)
  clear hou hau hb6 A5 hz5 ot5 at5
  have g10 : w6.cell? ⟨w.heap.size, 10, none⟩ = some (.slice p.t2 x.t2.length p.c2) := A6.cell 10
  have e10 := A6.frozen 10
  have A7 := A6.store 10 (.slice Au v5.length cu)
  have hu7 := Up.store w6 (Nat.le_succ w.heap.size) 10 (.slice Au v5.length cu)
  have ot7 := own_up ot6 (Nat.lt_succ_self _) hu7
  have at7 := at6.up (Nat.lt_succ_self _) hu7
  have ou7 := own_up ou6 (Nat.lt_succ_self _) hu7
  have au7 := au6.up (Nat.lt_succ_self _) hu7
  have hX : cutCall x = ⟨x.fn, x.session, x.a, x.b, x.n, x.kind, v1, v2, v3, v4, v5⟩ := by
    unfold cutCall
    rw [HV1.out, HV2.out, HV3.out, HV4.out, HV5.out]
  have HX := Lib.hid hX
  clear hX
  go_wp2_with (with_reducible refine Stop.load 27 ?_)
  refine Stop.mk ?_
  clear g10 e10
  refine wpList_load_row rfl 27 _ rfl w.heap.size rfl 27 _ _ _ A7.call Try.underlying27 rfl size27 ?_
  go_wp2_with (with_reducible refine Stop.store 27 ?_)
  refine Stop.mk ?_
  refine wpList_store_row rfl 27 _ _ rfl (w.heap.size + 1) (callCells ⟨x.fn, x.session, x.a, x.b, x.n, x.kind, v1, v2, v3, v4, v5⟩ ⟨p.p, p.pc, p.d, p.dc, p.m, p.mc, At, ct, Au, cu⟩) rfl rfl 27 _ A7.res (by rw [size27]; rfl) rfl (cells_one _ _) ?_
  go_wp2_with fail
  refine bodyPost_ret (res8 _ _ (w.heap.size + 1) (callCells ⟨x.fn, x.session, x.a, x.b, x.n, x.kind, v1, v2, v3, v4, v5⟩ ⟨p.p, p.pc, p.d, p.dc, p.m, p.mc, At, ct, Au, cu⟩) rfl (setRow_heap _ _ _ _ _ _ A7.res) rfl) rfl ?_
  rw [HX.out]
  have hbf := below_setRow A7.below (Nat.le_succ w.heap.size) (callCells ⟨x.fn, x.session, x.a, x.b, x.n, x.kind, v1, v2, v3, v4, v5⟩ ⟨p.p, p.pc, p.d, p.dc, p.m, p.mc, At, ct, Au, cu⟩)
  have hu : Up (w.heap.size + 1) (w6.setCell ⟨w.heap.size, 10, none⟩ (.slice Au v5.length cu)) ((w6.setCell ⟨w.heap.size, 10, none⟩ (.slice Au v5.length cu)).setRow (w.heap.size + 1) (callCells ⟨x.fn, x.session, x.a, x.b, x.n, x.kind, v1, v2, v3, v4, v5⟩ ⟨p.p, p.pc, p.d, p.dc, p.m, p.mc, At, ct, Au, cu⟩)) := ⟨by simp, fun k hk _ => setRow_other _ _ _ _ (by omega)⟩
  have ot8 := own_up ot7 (Nat.lt_succ_self _) hu
  have ou8 := own_up ou7 (Nat.lt_succ_self _) hu
  have r1 := (hx0.param.take 300).below (hbf.mono hUw)
  have r2 := (hx0.data.take 400).below (hbf.mono hUw)
  have r3 := (hx0.more.take 200).below (hbf.mono hUw)
  have t1 : (bvs x.param).take 300 = bvs v1 := by rw [← HV1.out]; simp [bvs]
  have t2 : (bvs x.data).take 400 = bvs v2 := by rw [← HV2.out]; simp [bvs]
  have t3 : (bvs x.more).take 200 = bvs v3 := by rw [← HV3.out]; simp [bvs]
  rw [t1] at r1
  rw [t2] at r2
  rw [t3] at r3
  exact ⟨⟨p.p, p.pc, p.d, p.dc, p.m, p.mc, At, ct, Au, cu⟩, rfl, ⟨r1, hlp, r2, hld, r3, hlm, ⟨xt, own_less ot8 (Nat.le_add_right _ 2), (at7.up (Nat.lt_succ_self _) hu).less (Nat.le_add_right _ 2)⟩, hct, ⟨xu, own_less ou8 (Nat.le_add_right _ 2), (au7.up (Nat.lt_succ_self _) hu).less (Nat.le_add_right _ 2)⟩, hcu⟩, hbf⟩
end Go.Proofs.Ytekblnaogncplaa
