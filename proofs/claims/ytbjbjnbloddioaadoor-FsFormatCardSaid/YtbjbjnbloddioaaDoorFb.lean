/- A disk's functions. -/
import Derived.Test.YtbjbjnbloddioaaDoorFa
set_option linter.unusedVariables false
set_option linter.unusedSimpArgs false
namespace Go.Proofs.YtbjbjnbloddioaaDoor
open Go.RowKit Go.Shelf

set_option maxRecDepth 100000 in
theorem read_out (g gl : Nat) (D : DiskD) (i : Int) (hi : i < 0 ∨ (D.secs.length : Int) ≤ i) (w : World) (h : DiskAt w g gl D) :
    Calls Tryd.prog 35 #[.pointer (some ⟨g, 0, none⟩), .int .i64 i] w (fun e w' => e = .returned (.slice none 0 0) ∧ w = w') := by
  by_cases h0 : i < 0
  · go_enter Tryd.func35, Tryd.ntmps35
    go_wp2_with fail
    go_ret
    exact ⟨rfl, rfl⟩
  · have h1 : (D.secs.length : Int) ≤ i := by omega
    have h1' : ¬ i < (D.secs.length : Int) := by omega
    go_enter Tryd.func35, Tryd.ntmps35
    go_wp2_with fail
    refine (sectors_o g gl D w h).mono ?_
    rintro e _ ⟨rfl, rfl⟩
    go_wp2_with fail
    go_ret
    exact ⟨rfl, rfl⟩
set_option maxRecDepth 100000 in
theorem read_o (g gl : Nat) (D : DiskD) (i : Nat) (s : SecD) (hi : D.secs[i]? = some s) (w : World) (h : DiskAt w g gl D) :
    Calls Tryd.prog 35 #[.pointer (some ⟨g, 0, none⟩), .int .i64 (i : Int)] w (fun e w' => ∃ A c, e = .returned (.slice A 256 c) ∧ 256 ≤ c ∧ w'.ownsRow w.heap.size 5 1 (.slice A 256 c) 256 (bvs s.now) ∧ Below w.heap.size w w') := by
  obtain ⟨cnt, hd⟩ := h.dk
  obtain ⟨cs, hs, hz, hc⟩ := h.ss
  obtain ⟨nv, sv, s0, s1, s2, v0, v1⟩ := hc i s hi
  have c0 : w.cell? ⟨g, 0, none⟩ = some (.slice (some ⟨gl, 0, none⟩) D.secs.length D.secs.length) := cell_of_row _ g 0 _ 69 (0, 0) hd
  have cn : w.cell? ⟨gl, i * 3, none⟩ = some nv := (cell_of_row _ gl (i * 3) _ 71 (0, 0) hs).trans s0
  have hil : i < D.secs.length := (List.getElem?_eq_some_iff.1 hi).1
  have hlen := h.len
  go_enter Tryd.func35, Tryd.ntmps35
  go_wp2_with fail
  refine (sectors_o g gl D w h).mono ?_
  rintro e _ ⟨rfl, rfl⟩
  go_wp2_with fail
  refine (zeros_o nv s.now w v0).mono ?_
  rintro e w1 ⟨A, c, rfl, hcp, ho, hb⟩
  go_wp2_with fail
  go_ret
  exact ⟨A, c, rfl, hcp, ho, hb⟩
set_option maxRecDepth 100000 in
theorem done_o (g gl : Nat) (D : DiskD) (w : World) (h : DiskAt w g gl D) (hd0 : D.dead = false) :
    Calls Tryd.prog 40 #[.pointer (some ⟨g, 0, none⟩)] w (fun e w' => e = .returned (.tuple #[]) ∧ DiskAt w' g gl D.done ∧ Fr (two g gl) w w') := by
  obtain ⟨cnt, hd⟩ := h.dk
  have c4 : w.cell? ⟨g, 4, none⟩ = some (.int .i64 cnt) := cell_of_row _ g 4 _ 69 (0, 0) hd
  have f4 : w.frozen? ⟨g, 4, none⟩ = false := frozen_of_row _ g 4 _ 69 hd
  have c1 : w.cell? ⟨g, 1, none⟩ = some (.bool D.fuse.isSome) := cell_of_row _ g 1 _ 69 (0, 0) hd
  have key : ∀ (k : Nat) (f : Option Nat) (W : World) (cnt' : Int), W.heap[g]? = some (.cells (dkCells gl D.secs.length f cnt') 69 (0, 0)) → Fr (two g gl) w W → (∀ n, f = some n → n ≤ 1000) → W.heap[gl]? = w.heap[gl]? → DiskAt W g gl { D with fuse := f } ∧ Fr (two g gl) w W := fun _ f W cnt' h1 h2 h3 h4 => by
    obtain ⟨cs, hs, hz, hc⟩ := h.ss
    exact ⟨⟨⟨cnt', h1⟩, ⟨cs, h4.trans hs, hz, fun i s hi => (hc i s hi).fr h2 h.no5⟩, h3, h.len⟩, h2⟩
  have hne := h.ne
  have hoth : ∀ (W : World) (j : Nat) (v : Value), (W.setCell ⟨g, j, none⟩ v).heap[gl]? = W.heap[gl]? := fun W j v => heap_setCell_other _ _ _ _ (fun e => hne e.symm)
  have h1 := heap_setCell_same w g 4 _ 69 (.int .i64 (wrap64 (cnt + 1))) hd
  have hfr1 := (Fr.refl (two g gl) w).set (p := ⟨g, 4, none⟩) (.inl rfl) (.int .i64 (wrap64 (cnt + 1)))
  have ho1 := hoth w 4 (.int .i64 (wrap64 (cnt + 1)))
  cases hf : D.fuse with
  | none =>
    rw [hf] at c1 h1
    have hk := key 0 none _ (wrap64 (cnt + 1)) h1 hfr1 (fun n e => by cases e) ho1
    have hD : D.done = { D with fuse := none } := by simp [DiskD.done, hf]
    rw [hD]
    have HK := Lib.hid hk
    clear hk key h1 hfr1 ho1 hd
    go_enter Tryd.func40, Tryd.ntmps40
    go_wp2_with fail
    go_end0
    exact ⟨rfl, HK.out⟩
  | some n =>
    rw [hf] at c1 h1
    have hn0 : n ≠ 0 := by rintro rfl; simp [DiskD.dead, hf] at hd0
    have hn1 := h.small n hf
    obtain ⟨m, rfl⟩ : ∃ m, n = m + 1 := ⟨n - 1, by omega⟩
    have hD : D.done = { D with fuse := some m } := by simp [DiskD.done, hf]
    rw [hD]
    have h2 := heap_setCell_same _ g 2 _ 69 (.int .i64 (m : Int)) h1
    have h3 := heap_setCell_same _ g 3 _ 69 (.bool (decide ((m : Int) < 1))) h2
    have hk := key 0 (some m) _ (wrap64 (cnt + 1)) (h3.trans (by
      have : decide ((m : Int) < 1) = (some m == some 0) := by
        by_cases h0 : m = 0
        · subst h0; rfl
        · rw [decide_eq_false (by omega)]; simp [h0]
      rw [this]
      rfl)) ((hfr1.set (p := ⟨g, 2, none⟩) (.inl rfl) _).set (p := ⟨g, 3, none⟩) (.inl rfl) _) (fun n e => by cases e; omega) ((hoth _ _ _).trans ((hoth _ _ _).trans ho1))
    have HK := Lib.hid hk
    have c2 : w.cell? ⟨g, 2, none⟩ = some (.int .i64 ((m : Int) + 1)) := (cell_of_row _ g 2 _ 69 (0, 0) hd).trans (by rw [hf]; rfl)
    have f2 : w.frozen? ⟨g, 2, none⟩ = false := frozen_of_row _ g 2 _ 69 hd
    have c3 : w.cell? ⟨g, 3, none⟩ = some (.bool (D.fuse == some 0)) := cell_of_row _ g 3 _ 69 (0, 0) hd
    have f3 : w.frozen? ⟨g, 3, none⟩ = false := frozen_of_row _ g 3 _ 69 hd
    clear hk key h1 hfr1 ho1 hd h2 h3 hf
    go_enter Tryd.func40, Tryd.ntmps40
    go_wp2_with fail
    go_end0
    exact ⟨rfl, HK.out⟩

theorem setIf_other {cs : Array Value} {i j : Nat} (v : Value) (h : i ≠ j) : (cs.setIfInBounds i v)[j]? = cs[j]? := by simp [Array.getElem?_setIfInBounds, h]
theorem setIf_same {cs : Array Value} {i : Nat} (v : Value) (h : i < cs.size) : (cs.setIfInBounds i v)[i]? = some v := by simp [h]
/-- A sector's bytes laid anew. -/
theorem put_cells {w : World} {cs : Array Value} {D : DiskD} {i : Nat} {v : Value} {b : List UInt8} (hz : cs.size = D.secs.length * 3) (hc : ∀ i s, D.secs[i]? = some s → SecAt w cs i s) (hi : i < D.secs.length) (hv : SecV w v b) :
    ∀ j s, (D.put i b).secs[j]? = some s → SecAt w ((cs.setIfInBounds (i * 3) v).setIfInBounds (i * 3 + 2) (.bool true)) j s := by
  intro j s hj
  have hj' : ∃ s0, D.secs[j]? = some s0 ∧ s = if i = j then { s0 with now := b, dirty := true } else s0 := by
    simp only [DiskD.put, List.getElem?_modify] at hj
    cases hs : D.secs[j]? with
    | none => rw [hs] at hj; simp at hj
    | some s0 =>
      rw [hs] at hj
      refine ⟨s0, rfl, ?_⟩
      by_cases e : i = j <;> simp [e] at hj ⊢ <;> exact hj.symm
  obtain ⟨s0, h0, rfl⟩ := hj'
  obtain ⟨nv, sv, s1, s2, s3, v0, v1⟩ := hc j s0 h0
  have hjl : j < D.secs.length := (List.getElem?_eq_some_iff.1 h0).1
  by_cases e : i = j
  · subst e
    rw [if_pos rfl]
    refine ⟨v, sv, ?_, ?_, ?_, hv, v1⟩
    · rw [setIf_other _ (by omega), setIf_same _ (by omega)]
    · rw [setIf_other _ (by omega), setIf_other _ (by omega), s2]
    · rw [setIf_same _ (by simp; omega)]
  · rw [if_neg e]
    refine ⟨nv, sv, ?_, ?_, ?_, v0, v1⟩
    · rw [setIf_other _ (by omega), setIf_other _ (by omega), s1]
    · rw [setIf_other _ (by omega), setIf_other _ (by omega), s2]
    · rw [setIf_other _ (by omega), setIf_other _ (by omega), s3]

set_option maxRecDepth 100000 in
set_option maxHeartbeats 1600000 in
/-- A write that is done. -/
theorem write_d (g gl : Nat) (D : DiskD) (i : Nat) (b : List UInt8) (A : Option Addr) (c : Nat) (w : World) (h : DiskAt w g gl D) (hd0 : D.dead = false) (hi : i < D.secs.length) (hb : b.length = 256) (hr : Rd5 w A b) :
    Calls Tryd.prog 39 #[.pointer (some ⟨g, 0, none⟩), .int .i64 (i : Int), .slice A 256 c] w (fun e w' => e = .returned (.bool true) ∧ DiskAt w' g gl (D.put i b).done ∧ Fr (two g gl) w w') := by
  obtain ⟨cnt, hd⟩ := h.dk
  obtain ⟨cs, hs, hz, hc⟩ := h.ss
  have c0 : w.cell? ⟨g, 0, none⟩ = some (.slice (some ⟨gl, 0, none⟩) D.secs.length D.secs.length) := cell_of_row _ g 0 _ 69 (0, 0) hd
  have hlen := h.len
  have hdead := dead_o g gl D w h
  rw [hd0] at hdead
  have hcl := clone_o b A c w.drew hr.rd (by omega)
  rw [hb] at hcl
  go_enter Tryd.func39, Tryd.ntmps39
  go_wp2_with fail
  refine hdead.mono ?_
  rintro e _ ⟨rfl, rfl⟩
  go_wp2_with fail
  refine wp_region_seg [14, 17] [[0, 1, 2, 3, 4, 5, 6, 7, 8, 9, 10, 11], [12, 13, 14, 15, 16, 17]] (by kernel_rfl) (by kernel_rfl) ?_
  simp only [Seg, pick_cons, pick_nil, List.getElem?_toArray, List.getElem?_cons_zero, List.getElem?_cons_succ, Option.toList_some, List.cons_append, List.nil_append]
  have c0' : w.drew.cell? ⟨g, 0, none⟩ = some (.slice (some ⟨gl, 0, none⟩) D.secs.length D.secs.length) := c0
  go_wp2_with fail
  refine hcl.mono ?_
  rintro e w1 ⟨A1, c1, rfl, hc1, ho1, hb1, _⟩
  have hB1 : Below w.heap.size w w1 := of_drew hb1
  have h1 := h.below hB1
  obtain ⟨cs1, hs1, hz1, hcc1⟩ := h1.ss
  have hv : SecV w1 (.slice A1 256 c1) b := ⟨hb, .inr ⟨A1, c1, by rw [hb], by omega, Rd5.own ho1⟩⟩
  have hxa : ∃ u, w1.cell? ⟨gl, i * 3, none⟩ = some u := ⟨cs1[i * 3]'(by omega), by rw [cell_of_row _ gl (i * 3) _ 71 (0, 0) hs1]; simp⟩
  have hxb : ∃ u, w1.cell? ⟨gl, i * 3 + 2, none⟩ = some u := ⟨cs1[i * 3 + 2]'(by omega), by rw [cell_of_row _ gl (i * 3 + 2) _ 71 (0, 0) hs1]; simp⟩
  obtain ⟨ua, hua⟩ := hxa
  obtain ⟨ub, hub⟩ := hxb
  have fa : w1.frozen? ⟨gl, i * 3, none⟩ = false := frozen_of_row _ gl (i * 3) _ 71 hs1
  have fb : w1.frozen? ⟨gl, i * 3 + 2, none⟩ = false := frozen_of_row _ gl (i * 3 + 2) _ 71 hs1
  go_wp2_with fail
  refine Fin.intro ⟨by kernel_rfl, Old.of_below hb1, ?_⟩
  go_wp2_with fail
  have hfr := ((Fr.refl (two g gl) w1).set (p := ⟨gl, i * 3, none⟩) (.inr rfl) (.slice A1 256 c1)).set (p := ⟨gl, i * 3 + 2, none⟩) (.inr rfl) (.bool true)
  have hg2 := heap_setCell_same _ gl (i * 3 + 2) _ 71 (.bool true) (heap_setCell_same w1 gl (i * 3) _ 71 (.slice A1 256 c1) hs1)
  obtain ⟨cnt1, hd1⟩ := h1.dk
  have hd2 : ((w1.setCell ⟨gl, i * 3, none⟩ (.slice A1 256 c1)).setCell ⟨gl, i * 3 + 2, none⟩ (.bool true)).heap[g]? = some (.cells (dkCells gl D.secs.length D.fuse cnt1) 69 (0, 0)) :=
    (heap_setCell_other _ _ _ _ h.ne).trans ((heap_setCell_other _ _ _ _ h.ne).trans hd1)
  have hlp : (D.put i b).secs.length = D.secs.length := by simp [DiskD.put]
  have h2 : DiskAt ((w1.setCell ⟨gl, i * 3, none⟩ (.slice A1 256 c1)).setCell ⟨gl, i * 3 + 2, none⟩ (.bool true)) g gl (D.put i b) :=
    ⟨⟨cnt1, by rw [hlp]; exact hd2⟩, ⟨_, hg2, by rw [hlp]; simpa using hz1, fun j s hj => (put_cells hz1 hcc1 hi hv j s hj).fr hfr h1.no5⟩, h1.small, by rw [hlp]; exact h1.len⟩
  generalize (w1.setCell ⟨gl, i * 3, none⟩ (.slice A1 256 c1)).setCell ⟨gl, i * 3 + 2, none⟩ (.bool true) = w2 at h2 hfr ⊢
  refine Fin.intro ⟨by kernel_rfl, ?_⟩
  clear hua hub fa fb hg2 hd2
  go_wp2_with fail
  refine (done_o g gl (D.put i b) w2 h2 hd0).mono ?_
  rintro e w3 ⟨rfl, h3, hfr3⟩
  go_wp2_with fail
  go_ret
  exact ⟨rfl, h3, ((Fr.below hB1).trans hfr).trans hfr3⟩
set_option maxRecDepth 100000 in
/-- A write on a dead disk. -/
theorem write_x (g gl : Nat) (D : DiskD) (i : Int) (v : Value) (w : World) (h : DiskAt w g gl D) (hd0 : D.dead = true) :
    Calls Tryd.prog 39 #[.pointer (some ⟨g, 0, none⟩), .int .i64 i, v] w (fun e w' => e = .returned (.bool false) ∧ w = w') := by
  have hdead := dead_o g gl D w h
  rw [hd0] at hdead
  go_enter Tryd.func39, Tryd.ntmps39
  go_wp2_with fail
  refine hdead.mono ?_
  rintro e _ ⟨rfl, rfl⟩
  go_wp2_with fail
  go_ret
  exact ⟨rfl, rfl⟩
/-- Write. -/
theorem write_k (g gl : Nat) (D : DiskD) (i : Nat) (b : List UInt8) (A : Option Addr) (c : Nat) (w : World) (h : DiskAt w g gl D) (hi : i < D.secs.length) (hb : b.length = 256) (hr : Rd5 w A b) :
    Calls Tryd.prog 39 #[.pointer (some ⟨g, 0, none⟩), .int .i64 (i : Int), .slice A 256 c] w (fun e w' => e = .returned (.bool (D.write i b).1) ∧ DiskAt w' g gl (D.write i b).2 ∧ Fr (two g gl) w w') := by
  unfold DiskD.write
  cases hd : D.dead with
  | true =>
    refine (write_x g gl D i _ w h hd).mono ?_
    rintro e _ ⟨rfl, rfl⟩
    exact ⟨rfl, h, Fr.refl _ _⟩
  | false =>
    refine (write_d g gl D i b A c w h hd hi hb hr).mono ?_
    rintro e w1 ⟨rfl, h1, hf⟩
    exact ⟨rfl, h1, hf⟩
end Go.Proofs.YtbjbjnbloddioaaDoor
