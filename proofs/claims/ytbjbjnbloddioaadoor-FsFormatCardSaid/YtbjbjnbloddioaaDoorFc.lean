/- A disk's functions: Sync, Fuse, New. -/
import Derived.Test.YtbjbjnbloddioaaDoorFb
set_option linter.unusedVariables false
set_option linter.unusedSimpArgs false
namespace Go.Proofs.YtbjbjnbloddioaaDoor
open Go.RowKit Go.Shelf

def SecD.flush (s : SecD) : SecD := { s with syn := s.now, dirty := false }
def DiskD.flushTo (D : DiskD) : Nat → DiskD
  | 0 => D
  | k + 1 => { D.flushTo k with secs := (D.flushTo k).secs.modify k SecD.flush }
theorem flushTo_fuse (D : DiskD) : ∀ k, (D.flushTo k).fuse = D.fuse
  | 0 => rfl
  | k + 1 => flushTo_fuse D k
theorem flushTo_len (D : DiskD) : ∀ k, (D.flushTo k).secs.length = D.secs.length
  | 0 => rfl
  | k + 1 => by simp [DiskD.flushTo, flushTo_len D k]
theorem flushTo_at (D : DiskD) (j : Nat) : ∀ k, (D.flushTo k).secs[j]? = if j < k then D.secs[j]?.map SecD.flush else D.secs[j]?
  | 0 => by simp [DiskD.flushTo]
  | k + 1 => by
    simp only [DiskD.flushTo, List.getElem?_modify, flushTo_at D j k]
    by_cases h : k = j
    · subst h; simp
    · by_cases h2 : j < k
      · have h3 : j < k + 1 := by omega
        simp [h, h2, h3]
      · have h3 : ¬ j < k + 1 := by omega
        simp [h, h2, h3]
theorem flushTo_all (D : DiskD) : D.flushTo D.secs.length = D.flush := by
  have h1 := flushTo_fuse D D.secs.length
  have h2 : (D.flushTo D.secs.length).secs = D.flush.secs := by
    apply List.ext_getElem?
    intro j
    rw [flushTo_at]
    simp only [DiskD.flush, List.getElem?_map]
    by_cases h : j < D.secs.length
    · rw [if_pos h]; rfl
    · rw [if_neg h, List.getElem?_eq_none (by omega)]; rfl
  calc D.flushTo D.secs.length = ⟨(D.flushTo D.secs.length).secs, (D.flushTo D.secs.length).fuse⟩ := rfl
    _ = D.flush := by rw [h1, h2]; rfl
/-- A sector synced. -/
theorem flush_cells {w : World} {cs : Array Value} {D : DiskD} {i : Nat} {v : Value} (hz : cs.size = D.secs.length * 3) (hc : ∀ i s, D.secs[i]? = some s → SecAt w cs i s) (hi : i < D.secs.length) (hv : cs[i * 3]? = some v) :
    ∀ j s, (D.secs.modify i SecD.flush)[j]? = some s → SecAt w ((cs.setIfInBounds (i * 3 + 1) v).setIfInBounds (i * 3 + 2) (.bool false)) j s := by
  intro j s hj
  have hj' : ∃ s0, D.secs[j]? = some s0 ∧ s = if i = j then s0.flush else s0 := by
    simp only [List.getElem?_modify] at hj
    cases hs : D.secs[j]? with
    | none => rw [hs] at hj; simp at hj
    | some s0 =>
      rw [hs] at hj
      refine ⟨s0, rfl, ?_⟩
      by_cases e : i = j <;> simp [e] at hj ⊢ <;> exact hj.symm
  obtain ⟨s0, h0, rfl⟩ := hj'
  obtain ⟨nv, sv, s1, s2, s3, v0, v1⟩ := hc j s0 h0
  have hjl : j < D.secs.length := (List.getElem?_eq_some_iff.1 h0).1
  by_cases e : i = j
  · subst e
    rw [if_pos rfl]
    obtain rfl : nv = v := by rw [s1] at hv; injection hv
    refine ⟨nv, nv, ?_, ?_, ?_, v0, v0⟩
    · rw [setIf_other _ (by omega), setIf_other _ (by omega), s1]
    · rw [setIf_other _ (by omega), setIf_same _ (by omega)]
    · rw [setIf_same _ (by simp; omega)]; rfl
  · rw [if_neg e]
    refine ⟨nv, sv, ?_, ?_, ?_, v0, v1⟩
    · rw [setIf_other _ (by omega), setIf_other _ (by omega), s1]
    · rw [setIf_other _ (by omega), setIf_other _ (by omega), s2]
    · rw [setIf_other _ (by omega), setIf_other _ (by omega), s3]

theorem SecV.shape {w : World} {v : Value} {b : List UInt8} (h : SecV w v b) : ∃ A n c, v = .slice A n c := by
  rcases h.2 with ⟨rfl, _⟩ | ⟨A, c, rfl, _⟩
  · exact ⟨_, _, _, rfl⟩
  · exact ⟨_, _, _, rfl⟩
set_option maxRecDepth 100000 in
set_option maxHeartbeats 1600000 in
theorem sync_d (g gl : Nat) (D : DiskD) (w : World) (h : DiskAt w g gl D) (hd0 : D.dead = false) :
    Calls Tryd.prog 28 #[.pointer (some ⟨g, 0, none⟩)] w (fun e w' => e = .returned (.bool true) ∧ DiskAt w' g gl D.flush.done ∧ Fr (two g gl) w w') := by
  obtain ⟨cnt, hd⟩ := h.dk
  have c0 : w.cell? ⟨g, 0, none⟩ = some (.slice (some ⟨gl, 0, none⟩) D.secs.length D.secs.length) := cell_of_row _ g 0 _ 69 (0, 0) hd
  have hlen := h.len
  have hdead := dead_o g gl D w h
  rw [hd0] at hdead
  go_enter Tryd.func28, Tryd.ntmps28
  go_wp2_with fail
  refine hdead.mono ?_
  rintro e _ ⟨rfl, rfl⟩
  go_wp2_with fail
  go_loopw [11] (fun i wr => ∃ k : Nat, k ≤ D.secs.length ∧ i = .int .i64 k ∧ DiskAt wr g gl (D.flushTo k) ∧ Fr (two g gl) w wr) (fun i _ => D.secs.length - (intOf i).toNat)
  case atStart => exact ⟨0, by omega, rfl, h, Fr.refl _ _⟩
  case round =>
    clear c0 hd
    obtain ⟨k, hk, rfl, h1, hf1⟩ := hrel
    by_cases hlt : k < D.secs.length
    · obtain ⟨cnt1, hd1⟩ := h1.dk
      obtain ⟨cs1, hs1, hz1, hcc1⟩ := h1.ss
      rw [flushTo_len] at hd1 hz1
      have c0 : wr.drew.cell? ⟨g, 0, none⟩ = some (.slice (some ⟨gl, 0, none⟩) D.secs.length D.secs.length) := cell_of_row wr g 0 _ 69 (0, 0) hd1
      have hva : cs1[k * 3]? = some cs1[k * 3] := Array.getElem?_eq_getElem (by omega)
      have ca : wr.drew.cell? ⟨gl, k * 3, none⟩ = some cs1[k * 3] := (cell_of_row wr gl (k * 3) _ 71 (0, 0) hs1).trans hva
      have cb : wr.drew.cell? ⟨gl, k * 3 + 1, none⟩ = some cs1[k * 3 + 1] := by rw [show wr.drew.cell? ⟨gl, k * 3 + 1, none⟩ = _ from cell_of_row wr gl (k * 3 + 1) _ 71 (0, 0) hs1]; simp
      have cc : wr.drew.cell? ⟨gl, k * 3 + 2, none⟩ = some cs1[k * 3 + 2] := by rw [show wr.drew.cell? ⟨gl, k * 3 + 2, none⟩ = _ from cell_of_row wr gl (k * 3 + 2) _ 71 (0, 0) hs1]; simp
      have fb : wr.drew.frozen? ⟨gl, k * 3 + 1, none⟩ = false := frozen_of_row wr gl (k * 3 + 1) _ 71 hs1
      have fc : wr.drew.frozen? ⟨gl, k * 3 + 2, none⟩ = false := frozen_of_row wr gl (k * 3 + 2) _ 71 hs1
      obtain ⟨nv, sv, s0, s1, s2, v0, v1⟩ := hcc1 k _ (List.getElem?_eq_getElem (by rw [flushTo_len]; exact hlt))
      obtain ⟨Av, lv, cv, rfl⟩ := v0.shape
      generalize cs1[k * 3] = va at hva ca
      obtain rfl : va = .slice Av lv cv := by rw [hva] at s0; injection s0
      generalize cs1[k * 3 + 1] = vb at cb
      generalize cs1[k * 3 + 2] = vc at cc
      have hfr := ((Fr.refl (two g gl) wr.drew).set (p := ⟨gl, k * 3 + 1, none⟩) (.inr rfl) (.slice Av lv cv)).set (p := ⟨gl, k * 3 + 2, none⟩) (.inr rfl) (.bool false)
      have hg2 := heap_setCell_same _ gl (k * 3 + 2) _ 71 (.bool false) (heap_setCell_same wr.drew gl (k * 3 + 1) _ 71 (.slice Av lv cv) hs1)
      have hd2 : ((wr.drew.setCell ⟨gl, k * 3 + 1, none⟩ (.slice Av lv cv)).setCell ⟨gl, k * 3 + 2, none⟩ (.bool false)).heap[g]? = _ :=
        (heap_setCell_other _ _ _ _ h.ne).trans ((heap_setCell_other _ _ _ _ h.ne).trans hd1)
      have h2 : DiskAt ((wr.drew.setCell ⟨gl, k * 3 + 1, none⟩ (.slice Av lv cv)).setCell ⟨gl, k * 3 + 2, none⟩ (.bool false)) g gl (D.flushTo (k + 1)) :=
        ⟨⟨cnt1, by rw [flushTo_len]; exact hd2⟩, ⟨_, hg2, by rw [flushTo_len]; simpa using hz1, fun j s hj => SecAt.fr (w := wr.drew) (flush_cells (by rw [flushTo_len]; exact hz1) hcc1 (by rw [flushTo_len]; exact hlt) hva j s hj) hfr h1.no5⟩, h1.small, by rw [flushTo_len]; exact hlen⟩
      have hf2 : Fr (two g gl) w ((wr.drew.setCell ⟨gl, k * 3 + 1, none⟩ (.slice Av lv cv)).setCell ⟨gl, k * 3 + 2, none⟩ (.bool false)) := hf1.trans ((Fr.below (below_drew wr)).trans hfr)
      have H2 := Lib.hid (And.intro h2 hf2)
      clear h2 hf2 hd2 hg2 hfr hd1 hs1 hcc1 hva s0 s1 s2 v0 v1
      go_wp2_with fail
      refine wp_region_seg [20, 23] [[0, 1, 2, 3, 4, 5, 6, 7, 8, 9, 10, 11, 12, 13, 14, 15, 16, 17, 18, 19, 20, 21, 22, 23]] (by kernel_rfl) (by kernel_rfl) ?_
      simp only [Seg, pick_cons, pick_nil, List.getElem?_toArray, List.getElem?_cons_zero, List.getElem?_cons_succ, Option.toList_some, List.cons_append, List.nil_append]
      generalize wr.drew = wd at *
      go_wp2_with fail
      refine Fin.intro ⟨by kernel_rfl, ?_⟩
      go_wp2_with fail
      go_roundw
      case rel => exact ⟨k + 1, hlt, by go_num, H2.out⟩
      case measure => simp [intOf]; omega
    · obtain rfl : k = D.secs.length := by omega
      rw [flushTo_all] at h1
      go_wp2_with fail
      refine (done_o g gl D.flush wr h1 hd0).mono ?_
      rintro e w3 ⟨rfl, h3, hfr3⟩
      go_wp2_with fail
      go_ret
      exact ⟨rfl, h3, hf1.trans hfr3⟩
set_option maxRecDepth 100000 in
theorem sync_x (g gl : Nat) (D : DiskD) (w : World) (h : DiskAt w g gl D) (hd0 : D.dead = true) :
    Calls Tryd.prog 28 #[.pointer (some ⟨g, 0, none⟩)] w (fun e w' => e = .returned (.bool false) ∧ w = w') := by
  have hdead := dead_o g gl D w h
  rw [hd0] at hdead
  go_enter Tryd.func28, Tryd.ntmps28
  go_wp2_with fail
  refine hdead.mono ?_
  rintro e _ ⟨rfl, rfl⟩
  go_wp2_with fail
  go_ret
  exact ⟨rfl, rfl⟩
/-- Sync. -/
theorem sync_k (g gl : Nat) (D : DiskD) (w : World) (h : DiskAt w g gl D) :
    Calls Tryd.prog 28 #[.pointer (some ⟨g, 0, none⟩)] w (fun e w' => e = .returned (.bool D.sync.1) ∧ DiskAt w' g gl D.sync.2 ∧ Fr (two g gl) w w') := by
  unfold DiskD.sync
  cases hd : D.dead with
  | true =>
    refine (sync_x g gl D w h hd).mono ?_
    rintro e _ ⟨rfl, rfl⟩
    exact ⟨rfl, h, Fr.refl _ _⟩
  | false =>
    refine (sync_d g gl D w h hd).mono ?_
    rintro e w1 ⟨rfl, h1, hf⟩
    exact ⟨rfl, h1, hf⟩
set_option maxRecDepth 100000 in
set_option maxHeartbeats 1600000 in
/-- Fuse. -/
theorem fuse_k (g gl : Nat) (D : DiskD) (n : Nat) (w : World) (h : DiskAt w g gl D) (hn : n ≤ 1000) :
    Calls Tryd.prog 24 #[.pointer (some ⟨g, 0, none⟩), .int .i64 (n : Int)] w (fun e w' => e = .returned (.tuple #[]) ∧ DiskAt w' g gl (D.setFuse n) ∧ Fr (two g gl) w w') := by
  have hdead := dead_o g gl D w h
  unfold DiskD.setFuse
  cases hd : D.dead with
  | true =>
    rw [hd] at hdead
    go_enter Tryd.func24, Tryd.ntmps24
    go_wp2_with fail
    refine hdead.mono ?_
    rintro e _ ⟨rfl, rfl⟩
    go_wp2_with fail
    refine bodyPost_ret (results_none rfl _ _ _) rfl ?_
    exact ⟨rfl, by first | exact h | trivial, Fr.refl _ _⟩
  | false =>
    rw [hd] at hdead
    obtain ⟨cnt, hk⟩ := h.dk
    obtain ⟨cs, hs, hz, hc⟩ := h.ss
    have c1 : w.cell? ⟨g, 1, none⟩ = some (.bool D.fuse.isSome) := cell_of_row _ g 1 _ 69 (0, 0) hk
    have c2 : w.cell? ⟨g, 2, none⟩ = some (.int .i64 (D.fuse.getD 0 : Nat)) := cell_of_row _ g 2 _ 69 (0, 0) hk
    have c3 : w.cell? ⟨g, 3, none⟩ = some (.bool (D.fuse == some 0)) := cell_of_row _ g 3 _ 69 (0, 0) hk
    have f1 : w.frozen? ⟨g, 1, none⟩ = false := frozen_of_row _ g 1 _ 69 hk
    have f2 : w.frozen? ⟨g, 2, none⟩ = false := frozen_of_row _ g 2 _ 69 hk
    have f3 : w.frozen? ⟨g, 3, none⟩ = false := frozen_of_row _ g 3 _ 69 hk
    have h3 := heap_setCell_same _ g 3 _ 69 (.bool (decide ((n : Int) < 1))) (heap_setCell_same _ g 2 _ 69 (.int .i64 (n : Int)) (heap_setCell_same w g 1 _ 69 (.bool true) hk))
    have hfr := (((Fr.refl (two g gl) w).set (p := ⟨g, 1, none⟩) (.inl rfl) (.bool true)).set (p := ⟨g, 2, none⟩) (.inl rfl) (.int .i64 (n : Int))).set (p := ⟨g, 3, none⟩) (.inl rfl) (.bool (decide ((n : Int) < 1)))
    have hoth : ∀ (W : World) (j : Nat) (v : Value), (W.setCell ⟨g, j, none⟩ v).heap[gl]? = W.heap[gl]? := fun W j v => heap_setCell_other _ _ _ _ (fun e => h.ne e.symm)
    have hfin : DiskAt (((w.setCell ⟨g, 1, none⟩ (.bool true)).setCell ⟨g, 2, none⟩ (.int .i64 (n : Int))).setCell ⟨g, 3, none⟩ (.bool (decide ((n : Int) < 1)))) g gl { D with fuse := some n } :=
      ⟨⟨cnt, h3.trans (by
        have : decide ((n : Int) < 1) = (some n == some 0) := by
          by_cases h0 : n = 0
          · subst h0; rfl
          · rw [decide_eq_false (by omega)]; simp [h0]
        rw [this]
        rfl)⟩, ⟨cs, (hoth _ _ _).trans ((hoth _ _ _).trans ((hoth _ _ _).trans hs)), hz, fun i s hi => (hc i s hi).fr hfr h.no5⟩, fun m e => by cases e; exact hn, h.len⟩
    have HF := Lib.hid (And.intro hfin hfr)
    clear hfin hfr h3 hoth hk hs
    go_enter Tryd.func24, Tryd.ntmps24
    go_wp2_with fail
    refine hdead.mono ?_
    rintro e _ ⟨rfl, rfl⟩
    go_wp2_with fail
    go_end0
    exact ⟨rfl, HF.out⟩
end Go.Proofs.YtbjbjnbloddioaaDoor
