/- Mount. -/
import Derived.Test.YtbjbjnbloddioaaDoorFj
set_option linter.unusedVariables false
set_option linter.unusedSimpArgs false
namespace Go.Proofs.YtbjbjnbloddioaaDoor
open Go.RowKit Go.Shelf
attribute [local go_sem] Oper.semAt_some

def cmt (D : DiskD) : Nat → Int
  | 0 => -1
  | k + 1 => if whole (D.at_ k) k then max (cmt D k) (hdN (D.at_ k) : Nat) else cmt D k
/-- How many commits a mount tells; none: -1. -/
def mountC (D : DiskD) : Int := cmt D 2
/-- A volume. -/
def VolAt (w : World) (v g : Nat) (b : Nat) (c : Int) (br : Bool) : Prop := w.heap[v]? = some (.cells #[.pointer (some ⟨g, 0, none⟩), .int .i64 (b : Int), .int .i64 c, .bool br] 65 (0, 0))
/-- What Mount answers. -/
def MountR (w : World) (g : Nat) (D : DiskD) (e : Ending) (w' : World) : Prop :=
  if D.refused ≠ 0 then e = .returned (.tuple #[.pointer none, .int .i64 D.refused])
  else if mountC D < 0 then e = .returned (.tuple #[.pointer none, .int .i64 5])
  else ∃ v, e = .returned (.tuple #[.pointer (some ⟨v, 0, none⟩), .int .i64 0]) ∧ w.heap.size ≤ v ∧ VolAt w' v g ((D.secs.length - 8) / 2) (mountC D) false
structure RMt (w w2 : World) (cb : Nat) (D : DiskD) (k : Nat) (W : World) : Prop where
  le : k ≤ 2
  cm : W.heap[cb]? = some (.cells #[.int .i64 (cmt D k)] 3 (0, 0))
  kb : KbC w2 cb w2 W

set_option maxRecDepth 100000 in
theorem mount_nil (w : World) : Calls Tryd.prog 9 #[.pointer none] w (fun e w' => e = .returned (.tuple #[.pointer none, .int .i64 7]) ∧ w = w') := by
  go_enter Tryd.func9, Tryd.ntmps9
  go_wp2_with fail
  refine wp_scope_straight ?_
  go_wp2_with fail
  refine (refused_nil _).mono ?_
  rintro e _ ⟨rfl, rfl⟩
  go_wp2_with fail
  rw [Exit.noGoto_ret]
  refine bodyPost_ret (results_tmp2 rfl _ _ _) rfl ?_
  exact ⟨rfl, rfl⟩
set_option maxRecDepth 100000 in
set_option maxHeartbeats 3200000 in
theorem mount_o (g gl : Nat) (D : DiskD) (w : World) (h : DiskAt w g gl D) (hK : Kg w) (hb0 : hdN (D.at_ 0) < 1000000) (hb1 : hdN (D.at_ 1) < 1000000) :
    Calls Tryd.prog 9 #[.pointer (some ⟨g, 0, none⟩)] w (fun e w' => MountR w g D e w' ∧ Below w.heap.size w w') := by
  have href := refused_o g gl D w h
  by_cases hr : D.refused = 0
  · have hlen : 16 ≤ D.secs.length := by
      unfold DiskD.refused at hr
      by_cases hq : D.secs.length < 16
      · rw [if_pos hq] at hr; omega
      · omega
    have hle := h.len
    have HR0 := Lib.hid hr
    rw [hr] at href
    clear hr
    refine (callsIn_wide (n := 5)).1 ?_
    refine callsIn_of_wp_marks Tryd.func9 rfl trivial ?_ rfl
    simp only [Tryd.ntmps9, List.size_toArray, List.length_cons, List.length_nil, Nat.reduceAdd, Nat.reduceSub, Array.replicate_succ, Array.replicate_zero, List.push_toArray, List.append_toArray, List.nil_append, List.cons_append]
    refine wpIn_wide.2 ?_
    go_wp2_with fail
    refine wp_scope_straight ?_
    go_wp2_with fail
    refine href.mono ?_
    rintro e _ ⟨rfl, rfl⟩
    go_wp2_with fail
    refine wp_label ?_
    go_wp2_with fail
    refine (records_o _ ⟨_, rfl⟩ _).mono ?_
    rintro e w2 ⟨rfl, hw2⟩
    have HW2 := Lib.hid hw2
    clear hw2
    go_wp2_with fail
    have hw2 := HW2.out
    clear HW2
    have hs2 : w2.heap.size = w.heap.size + 2 := by rw [hw2]; simp
    have hc2 : w2.heap[w.heap.size]? = some (.cells #[.int .i64 (-1)] 3 (0, 0)) := by rw [hw2]; exact ((below_alloc (w.alloc (.cells #[.int .i64 (-1)] 3)) _).block _ (by simp)).trans (heap_alloc_new w _)
    have hp2 : w2.heap[w.heap.size + 1]? = some (.cells #[.pointer (some ⟨g, 0, none⟩)] 35 (0, 0)) := by rw [hw2]; have := heap_alloc_new (w.alloc (.cells #[.int .i64 (-1)] 3)) (.cells #[.pointer (some ⟨g, 0, none⟩)] 35); simpa using this
    have hb2 : Below w.heap.size w w2 := by rw [hw2]; exact (below_alloc w _).alloc (by simp) _
    clear hw2
    have h2 := h.below hb2
    have hK0 := hK.pos
    have hst := recs_told (5 - 1) (by decide) (w.heap.size + 1) w.heap.size g gl D w2 h2 (hK.below hb2 hK0) ⟨_, _, hc2⟩ (by omega) hp2 (by omega) hb0 hb1
    have hkb0 : KbC w2 w.heap.size w2 w2 := ⟨Nat.le_refl _, fun _ _ _ => rfl⟩
    refine (wpIn_wide (n := 5)).1 ?_
    try simp only [World.size_alloc]
    refine wpIn_range_told (F := Fence.wide) (n := 5) rfl (by decide) (gf := 43) (lb := #[.pointer (some ⟨w.heap.size + 1, 0, none⟩)]) rfl trivial (enters_of Tryd.func43 (by kernel_rfl) rfl) hst (fun A B h => h.elim) Kb.trans
      (fun W l o o' hl hh _ _ => Kb.put (fun k hk => hk.1) W l o o' hl hh) (Below.refl _ _) (fun _ => rfl) (gr_put D)
      (fun pre W => RMt w w2 w.heap.size D pre.length W ∧ Below w.heap.size w W) (fun _ _ => False)
      (fun s A B _ h => h.elim) ?iI (fun _ _ _ _ h => h.elim) ⟨⟨by simp, hc2, hkb0⟩, hb2⟩ ?a1 ?assign ?body ?done ?stop
    case iI =>
      refine OwnFrom.and (fun s A B row hs hg hr => ⟨hs.le, heap_turn hs.cm hg (fun r e => (hr r e).2), hs.kb.trans ⟨hg.size, fun k hk hl => hg.block k hl (fun e => by have := (hr k e.symm).1; have := hk.1; omega)⟩⟩) (ownFrom_below (Nat.le_refl _) (by omega))
    case assign =>
      intro l x W K hK
      gi_wp2
      exact hK
    case body =>
      rintro l' pre ⟨xi, xb⟩ W ⟨⟨hle2, hcm, hkb⟩, hbW⟩ ⟨hlt, hx⟩
      have hx1 : xi = (hdN (D.at_ pre.length) : Nat) := congrArg Prod.fst hx
      have hx2 : xb = whole (D.at_ pre.length) pre.length := congrArg Prod.snd hx
      subst hx1
      clear hx
      have cc : W.cell? ⟨w.heap.size, 0, none⟩ = some (.int .i64 (cmt D pre.length)) := cell_of_row _ _ 0 _ 3 (0, 0) hcm
      have fc : W.frozen? ⟨w.heap.size, 0, none⟩ = false := frozen_of_row _ _ 0 _ 3 hcm
      have hstep : cmt D (pre.length + 1) = if xb then max (cmt D pre.length) (hdN (D.at_ pre.length) : Nat) else cmt D pre.length := by rw [hx2]; rfl
      have HS := Lib.hid hstep
      clear hstep hx2
      cases xb with
      | false =>
        gi_wp2
        exact ⟨KeepsOthers.of_grownBy (World.grownBy.refl W none) (by simp), ⟨Nat.le_refl _, fun _ _ _ => rfl⟩, ⟨by simp; omega, by rw [List.length_append]; exact hcm.trans (by rw [show pre.length + [((hdN (D.at_ pre.length) : Int), false)].length = pre.length + 1 from rfl, HS.out]; rfl), hkb⟩, hbW⟩
      | true =>
        have hfin : ∀ u : Int, u = max (cmt D pre.length) (hdN (D.at_ pre.length) : Nat) → roundLeft (KbC w2 w.heap.size) (fun (pre : List (Int × Bool)) W => RMt w w2 w.heap.size D pre.length W ∧ Below w.heap.size w W)
            (fun x x_1 => False) (pre ++ [((hdN (D.at_ pre.length) : Int), true)]) W Exit.normal { tmps := #[], defers := [] } (W.setCell ⟨w.heap.size, 0, none⟩ (.int .i64 u)) := fun u hu => by
          have hcell := heap_setCell_same W w.heap.size 0 _ 3 (.int .i64 u) hcm
          refine ⟨KeepsOthers.setCell _ _ _, ⟨by simp, fun k hk _ => heap_setCell_other _ _ _ _ hk.2⟩, ⟨by simp; omega, ?_, hkb.trans ⟨by simp, fun k hk _ => heap_setCell_other _ _ _ _ hk.2⟩⟩, hbW.setCell (p := ⟨w.heap.size, 0, none⟩) (Nat.le_refl _) _⟩
          rw [List.length_append, show pre.length + [((hdN (D.at_ pre.length) : Int), true)].length = pre.length + 1 from rfl, HS.out, hcell, hu]
          rfl
        have HF := Lib.hid hfin
        clear hfin
        gi_wp2
        all_goals exact HF.out _ (by omega)
    case done =>
      rintro D' ys W hD hys ⟨⟨hle2, hcm, hkb⟩, hbW⟩ hK'
      rw [show ys.length = 2 from hys] at hcm
      have hD' : D' < W.heap.size := (Array.getElem?_eq_some_iff.1 hK').1
      have cc : W.cell? ⟨w.heap.size, 0, none⟩ = some (.int .i64 (mountC D)) := cell_of_row _ _ 0 _ 3 (0, 0) hcm
      have cd : W.drew.cell? ⟨w.heap.size, 0, none⟩ = some (.int .i64 (mountC D)) := cc
      have hdW := (h2.kb hkb hc2).below (below_drew W)
      have hKd : W.drew.heap[D']? = some (.deferred (some [])) := hK'
      have hMR : ∀ e w', MountR w g D e w' = (if mountC D < 0 then e = .returned (.tuple #[.pointer none, .int .i64 5])
          else ∃ v, e = .returned (.tuple #[.pointer (some ⟨v, 0, none⟩), .int .i64 0]) ∧ w.heap.size ≤ v ∧ VolAt w' v g ((D.secs.length - 8) / 2) (mountC D) false) := fun e w' => by
        unfold MountR
        rw [if_neg (by rw [HR0.out]; simp)]
      have HM := Lib.hid hMR
      clear hMR hcm
      by_cases hneg : mountC D < 0
      · go_wp2_with fail
        refine ⟨by simp, .inl ⟨_, _, rfl, run_takeDeferred hK', ?_⟩⟩
        refine ⟨_, results_tmp2 rfl _ _ _, ?_, hbW.grown (grownBy_putObj' _ D' _) hbW.size (fun k e => by cases e; omega)⟩
        rw [HM.out, if_pos hneg]
        rfl
      · have hneg' : 0 ≤ mountC D := by omega
        have hvn : ((D.secs.length : Int) - 8) / 2 = (((D.secs.length - 8) / 2 : Nat) : Int) := by omega
        have HV := Lib.hid hvn
        clear hvn hneg
        go_wp2_with fail
        refine wp_region_seg [6, 7] [[0, 1, 5, 2], [3, 4, 6, 7, 8, 9]] (by kernel_rfl) (by kernel_rfl) ?_
        simp only [Seg, pick_cons, pick_nil, List.getElem?_toArray, List.getElem?_cons_zero, List.getElem?_cons_succ, Option.toList_some, List.cons_append, List.nil_append]
        have hbd := below_drew W
        generalize W.drew = wd at *
        go_wp2_with fail
        refine (sectors_o g gl D wd hdW).mono ?_
        rintro e _ ⟨rfl, rfl⟩
        go_wp2_with fail
        refine Fin.intro ⟨by kernel_rfl, Old.refl _, ?_⟩
        go_wp2_with fail
        refine Fin.intro ⟨by kernel_rfl, ?_⟩
        go_wp2_with fail
        rw [Exit.noGoto_ret, HV.out]
        have hbv := below_alloc wd (.cells #[.pointer (some ⟨g, 0, none⟩), .int .i64 (((D.secs.length - 8) / 2 : Nat) : Int), .int .i64 (mountC D), .bool false] 65)
        have hkv := heap_alloc_new wd (.cells #[.pointer (some ⟨g, 0, none⟩), .int .i64 (((D.secs.length - 8) / 2 : Nat) : Int), .int .i64 (mountC D), .bool false] 65)
        generalize wd.alloc (.cells #[.pointer (some ⟨g, 0, none⟩), .int .i64 (((D.secs.length - 8) / 2 : Nat) : Int), .int .i64 (mountC D), .bool false] 65) = wv at hbv hkv ⊢
        have hDv : D' < wd.heap.size := (Array.getElem?_eq_some_iff.1 hKd).1
        have hKv := (hbv.block D' hDv).trans hKd
        have hbw : Below w.heap.size w wv := (hbW.trans (hbd.mono hbW.size)).trans (hbv.mono (Nat.le_trans hbW.size hbd.size))
        refine ⟨by simp, .inl ⟨_, _, rfl, run_takeDeferred hKv, ?_⟩⟩
        refine ⟨_, results_tmp2 rfl _ _ _, ?_, hbw.grown (grownBy_putObj' _ D' _) hbw.size (fun k e => by cases e; omega)⟩
        rw [HM.out, if_neg (by omega)]
        exact ⟨wd.heap.size, rfl, Nat.le_trans hbW.size hbd.size, (World.putObj_heap_other (by omega)).trans hkv⟩
    case stop =>
      rintro D' pre W hD hF hK'
      exact hF.elim
  · refine Calls.mono (R := fun e w' => e = .returned (.tuple #[.pointer none, .int .i64 D.refused]) ∧ w = w') ?_ ?_
    · go_enter Tryd.func9, Tryd.ntmps9
      go_wp2_with fail
      refine wp_scope_straight ?_
      go_wp2_with fail
      refine href.mono ?_
      rintro e _ ⟨rfl, rfl⟩
      go_wp2_with fail
      rw [Exit.noGoto_ret]
      refine bodyPost_ret (results_tmp2 rfl _ _ _) rfl ?_
      exact ⟨rfl, rfl⟩
    · rintro e _ ⟨rfl, rfl⟩
      refine ⟨?_, Below.refl _ _⟩
      unfold MountR
      rw [if_pos hr]
end Go.Proofs.YtbjbjnbloddioaaDoor
