/- A volume: Blocks, Commits, Read. -/
import Derived.Test.YtbjbjnbloddioaaDoorFk
set_option linter.unusedVariables false
set_option linter.unusedSimpArgs false
namespace Go.Proofs.YtbjbjnbloddioaaDoor
open Go.RowKit Go.Shelf

set_option maxRecDepth 100000 in
theorem blocks_nil (w : World) : Calls Tryd.prog 12 #[.pointer none] w (fun e w' => e = .returned (.int .i64 0) ∧ w = w') := by
  go_enter Tryd.func12, Tryd.ntmps12
  go_wp2_with fail
  go_ret
  exact ⟨rfl, rfl⟩
set_option maxRecDepth 100000 in
theorem blocks_o (v g b : Nat) (c : Int) (br : Bool) (w : World) (h : VolAt w v g b c br) : Calls Tryd.prog 12 #[.pointer (some ⟨v, 0, none⟩)] w (fun e w' => e = .returned (.int .i64 (b : Int)) ∧ w = w') := by
  have c1 : w.cell? ⟨v, 1, none⟩ = some (.int .i64 (b : Int)) := cell_of_row _ v 1 _ 65 (0, 0) h
  go_enter Tryd.func12, Tryd.ntmps12
  go_wp2_with fail
  go_ret
  exact ⟨rfl, rfl⟩
set_option maxRecDepth 100000 in
theorem commits_nil (w : World) : Calls Tryd.prog 14 #[.pointer none] w (fun e w' => e = .returned (.int .i64 0) ∧ w = w') := by
  go_enter Tryd.func14, Tryd.ntmps14
  go_wp2_with fail
  go_ret
  exact ⟨rfl, rfl⟩
set_option maxRecDepth 100000 in
theorem commits_o (v g b : Nat) (c : Int) (br : Bool) (w : World) (h : VolAt w v g b c br) : Calls Tryd.prog 14 #[.pointer (some ⟨v, 0, none⟩)] w (fun e w' => e = .returned (.int .i64 c) ∧ w = w') := by
  have c2 : w.cell? ⟨v, 2, none⟩ = some (.int .i64 c) := cell_of_row _ v 2 _ 65 (0, 0) h
  go_enter Tryd.func14, Tryd.ntmps14
  go_wp2_with fail
  go_ret
  exact ⟨rfl, rfl⟩
set_option maxRecDepth 100000 in
theorem vread_nil (i : Nat) (w : World) : Calls Tryd.prog 13 #[.pointer none, .int .i64 (i : Int)] w (fun e w' => e = .returned (.slice none 0 0) ∧ w = w') := by
  go_enter Tryd.func13, Tryd.ntmps13
  go_wp2_with fail
  refine (blocks_nil _).mono ?_
  rintro e _ ⟨rfl, rfl⟩
  go_wp2_with fail
  go_ret
  exact ⟨rfl, rfl⟩
set_option maxRecDepth 100000 in
theorem vread_out (v g b : Nat) (c : Int) (br : Bool) (i : Int) (hi : i < 0 ∨ (b : Int) ≤ i) (w : World) (h : VolAt w v g b c br) :
    Calls Tryd.prog 13 #[.pointer (some ⟨v, 0, none⟩), .int .i64 i] w (fun e w' => e = .returned (.slice none 0 0) ∧ w = w') := by
  by_cases h0 : i < 0
  · go_enter Tryd.func13, Tryd.ntmps13
    go_wp2_with fail
    go_ret
    exact ⟨rfl, rfl⟩
  · have h1 : (b : Int) ≤ i := by omega
    go_enter Tryd.func13, Tryd.ntmps13
    go_wp2_with fail
    refine (blocks_o v g b c br w h).mono ?_
    rintro e _ ⟨rfl, rfl⟩
    go_wp2_with fail
    go_ret
    exact ⟨rfl, rfl⟩
/-- A side's place of a block. -/
def sideN (b c i : Nat) : Nat := 8 + c % 2 * b + i
theorem sideN_lt {b c i n : Nat} (hi : i < b) (hn : 8 + 2 * b ≤ n) : sideN b c i < n := by
  unfold sideN
  rcases Nat.mod_two_eq_zero_or_one c with h | h <;> rw [h] <;> omega
set_option maxRecDepth 100000 in
set_option maxHeartbeats 1600000 in
theorem vread_o (v g gl b c : Nat) (br : Bool) (D : DiskD) (i : Nat) (hi : i < b) (hb : b ≤ 1000000) (hc : c ≤ 1000000) (s : SecD) (hs : D.secs[sideN b c i]? = some s) (w : World) (h : VolAt w v g b (c : Int) br) (hD : DiskAt w g gl D) :
    Calls Tryd.prog 13 #[.pointer (some ⟨v, 0, none⟩), .int .i64 (i : Int)] w (fun e w' => ∃ A cc, e = .returned (.slice A 256 cc) ∧ 256 ≤ cc ∧ w'.ownsRow w.heap.size 5 1 (.slice A 256 cc) 256 (bvs s.now) ∧ Below w.heap.size w w') := by
  have hii : ¬ (b : Int) ≤ (i : Int) := by omega
  go_enter Tryd.func13, Tryd.ntmps13
  go_wp2_with fail
  refine (blocks_o v g b c br w h).mono ?_
  rintro e _ ⟨rfl, rfl⟩
  go_wp2_with fail
  refine wp_region_seg [14] [[0, 1, 2, 3, 4, 5, 6, 7, 8, 9, 10, 11, 12, 13], [14, 15]] (by kernel_rfl) (by kernel_rfl) ?_
  simp only [Seg, pick_cons, pick_nil, List.getElem?_toArray, List.getElem?_cons_zero, List.getElem?_cons_succ, Option.toList_some, List.cons_append, List.nil_append]
  have hbd := below_drew w
  have hv : VolAt w.drew v g b (c : Int) br := h
  have hDd := hD.below hbd
  generalize w.drew = wd at *
  have c0 : wd.cell? ⟨v, 0, none⟩ = some (.pointer (some ⟨g, 0, none⟩)) := cell_of_row _ v 0 _ 65 (0, 0) hv
  have c1 : wd.cell? ⟨v, 1, none⟩ = some (.int .i64 (b : Int)) := cell_of_row _ v 1 _ 65 (0, 0) hv
  have c2 : wd.cell? ⟨v, 2, none⟩ = some (.int .i64 (c : Int)) := cell_of_row _ v 2 _ 65 (0, 0) hv
  go_wp2_with fail
  refine (side_o b c i hb (by omega) (by omega) wd).mono ?_
  rintro e _ ⟨rfl, rfl⟩
  go_wp2_with fail
  refine Fin.intro ⟨by kernel_rfl, Old.refl _, ?_⟩
  go_wp2_with fail
  refine (read_o g gl D (sideN b c i) s hs wd hDd).mono ?_
  rintro e w1 ⟨A, cc, rfl, hcc, ho, hb1⟩
  go_wp2_with fail
  refine Fin.intro ⟨by kernel_rfl, ?_⟩
  go_wp2_with fail
  go_ret
  exact ⟨A, cc, rfl, hcc, own_less ho hbd.size, hbd.trans (hb1.mono hbd.size)⟩
end Go.Proofs.YtbjbjnbloddioaaDoor
