/- FsNone. -/
import Derived.Test.YtbjbjnbloddioaaDoorLb
set_option linter.unusedVariables false
set_option linter.unusedSimpArgs false
namespace Go.Proofs.YtbjbjnbloddioaaDoor
open Go.RowKit Go.Shelf

set_option maxRecDepth 100000 in
set_option maxHeartbeats 1600000 in
theorem fsNone_o (w : World) (hK : Kg w) : Calls Tryd.prog 3 #[] w (fun e w' => e = .returned (.bool true) ∧ Below w.heap.size w w') := by
  obtain ⟨i, hi, hz, hs, hby⟩ := info_parts info5
  go_enter Tryd.func3, Tryd.ntmps3
  go_wp2_with fail
  refine (format_nil _).mono ?_
  rintro e _ ⟨rfl, rfl⟩
  go_wp2_with fail
  refine (mount_nil _).mono ?_
  rintro e _ ⟨rfl, rfl⟩
  go_wp2_with (at_make; refine Stop.out ?_)
  refine Stop.mk ?_
  refine wpList_make_row w rfl _ _ 28 rfl 5 i (.int .u8 0) Tryd.underlying28 hi hz hs rfl .i64 .i64 256 rfl rfl (by rw [hby]; omega) (by omega) ?_
  have hb1 := below_alloc w (.cells (madeCells #[.int .u8 0] 256) 5)
  generalize w.alloc (.cells (madeCells #[.int .u8 0] 256) 5) = w1 at hb1 ⊢
  go_wp2_with fail
  refine (commit_nil _ _).mono ?_
  rintro e _ ⟨rfl, rfl⟩
  have hb2 := hb1.trans ((below_alloc w1 (.cells #[.int .i64 0, .slice (some ⟨w.heap.size, 0, none⟩) 256 256] 30)).mono hb1.size)
  have HB2 := Lib.hid hb2
  clear hb2
  go_wp2_with fail
  refine (begun_o _ (hK.below HB2.out hK.pos)).mono ?_
  rintro e w3 ⟨rfl, hb3⟩
  have hb3w : Below w.heap.size w w3 := HB2.out.trans (hb3.mono HB2.out.size)
  go_wp2_with fail
  refine (blocks_nil _).mono ?_
  rintro e _ ⟨rfl, rfl⟩
  go_wp2_with fail
  refine (vread_nil 0 _).mono ?_
  rintro e _ ⟨rfl, rfl⟩
  go_wp2_with fail
  refine (commits_nil _).mono ?_
  rintro e _ ⟨rfl, rfl⟩
  go_wp2_with fail
  go_ret
  exact ⟨rfl, hb3w⟩
end Go.Proofs.YtbjbjnbloddioaaDoor
