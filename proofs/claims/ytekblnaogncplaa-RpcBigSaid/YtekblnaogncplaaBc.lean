/- RpcBig, walked. -/
import Derived.Test.YtekblnaogncplaaBe
set_option linter.unusedVariables false
set_option linter.unusedSimpArgs false
namespace Go.Proofs.Ytekblnaogncplaa
open Go.RowKit

theorem gives_none {w w' : World} {e : Ending} (h : Gives w w' e none) : ∃ A c, e = .returned (.tuple #[.slice A 0 c, .bool false]) ∧ Below w.heap.size w w' := by
  obtain ⟨A, c, he, _, _, hb⟩ := h
  exact ⟨A, c, he, hb⟩

/-- So many attributes have their values. -/
def BigAt (w0 wr : World) (k : Nat) : Prop := ∃ xs, wr.ownsRow w0.heap.size 50 2 (.slice (some ⟨w0.heap.size, 0, none⟩) 17 17) 17 xs ∧ AtRow wr w0.heap.size xs (fillA (0, zs 16384) (0, []) 17 k) ∧ Below w0.heap.size w0 wr
theorem made_own (w : World) (n base : Nat) (hb : base ≤ w.heap.size) (hn : n ≤ maxLen) : (w.alloc (.cells (madeCells #[.int .u8 0] n) 5)).ownsRow base 5 1 (.slice (some ⟨w.heap.size, 0, none⟩) n n) n (bvs (zs n)) := by
  have := World.ownsRow_lit (base := base) (e := 5) (size := 1) w (madeCells #[.int .u8 0] n) n hb hn (by rw [size_madeCells]; omega)
  rw [toList_madeCells_one] at this
  simpa [bvs, zs, bv] using this
theorem BigAt.step {w0 wr : World} {k : Nat} (h : BigAt w0 wr k) (hk : k < 17) :
    BigAt w0 ((wr.alloc (.cells (madeCells #[.int .u8 0] 16384) 5)).setCell ⟨w0.heap.size, k * 2 + 1, none⟩ (.slice (some ⟨wr.heap.size, 0, none⟩) 16384 16384)) (k + 1) := by
  obtain ⟨xs, ho, hat, hb⟩ := h
  have ho1 := ho.alloc (.cells (madeCells #[.int .u8 0] 16384) 5)
  have hat1 := hat.kept (grown_of_below (g := none) (below_alloc wr (.cells (madeCells #[.int .u8 0] 16384) 5))) (by simp)
  have hz : (wr.alloc (.cells (madeCells #[.int .u8 0] 16384) 5)).ownsRow w0.heap.size 5 1 (.slice (some ⟨wr.heap.size, 0, none⟩) 16384 16384) 16384 (bvs (zs 16384)) := by
    exact made_own wr 16384 w0.heap.size hb.size (by simp [maxLen])
  have hl : (zs 16384).length = 16384 := zs_length _
  have hs := hat1.set k 0 [] (zs 16384) (fillA_at _ _ 17 k hk) (some ⟨wr.heap.size, 0, none⟩) 16384 (by rw [hl]; exact Nat.le_refl _) (by rw [hl]; exact hz)
  rw [fillA_set _ _ _ _ hk, hl] at hs
  obtain ⟨h1, h2⟩ := ho1.stored (k * 2 + 1) (.slice (some ⟨wr.heap.size, 0, none⟩) 16384 16384)
  refine ⟨_, h1, hs.kept h2 (fun g hg cs fr he => ?_), ?_⟩
  · injection hg with hg
    subst hg
    rcases ho1.2 with ⟨e1, _⟩ | ⟨g', cap, cur, e1, _, hh, _⟩
    · cases e1
    · injection e1 with e1 _ _
      injection e1 with e1
      injection e1 with e1 _
      subst e1
      rw [hh] at he
      injection he with he
      injection he with _ ht _
      exact absurd ht (by decide)
  · exact (hb.alloc hb.size _).setCell (Nat.le_refl _) _
theorem BigAt.cell {w0 wr : World} {k : Nat} (h : BigAt w0 wr k) (hk : k < 17) : (∃ u, wr.cell? ⟨w0.heap.size, k * 2 + 1, none⟩ = some u) ∧ wr.frozen? ⟨w0.heap.size, k * 2 + 1, none⟩ = false ∧ w0.heap.size < wr.heap.size := by
  obtain ⟨xs, ho, hat, hb⟩ := h
  obtain ⟨h1, Av, cv, h2, h3, h4⟩ := hat.at_ k 0 [] (fillA_at _ _ 17 k hk)
  exact ⟨⟨_, (ho.cellAt (k * 2 + 1) (by omega)).trans h2⟩, ho.frozenAt _, (ho.lt _ rfl).2⟩
theorem next_lit (l : List UInt8) (A : Option Addr) (n : Nat) (hn : l.length = n) (w : World) (h : Rd w A (bvs l)) (hl : n ≤ 1000000000) :
    Calls Try.prog 14 #[.slice A n n] w (fun e w' => ∃ B d, e = .returned (.tuple #[.slice B (nextOf l).1.length d, .int .i64 ((nextOf l).2.1 : Int), .bool (nextOf l).2.2]) ∧ Below w.heap.size w w') := by
  subst hn
  refine (next_o l A l.length w h hl (Nat.le_refl _)).mono ?_
  rintro e w' ⟨B, d, he, _, _, hb⟩
  exact ⟨B, d, he, hb⟩
theorem next_far : nextOf [0, 4, 0, 1] = ([], 0, false) := by decide +kernel
theorem next_near : nextOf [0, 4, 0, 0] = ([], 0, true) := by decide +kernel

set_option maxRecDepth 100000 in
set_option maxHeartbeats 3200000 in
theorem rpcBig_o (w : World) : Calls Try.prog 5 #[] w (fun e w' => e = .returned (.bool true) ∧ Below w.heap.size w w') := by
  obtain ⟨i, hi, hz, hs, hby⟩ := info_parts info5
  obtain ⟨j, hj, hjz, hjs, hjb⟩ := info_parts info50
  obtain ⟨m, hm, hmz, hms, hmb⟩ := info_parts info3
  go_enter Try.func5, Try.ntmps5
  go_wp2_with (at_make; refine Stop.out ?_)
  refine Stop.mk ?_
  refine wpList_make_row w rfl _ _ 22 rfl 5 i (.int .u8 0) Try.underlying22 hi hz hs rfl .i64 .i64 65537 rfl rfl (by rw [hby]; omega) (by omega) ?_
  have hr1 := made_rd w 65537
  have hb1 := below_alloc w (.cells (madeCells #[.int .u8 0] 65537) 5)
  generalize w.alloc (.cells (madeCells #[.int .u8 0] 65537) 5) = w1 at hr1 hb1 ⊢
  go_wp2_with fail
  refine (data_o 65537 (by omega) w1 _ hr1).mono ?_
  intro e w2 hG
  rw [data_none _ (by rw [zs_length]; omega)] at hG
  obtain ⟨A2, c2, rfl, hb2⟩ := gives_none hG
  have hb2 := hb1.trans (hb2.mono hb1.size)
  clear hG hr1 hb1
  go_wp2_with (at_make; refine Stop.out ?_)
  refine Stop.mk ?_
  refine wpList_make_row w2 rfl _ _ 22 rfl 5 i (.int .u8 0) Try.underlying22 hi hz hs rfl .i64 .i64 65536 rfl rfl (by rw [hby]; omega) (by omega) ?_
  have hr3 := made_rd w2 65536
  have hb3 := hb2.trans ((below_alloc w2 (.cells (madeCells #[.int .u8 0] 65536) 5)).mono hb2.size)
  generalize w2.alloc (.cells (madeCells #[.int .u8 0] 65536) 5) = w3 at hr3 hb3 ⊢
  clear hb2
  go_wp2_with fail
  refine (data_o 65536 (by omega) w3 _ hr3).mono ?_
  intro e w4 hG
  have hsome := data_some (zs 65536) (zs_length _)
  generalize encCall (dataCall (zs 65536)) = r4 at hG hsome
  obtain ⟨A4, c4, rfl, _, _, hb4⟩ := hG
  rw [hsome]
  generalize (r4.getD []).length = n4
  have hb4 := hb3.trans (hb4.mono hb3.size)
  clear hr3 hb3 hsome
  go_wp2_with (at_make; refine Stop.out ?_)
  refine Stop.mk ?_
  refine wpList_make_row w4 rfl _ _ 22 rfl 5 i (.int .u8 0) Try.underlying22 hi hz hs rfl .i64 .i64 65536 rfl rfl (by rw [hby]; omega) (by omega) ?_
  have hr5 := made_rd w4 65536
  have hb5 := hb4.trans ((below_alloc w4 (.cells (madeCells #[.int .u8 0] 65536) 5)).mono hb4.size)
  generalize w4.alloc (.cells (madeCells #[.int .u8 0] 65536) 5) = w5 at hr5 hb5 ⊢
  clear hb4
  go_wp2_with fail
  refine (more_o 65536 (by omega) w5 _ hr5).mono ?_
  intro e w6 hG
  rw [more_none _ (by rw [zs_length]; omega)] at hG
  obtain ⟨A6, c6, rfl, hb6⟩ := gives_none hG
  have hb6 := hb5.trans (hb6.mono hb5.size)
  clear hG hr5 hb5
  go_wp2_with (at_make; refine Stop.out ?_)
  refine Stop.mk ?_
  refine wpList_make_full w6 rfl _ _ 25 rfl w6.heap.size 50 j (.agg #[.int .i64 0, .slice none 0 0]) 2 Try.underlying25 hj hjz hjs .i64 .i64 65 65 65 rfl rfl rfl rfl (by rw [hjb]; omega) (by decide) (Nat.le_refl _) ?_
  intro w7 ho7 hg7
  have hr7 := (zattrs_row (w := w7) (base := w6.heap.size) (n := 65) (by rw [Array.length_toList, size_madeCells])).atU (A := some ⟨w6.heap.size, 0, none⟩) (c := 65) (by rw [zattrs_length]; exact ho7)
  have hb7 : Below w.heap.size w w7 := hb6.trans ⟨hg7.os, hg7.tape, hg7.output, hg7.size, fun k hk => hg7.block k (Nat.lt_of_lt_of_le hk hb6.size) (by simp)⟩
  clear ho7 hg7 hb6
  go_wp2_with fail
  refine (attr_o (zattrs 65) 65 65 (zattrs_length _) (by omega) (by simp [zattrs]) (Nat.le_refl _) w7 _ hr7).mono ?_
  intro e w8 hG
  rw [attr_none _ (by rw [zattrs_length]; omega)] at hG
  obtain ⟨A8, c8, rfl, hb8⟩ := gives_none hG
  have hb8 := hb7.trans (hb8.mono hb7.size)
  clear hG hr7 hb7
  go_wp2_with (at_make; refine Stop.out ?_)
  refine Stop.mk ?_
  refine wpList_make_row w8 rfl _ _ 45 rfl 3 m (.int .i64 0) Try.underlying45 hm hmz hms rfl .i64 .i64 1025 rfl rfl (by rw [hmb]; omega) (by omega) ?_
  have hr9 := made_ints w8 1025
  have hb9 := hb8.trans ((below_alloc w8 (.cells (madeCells #[.int .i64 0] 1025) 3)).mono hb8.size)
  generalize w8.alloc (.cells (madeCells #[.int .i64 0] 1025) 3) = w9 at hr9 hb9 ⊢
  clear hb8
  go_wp2_with fail
  refine (list_o 1025 (by omega) w9 _ hr9).mono ?_
  intro e w10 hG
  rw [list_none _ (by show 1024 < (zints 1025).length; rw [zints_length]; omega)] at hG
  obtain ⟨A10, c10, rfl, hb10⟩ := gives_none hG
  have hb10 := hb9.trans (hb10.mono hb9.size)
  clear hG hr9 hb9
  go_wp2_with (at_make; refine Stop.out ?_)
  refine Stop.mk ?_
  refine wpList_make_row w10 rfl _ _ 22 rfl 5 i (.int .u8 0) Try.underlying22 hi hz hs rfl .i64 .i64 16385 rfl rfl (by rw [hby]; omega) (by omega) ?_
  have hr11 := made_rd w10 16385
  have hb11 := hb10.trans ((below_alloc w10 (.cells (madeCells #[.int .u8 0] 16385) 5)).mono hb10.size)
  have hz11 : w10.heap.size < (w10.alloc (.cells (madeCells #[.int .u8 0] 16385) 5)).heap.size := by simp
  generalize w10.alloc (.cells (madeCells #[.int .u8 0] 16385) 5) = w11 at hr11 hb11 hz11 ⊢
  clear hb10
  go_wp2_with fail
  refine (rattr_o [(0, zs 16385)] 1 1 rfl (by omega) (by simp [zs]) (Nat.le_refl _) _ _ (one_atu w11 (zs 16385) 16385 (zs_length _) _ hr11)).mono ?_
  intro e w12 hG
  rw [value_none _ (0, zs 16385) (by simp) (by rw [zs_length]; omega)] at hG
  obtain ⟨A12, c12, rfl, hb12⟩ := gives_none hG
  have hb12 := (hb11.trans ((below_alloc w11 (.cells #[.int .i64 0, .slice (some ⟨w10.heap.size, 0, none⟩) 16385 16385] 50)).mono hb11.size)).trans (hb12.mono (Nat.le_trans hb11.size (by simp)))
  clear hG hr11 hb11 hz11
  go_wp2_with (at_make; refine Stop.out ?_)
  refine Stop.mk ?_
  refine wpList_make_full w12 rfl _ _ 25 rfl w12.heap.size 50 j (.agg #[.int .i64 0, .slice none 0 0]) 2 Try.underlying25 hj hjz hjs .i64 .i64 17 17 17 rfl rfl rfl rfl (by rw [hjb]; omega) (by decide) (Nat.le_refl _) ?_
  intro w13 ho13 hg13
  have hB0 : BigAt w12 w13 0 := ⟨_, ho13, zattrs_row (w := w13) (base := w12.heap.size) (n := 17) (by rw [Array.length_toList, size_madeCells]), ⟨hg13.os, hg13.tape, hg13.output, hg13.size, fun k hk => hg13.block k hk (by simp)⟩⟩
  clear ho13 hg13
  go_wp2_with fail
  go_loopw [14] (fun x wr => ∃ k : Nat, k ≤ 17 ∧ x = .int .i64 k ∧ BigAt w12 wr k) (fun x _ => 17 - (intOf x).toNat)
  case atStart => exact ⟨0, by omega, rfl, hB0⟩
  case round =>
    obtain ⟨k, hk, rfl, hBk⟩ := hrel
    clear hB0
    by_cases hlt : k < 17
    · obtain ⟨⟨u0, hc0⟩, hf0, hz0⟩ := hBk.cell hlt
      have hst := hBk.step hlt
      go_wp2_with (at_make; refine Stop.out ?_)
      refine Stop.mk ?_
      refine wpList_make_row wr rfl _ _ 22 rfl 5 i (.int .u8 0) Try.underlying22 hi hz hs rfl .i64 .i64 16384 rfl rfl (by rw [hby]; omega) (by omega) ?_
      have hbw := below_alloc wr (.cells (madeCells #[.int .u8 0] 16384) 5)
      have hc1 := (hbw.cell (p := ⟨w12.heap.size, k * 2 + 1, none⟩) hz0).trans hc0
      have hf1 := (hbw.frozen (p := ⟨w12.heap.size, k * 2 + 1, none⟩) hz0).trans hf0
      generalize wr.alloc (.cells (madeCells #[.int .u8 0] 16384) 5) = w14 at hst hc1 hf1 ⊢
      clear hbw hc0 hf0 hBk
      go_wp2_with fail
      go_roundw
      case rel => exact ⟨k + 1, hlt, by go_num, hst⟩
      case measure => simp [intOf]; omega
    · obtain rfl : k = 17 := by omega
      obtain ⟨xs, ho, hat, hb14⟩ := hBk
      have hL : (fillA (0, zs 16384) (0, []) 17 17).length = 17 := fillA_length _ _ _ _ (Nat.le_refl _)
      have hU := hat.atU (A := some ⟨w12.heap.size, 0, none⟩) (c := 17) (by rw [hL]; exact ho)
      have hv : ∀ a ∈ fillA (0, zs 16384) (0, []) 17 17, a.2.length = 16384 := fun a ha => by
        have : a = (0, zs 16384) := by simpa [fillA] using ha
        rw [this]
        exact zs_length _
      have hbw := hb12.trans (hb14.mono hb12.size)
      have hno := many_none _ hL (fun a ha => by rw [hv a ha]; exact Nat.le_refl _)
      clear ho hat hb14 hb12
      have HL := Lib.hid hL
      have HV := Lib.hid hv
      have HN := Lib.hid hno
      clear hL hv hno
      go_wp2_with fail
      refine (attr_o _ 17 17 HL.out (by omega) (fun a ha => by rw [HV.out a ha]; omega) (Nat.le_refl _) wr _ hU).mono ?_
      intro e w15 hG
      rw [HN.out] at hG
      obtain ⟨A15, c15, rfl, hb15⟩ := gives_none hG
      have hb15 := hbw.trans (hb15.mono hbw.size)
      clear hG hU HL HV HN hbw
      go_wp2_with fail
      have hb16 := hb15.trans ((below_alloc w15 (.cells #[.int .u8 0, .int .u8 4, .int .u8 0, .int .u8 1] 5)).mono hb15.size)
      refine (next_lit [0, 4, 0, 1] _ 4 rfl _ (Rd.lit w15 #[.int .u8 0, .int .u8 4, .int .u8 0, .int .u8 1] 5) (by omega)).mono ?_
      rintro e w17 ⟨B17, d17, rfl, hb17⟩
      have hb17 := hb16.trans (hb17.mono hb16.size)
      rw [next_far]
      clear hb16 hb15
      go_wp2_with fail
      have hb18 := hb17.trans ((below_alloc w17 (.cells #[.int .u8 0, .int .u8 4, .int .u8 0, .int .u8 0] 5)).mono hb17.size)
      refine (next_lit [0, 4, 0, 0] _ 4 rfl _ (Rd.lit w17 #[.int .u8 0, .int .u8 4, .int .u8 0, .int .u8 0] 5) (by omega)).mono ?_
      rintro e w19 ⟨B19, d19, rfl, hb19⟩
      have hb19 := hb18.trans (hb19.mono hb18.size)
      rw [next_near]
      clear hb18 hb17
      go_wp2_with fail
      refine (begun_o _).mono ?_
      rintro e w20 ⟨rfl, hb20⟩
      have hb20 := hb19.trans (hb20.mono hb19.size)
      clear hb19
      go_wp2_with fail
      go_ret
      exact ⟨rfl, hb20⟩
end Go.Proofs.Ytekblnaogncplaa
