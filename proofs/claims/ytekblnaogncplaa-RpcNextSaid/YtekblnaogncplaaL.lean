/- The reference: a frame, attributes. -/
import Derived.Test.YtekblnaogncplaaK
set_option linter.unusedVariables false
set_option linter.unusedSimpArgs false
namespace Go.Proofs.Ytekblnaogncplaa
open Go.RowKit

set_option maxRecDepth 100000 in
set_option maxHeartbeats 400000 in
theorem rframe_o (l : List UInt8) (A : Option Addr) (c : Nat) (w : World) (h : Rd w A (bvs l)) (hl : l.length ≤ 100000000) :
    Calls Try.prog 29 #[.slice A l.length c] w (fun e w' => Gives w w' e (oframe (some l))) := by
  by_cases hbig : 262144 < l.length
  · have hb' : (262144 : Int) < (l.length : Int) := by omega
    go_enter Try.func29, Try.ntmps29
    go_wp2
    go_ret2
    have e : oframe (some l) = none := by simp [oframe, hbig]
    rw [e]
    exact ⟨none, 0, rfl, Nat.le_refl _, World.ownsRow_nil _ _ _ _, Below.refl _ _⟩
  · have hb' : (l.length : Int) ≤ 262144 := by omega
    go_enter Try.func29, Try.ntmps29
    go_wp2_with fail
    refine (num_o l.length 4 (.inr rfl) (by omega) w).mono ?_
    rintro e w1 ⟨A1, rfl, ho1, hb1⟩
    have h1 := h.below hb1
    go_wp2_with (at_builtin; refine Stop.out ?_)
    refine Stop.mk ?_
    refine wpList_app _ rfl (.tmp 9) (.tmp 10) 22 rfl 5 (.int .u8 0) 1 1 w.heap.size Try.underlying22 info5 rfl (by omega) (.slice A1 4 4) 4 (bvs (be l.length 4)) rfl ho1 A l.length c (bvs l) rfl (by simp [bvs_length]) h1 (bvs_one _) (by omega) (by omega) hb1.size ?_
    intro A' c' w2 ho2 hg hat
    go_wp2
    go_ret2
    have e : oframe (some l) = some (be l.length 4 ++ l) := by simp [oframe, hbig]
    rw [e]
    have e2 : (be l.length 4 ++ l).length = 4 + l.length := by simp [be_length]
    refine ⟨A', c', by simp [e2], by rw [Option.getD_some, e2]; exact (own_cap ho2).2.1, by rw [Option.getD_some, e2, bvs_append]; exact ho2, ?_⟩
    exact hb1.grown hg hb1.size (fun k hk => (ho1.lt k hk).1)

theorem oattr_some (l : List UInt8) (a : AttrD) : oattr (some l) a = if a.1 < 0 ∨ 65535 < a.1 ∨ 16384 < a.2.length then none else some (l ++ be a.1.toNat 2 ++ be a.2.length 2 ++ a.2) := by
  unfold oattr obytes oput
  simp only [Option.bind_some]
  by_cases h1 : a.1 < 0 ∨ a.1 > 65535
  · have h2 : a.1 < 0 ∨ 65535 < a.1 ∨ 16384 < a.2.length := by omega
    rw [if_pos h1, if_pos h2]
    rfl
  · rw [if_neg h1]
    simp only [Option.bind_some]
    by_cases h3 : 16384 < a.2.length
    · have h2 : a.1 < 0 ∨ 65535 < a.1 ∨ 16384 < a.2.length := by omega
      rw [if_pos h2, if_pos (by omega)]
      rfl
    · have h2 : ¬ (a.1 < 0 ∨ 65535 < a.1 ∨ 16384 < a.2.length) := by omega
      rw [if_neg h2, if_neg (by omega)]
      simp

set_option maxRecDepth 100000 in
set_option maxHeartbeats 1600000 in
theorem rattrsW_o (L : List AttrD) (Al : Option Addr) (cl : Nat) (w : World) (hL : AtU w w.heap.size Al L) (hl : L.length ≤ 1000000000) (hM : ∀ a ∈ L, a.2.length ≤ 1000000000) :
    Calls Try.prog 27 #[.slice Al L.length cl] w (fun e w' => Gives w w' e (oattrs (some []) L)) := by
  by_cases hbig : 64 < L.length
  · have hb' : (64 : Int) < (L.length : Int) := by omega
    go_enter Try.func27, Try.ntmps27
    go_wp2
    go_ret2
    have e : oattrs (some []) L = none := by unfold oattrs oput; rw [Option.bind_some, if_pos (by omega)]; exact foldl_none _
    rw [e]
    exact ⟨none, 0, rfl, Nat.le_refl _, World.ownsRow_nil _ _ _ _, Below.refl _ _⟩
  · have hb' : (L.length : Int) ≤ 64 := by omega
    have e0 : oput (some []) L.length 1 64 = some (be L.length 1) := by unfold oput; rw [Option.bind_some, if_neg (by omega)]; rfl
    go_enter Try.func27, Try.ntmps27
    go_wp2_with fail
    go_loopw [4, 5] (fun v i wr => ∃ k : Nat, k ≤ L.length ∧ i = .int .i64 k ∧ ∃ A c l, v = .slice A l.length c ∧ (L.take k).foldl oattr (oput (some []) L.length 1 64) = some l ∧ l.length ≤ 1 + k * 16388 ∧
        wr.ownsRow w.heap.size 5 1 (.slice A l.length c) l.length (bvs l) ∧ Below w.heap.size w wr) (fun _ i _ => L.length - (intOf i).toNat)
    case atStart =>
      refine ⟨0, by omega, rfl, some ⟨w.heap.size, 0, none⟩, 1, be L.length 1, rfl, e0, by simp [be_length], ?_, below_alloc _ _⟩
      have hl1 : bvs (be L.length 1) = [.int .u8 (L.length : Int)] := by simp [be, bvs, bv]; omega
      rw [hl1, be_length]
      exact World.ownsRow_lit w #[.int .u8 (L.length : Int)] 1 (Nat.le_refl _) (by simp [maxLen]) rfl
    case round =>
      obtain ⟨k, hk, rfl, A, c, l, rfl, hf, hlen, ho, hb⟩ := hrel
      by_cases hlt : k < L.length
      · obtain ⟨ga, oa, hA, hU, hy1, Av, cv, hy2, hcv, hrv⟩ := hL k L[k].1 L[k].2 (by simp [hlt])
        subst hA
        have hx1 := (hb.cell (p := ⟨ga, oa + k * 2, none⟩) hU).trans hy1
        have hx2 := (hb.cell (p := ⟨ga, oa + k * 2 + 1, none⟩) hU).trans hy2
        have hMk := hM L[k] (List.getElem_mem hlt)
        have hsplit : (L.take (k + 1)).foldl oattr (oput (some []) L.length 1 64) = oattr (some l) L[k] := by rw [List.take_succ_eq_append_getElem hlt, List.foldl_append, hf]; rfl
        by_cases ht0 : L[k].1 < 0
        · have hnone : oattrs (some []) L = none := by
            unfold oattrs
            rw [foldl_split _ _ L (k + 1), hsplit, oattr_some, if_pos (by omega)]
            exact foldl_none _
          clear hsplit hf
          go_wp2_with fail
          go_ret2
          rw [hnone]
          exact ⟨none, 0, rfl, Nat.le_refl _, World.ownsRow_nil _ _ _ _, hb⟩
        · by_cases ht1 : 65535 < L[k].1
          · have ht0' : 0 ≤ L[k].1 := by omega
            clear ht0
            have hnone : oattrs (some []) L = none := by
              unfold oattrs
              rw [foldl_split _ _ L (k + 1), hsplit, oattr_some, if_pos (by omega)]
              exact foldl_none _
            clear hsplit hf
            go_wp2_with fail
            go_ret2
            rw [hnone]
            exact ⟨none, 0, rfl, Nat.le_refl _, World.ownsRow_nil _ _ _ _, hb⟩
          · by_cases hv : 16384 < L[k].2.length
            · have ht0' : 0 ≤ L[k].1 := by omega
              have ht1' : L[k].1 ≤ 65535 := by omega
              have hv' : (16384 : Int) < (L[k].2.length : Int) := by omega
              have hnone : oattrs (some []) L = none := by
                unfold oattrs
                rw [foldl_split _ _ L (k + 1), hsplit, oattr_some, if_pos (by omega)]
                exact foldl_none _
              clear hsplit hf ht0 ht1 hv
              go_wp2_with fail
              go_ret2
              rw [hnone]
              exact ⟨none, 0, rfl, Nat.le_refl _, World.ownsRow_nil _ _ _ _, hb⟩
            · have ht0' : 0 ≤ L[k].1 := by omega
              have ht1' : L[k].1 ≤ 65535 := by omega
              have hv' : (L[k].2.length : Int) ≤ (16384 : Int) := by omega
              have hsome : (L.take (k + 1)).foldl oattr (oput (some []) L.length 1 64) = some (l ++ be L[k].1.toNat 2 ++ be L[k].2.length 2 ++ L[k].2) := by
                rw [hsplit, oattr_some, if_neg (by omega)]
              have HS := Lib.hid hsome
              clear hsome hsplit hf ht0 ht1 hv
              have hti : ((L[k].1.toNat : Nat) : Int) = L[k].1 := Int.toNat_of_nonneg ht0'
              go_wp2_with fail
              rw [← hti]
              refine (num_o L[k].1.toNat 2 (.inl rfl) (by omega) wr).mono ?_
              rintro e w1 ⟨A1, rfl, ho1, hb1⟩
              rw [hti]
              have hb1' := hb.trans (hb1.mono hb.size)
              have ho' := own_below ho hb1
              clear hx1 hx2 ho hb
              go_wp2_with (at_builtin; refine Stop.out ?_)
              refine Stop.mk ?_
              refine wpList_app _ rfl (.tmp 52) (.tmp 53) 22 rfl 5 (.int .u8 0) 1 1 w.heap.size Try.underlying22 info5 rfl (by omega) (.slice A l.length c) l.length (bvs l) rfl ho' A1 2 2 (bvs (be L[k].1.toNat 2)) rfl (by simp [bvs_length, be_length]) (Rd.own ho1) (bvs_one _) (by omega) (by omega) hb1'.size ?_
              intro A2 c2 w2 ho2 hg2 hat2
              have hb2 := hb1'.grown hg2 hb1'.size (fun k hk => (ho'.lt k hk).1)
              clear hg2 hat2 ho1 ho' hb1 hb1'
              rw [← bvs_append] at ho2
              go_wp2_with fail
              refine (num_o L[k].2.length 2 (.inl rfl) (by omega) w2).mono ?_
              rintro e w3 ⟨A3, rfl, ho3, hb3⟩
              have hb3' := hb2.trans (hb3.mono hb2.size)
              have ho3' := own_below ho2 hb3
              clear ho2 hb2
              go_wp2_with (at_builtin; refine Stop.out ?_)
              refine Stop.mk ?_
              refine wpList_app _ rfl (.tmp 57) (.tmp 58) 22 rfl 5 (.int .u8 0) 1 1 w.heap.size Try.underlying22 info5 rfl (by omega) (.slice A2 (l.length + 2) c2) (l.length + 2) (bvs (l ++ be L[k].1.toNat 2)) rfl ho3' A3 2 2 (bvs (be L[k].2.length 2)) rfl (by simp [bvs_length, be_length]) (Rd.own ho3) (bvs_one _) (by omega) (by omega) hb3'.size ?_
              intro A4 c4 w4 ho4 hg4 hat4
              have hb4 := hb3'.grown hg4 hb3'.size (fun k hk => (ho3'.lt k hk).1)
              clear hg4 hat4 ho3 ho3' hb3 hb3'
              rw [← bvs_append] at ho4
              have hx2 := (hb4.cell (p := ⟨ga, oa + k * 2 + 1, none⟩) hU).trans hy2
              go_wp2_with (at_builtin; refine Stop.out ?_)
              refine Stop.mk ?_
              refine wpList_app _ rfl (.tmp 60) (.tmp 65) 22 rfl 5 (.int .u8 0) 1 1 w.heap.size Try.underlying22 info5 rfl (by omega) (.slice A4 (l.length + 2 + 2) c4) (l.length + 2 + 2) (bvs (l ++ be L[k].1.toNat 2 ++ be L[k].2.length 2)) rfl ho4 Av L[k].2.length cv (bvs L[k].2) rfl (by simp [bvs_length]) (hrv.below hb4).rd (bvs_one _) (by omega) (by omega) hb4.size ?_
              intro A5 c5 w5 ho5 hg5 hat5
              have hb5 := hb4.grown hg5 hb4.size (fun k hk => (ho4.lt k hk).1)
              clear hg5 hat5 ho4 hb4 hx2
              rw [← bvs_append] at ho5
              go_wp2_with fail
              go_roundw
              case rel =>
                have e5 : (l ++ be L[k].1.toNat 2 ++ be L[k].2.length 2 ++ L[k].2).length = l.length + 2 + 2 + L[k].2.length := by simp [be_length]; omega
                refine ⟨k + 1, hlt, by go_num, A5, c5, _, by rw [e5], HS.out, by rw [e5]; omega, by rw [e5]; exact ho5, hb5⟩
              case measure => simp [intOf]; omega
      · obtain rfl : k = L.length := by omega
        rw [List.take_length] at hf
        have hfin : oattrs (some []) L = some l := hf
        go_wp2_with fail
        go_ret2
        rw [hfin]
        exact ⟨A, c, rfl, (own_cap ho).2.1, ho, hb⟩
end Go.Proofs.Ytekblnaogncplaa
