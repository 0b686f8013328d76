/- Attributes and calls, cut. -/
import Derived.Test.YtekblnaogncplaaJ
set_option linter.unusedVariables false
set_option linter.unusedSimpArgs false
namespace Go.Proofs.Ytekblnaogncplaa
open Go.RowKit

def cutA (n : Nat) (L : List AttrD) : List AttrD := (L.take 14).map fun a => (a.1, a.2.take n)

set_option maxRecDepth 100000 in
set_option maxHeartbeats 1600000 in
theorem cutA_o (n : Nat) (hn : n ≤ 1000000) (L : List AttrD) (Al : Option Addr) (cl : Nat) (w : World) (hL : AtU w w.heap.size Al L) (hl : L.length ≤ 9223372036854775807) :
    Calls Try.prog 18 #[.slice Al L.length cl, .int .i64 14, .int .i64 (n : Int)] w (fun e w' =>
      (∃ A c xs, e = .returned (.slice A (cutA n L).length c) ∧ (cutA n L).length ≤ c ∧ w'.ownsRow w.heap.size 50 2 (.slice A (cutA n L).length c) (cutA n L).length xs ∧ AtRow w' w.heap.size xs (cutA n L)) ∧ Below w.heap.size w w') := by
  go_enter Try.func18, Try.ntmps18
  go_wp2_with fail
  go_loopw [7, 8] (fun v i wr => ∃ k : Nat, k ≤ L.length ∧ k ≤ 14 ∧ i = .int .i64 k ∧ ∃ A c xs, v = .slice A k c ∧ k ≤ c ∧ wr.ownsRow w.heap.size 50 2 (.slice A k c) k xs ∧ AtRow wr w.heap.size xs ((L.take k).map fun a => (a.1, a.2.take n)) ∧
      Below w.heap.size w wr) (fun _ i _ => 14 - (intOf i).toNat)
  case atStart => exact ⟨0, by omega, by omega, rfl, none, 0, [], rfl, Nat.le_refl _, World.ownsRow_nil _ _ _ _, AtRow.nil_ _ _, Below.refl _ _⟩
  case round =>
    obtain ⟨k, hk, hk14, rfl, A, c, xs, rfl, hkc, ho, hat, hb⟩ := hrel
    have hdone : ¬ (k < L.length ∧ k < 14) → (L.take k).map (fun a => (a.1, a.2.take n)) = cutA n L := fun h => by
      unfold cutA
      rcases Nat.lt_or_ge k 14 with h14 | h14
      · have : L.length ≤ k := by omega
        rw [List.take_of_length_le this, List.take_of_length_le (by omega)]
      · rw [show k = 14 by omega]
    have hklen : ((L.take k).map (fun a : AttrD => (a.1, a.2.take n))).length = k := by simp; omega
    by_cases hlt : k < L.length
    · by_cases h14 : k < 14
      · obtain ⟨ga, oa, hA, hU, hx1, Av, cv, hx2, hcv, hrv⟩ := (hL.below hb) k L[k].1 L[k].2 (by simp [hlt])
        subst hA
        clear hdone
        go_wp2_with fail
        refine wp_region_seg [14, 15, 16] [[0, 1, 2, 3, 4, 5, 6, 7, 8, 9, 10, 11, 12], [13], [14, 15, 16, 17]] (by kernel_rfl) (by kernel_rfl) ?_
        simp only [Seg, pick_cons, pick_nil, List.getElem?_toArray, List.getElem?_cons_zero, List.getElem?_cons_succ, Option.toList_some, List.cons_append, List.nil_append]
        go_wp2_with fail
        have hsl : (L[k].2.take n).length ≤ cv := by simp; omega
        have hrt : Rd wr.drew Av (bvs (L[k].2.take n)) := by
          have := hrv.rd.take n
          rw [show (bvs L[k].2).take n = bvs (L[k].2.take n) by simp [bvs]] at this
          exact fun j u hu => this j u hu
        have hvl : (L[k].2.take n).length ≤ 1000000 := by simp; omega
        have hsplit : (L.take (k + 1)).map (fun a => (a.1, a.2.take n)) = (L.take k).map (fun a => (a.1, a.2.take n)) ++ [(L[k].1, L[k].2.take n)] := by
          rw [List.take_succ_eq_append_getElem hlt, List.map_append]; rfl
        have HS := Lib.hid hsplit
        clear hsplit
        have hsh := short_o L[k].2 n (by omega) Av cv wr.drew (fun j u hu => hrv.rd j u hu) hcv
        generalize hv : L[k].2.take n = v at hsl hrt hvl HS hsh
        clear hv
        refine hsh.mono ?_
        rintro e w1 ⟨rfl, rfl⟩
        clear hsh
        go_wp2_with fail
        refine Fin.intro ⟨by kernel_rfl, Old.refl _, ?_⟩
        generalize ht : L[k].1 = t at hx1 HS ⊢
        clear ht hx1 hx2 hcv hrv
        go_wp2_with (at_builtin; refine Stop.out ?_)
        refine Stop.mk ?_
        refine wpList_app _ rfl (.const (.slice none 0 0)) (.tmp 32) 22 rfl 5 (.int .u8 0) 1 1 wr.heap.size Try.underlying22 info5 rfl (by omega) (.slice none 0 0) 0 [] rfl (World.ownsRow_nil _ _ _ _) Av v.length cv (bvs v) rfl (by simp [bvs_length]) hrt (bvs_one _) (by omega) (by omega) (Nat.le_refl _) ?_
        intro A1 c1 w1 ho1 hg1 hat1
        have hb1 : Below wr.heap.size wr w1 := of_drew ((Below.refl wr.drew.heap.size wr.drew).grown hg1 (Nat.le_refl _) (fun k hk => by simp [Value.ownBlock] at hk))
        have hb1' := hb.trans (hb1.mono hb.size)
        have hon := own_below ho hb1
        have hatn := hat.kept (grown_of_below (g := none) hb1) (by simp)
        have ho1' := own_less ho1 hb.size
        simp only [Nat.zero_add, List.nil_append] at ho1'
        have hc1 := (own_cap ho1').2.1
        clear hat1 hg1 ho hat ho1
        go_wp2_with fail
        refine Fin.intro ⟨by kernel_rfl, hb1.block, ?_⟩
        clear hb1
        go_wp2_with (at_builtin; refine Stop.out ?_)
        refine Stop.mk ?_
        refine wpList_app _ rfl (.tmp 20) (.tmp 35) 25 rfl 50 (.agg #[.int .i64 0, .slice none 0 0]) 2 32 w.heap.size Try.underlying25 info50 rfl (by omega) (.slice A k c) k xs rfl (own_below hon (below_alloc _ _)) _ 1 _ _ rfl (by rfl) (Rd.lit _ _ _) (by simp [Value.oneCell']) (by omega) (by omega) (by simp; exact Nat.le_trans hb1'.size (Nat.le_succ _)) ?_
        intro A' c' w5 ho5 hg5 hat5
        have hgb : ∀ r, (Value.slice A k c).ownBlock = some r → w.heap.size ≤ r := fun r hr => (hon.lt r hr).1
        have hb2 : Below w.heap.size w (w1.alloc (.cells #[.int .i64 t, .slice A1 v.length c1] 50)) := hb1'.trans ((below_alloc w1 _).mono hb1'.size)
        have hb3 := hb2.grown hg5 hb2.size hgb
        have hat6 := ((hatn.snoc t v A1 c1 hc1 ho1').kept (grown_of_below (g := none) (below_alloc w1 (.cells #[.int .i64 t, .slice A1 v.length c1] 50))) (by simp)).kept hg5 (fun r hr cs fr he => by
          rcases (own_below hon (below_alloc w1 (.cells #[.int .i64 t, .slice A1 v.length c1] 50))).2 with ⟨e1, _⟩ | ⟨g', cap, cur, e1, _, hh, _⟩
          · rw [e1] at hr; simp [Value.ownBlock] at hr
          · rw [e1] at hr
            have : g' = r := by simpa [Value.ownBlock] using hr
            subst this
            rw [hh] at he
            injection he with he
            injection he with _ ht _
            exact absurd ht (by decide))
        clear hg5 hat5 hatn hon ho1' hb1' hb2
        go_wp2_with fail
        refine Fin.intro ⟨by kernel_rfl, ?_⟩
        go_wp2_with fail
        go_roundw
        case rel =>
          refine ⟨k + 1, hlt, h14, by go_num, A', c', _, rfl, by have := (own_cap ho5).2.1; omega, ho5, by rw [HS.out]; exact hat6, hb3⟩
        case measure => simp [intOf]; omega
      · have hd := hdone (by omega)
        have h14' : ¬ (k : Int) < 14 := by omega
        rw [hd] at hklen hat
        subst hklen
        clear hdone hd
        go_wp2_with fail
        go_ret
        first | exact ⟨⟨A, c, rfl, hkc, xs, ho, hat⟩, hb⟩ | exact ⟨⟨A, c, xs, rfl, hkc, ho, hat⟩, hb⟩
    · have hd := hdone (by omega)
      rw [hd] at hklen hat
      subst hklen
      clear hdone hd
      go_wp2_with fail
      go_ret
      first | exact ⟨⟨A, c, rfl, hkc, xs, ho, hat⟩, hb⟩ | exact ⟨⟨A, c, xs, rfl, hkc, ho, hat⟩, hb⟩
end Go.Proofs.Ytekblnaogncplaa
