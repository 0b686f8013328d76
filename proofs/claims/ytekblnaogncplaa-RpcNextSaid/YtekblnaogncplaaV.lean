/- Bodies: the iterator. -/
import Derived.RangeFuncNested
import Derived.RangeFuncBound
import Derived.RangeFuncCalls
import Derived.RangeFuncLeaves
import Derived.RangeFuncFrom
import Derived.Shelf.Abstract
import Derived.Shelf.RegionOpen
import Derived.WalkKit
import Derived.OwnWalkIn
import Derived.TacticsInMore
import Derived.LoopNIn
import Derived.LoopIn
import Derived.Test.YtekblnaogncplaaT
set_option linter.unusedVariables false
set_option linter.unusedSimpArgs false
namespace Go.Proofs.Ytekblnaogncplaa
open Go.RowKit Go.Shelf
attribute [local go_sem] Oper.semAt_some

theorem next_nil : nextOf [] = ([], 0, true) := rfl
set_option maxRecDepth 100000 in
set_option maxHeartbeats 1600000 in
/-- The iterator's function, the bytes being one frame. -/
theorem one_in (n : Nat) (hn : 1 ≤ n) (l Bx n₀ : Nat) (b body : List UInt8) (A : Option Addr) (c : Nat) (hbody : nextOf b = (body, b.length, true)) (hpos : 0 < b.length) (hsm : b.length ≤ 1000000) (hc : b.length ≤ c)
    (J Jx : List (Int × Value) → World → Prop) (W : World) (hJ : AbidesFrom W.heap.size J)
    (hY : ∀ pre x W, J pre W → pre.length < 1 → YieldAt Fence.wide (n - 1) Try.prog l #[.int .i64 x.1, x.2] W fun e W' =>
      (e = .returned (.bool true) ∧ J (pre ++ [x]) W' ∧ Below n₀ W W') ∨ (e = .returned (.bool false) ∧ Jx (pre ++ [x]) W'))
    (hBx : W.cell? ⟨Bx, 0, none⟩ = some (.slice A b.length c)) (hBn : Bx < n₀) (hn₀ : n₀ ≤ W.heap.size) (hrd : RdU W n₀ A (bvs b)) (h0 : J [] W) :
    CallsIn Fence.wide n Try.prog 37 #[.func (.yield l) #[] #[], .pointer (some ⟨Bx, 0, none⟩)] W fun e W' => (∃ v, e = .returned v) ∧
      ((∃ ys, ys.length = 1 ∧ J ys W') ∨ (∃ pre, True ∧ Jx pre W')) := by
  obtain ⟨g, o, rfl⟩ : ∃ g o, A = some ⟨g, o, none⟩ := hrd.rd.some_ (by simpa [bvs_length] using hpos)
  refine callsIn_of_wp Try.func37 rfl trivial ?_ rfl
  simp only [Try.ntmps37, List.size_toArray, List.length_cons, List.length_nil, Nat.reduceAdd, Nat.reduceSub, Array.replicate_succ, Array.replicate_zero, List.push_toArray, List.append_toArray, List.nil_append, List.cons_append]
  refine wpIn_wide.2 (wp_scope_straight ((wpIn_wide (n := n)).1 ?_))
  gi_wp2
  refine wpIn_label ?_
  gi_wp2
  gi_loopw [3] (fun i wr => ∃ k : Nat, k ≤ 1 ∧ i = .int .i64 ((k * b.length : Nat) : Int) ∧ (∃ pre, pre.length = k ∧ J pre wr) ∧ Below n₀ W wr)
    (fun i _ => 1 - (intOf i).toNat)
  case atStart => exact ⟨0, by omega, by simp, ⟨[], rfl, h0⟩, Below.refl _ _⟩
  case round =>
    obtain ⟨k, hk, rfl, ⟨pre, hpre, hJs⟩, hb⟩ := hrel
    have hcell := (hb.cell (p := ⟨Bx, 0, none⟩) hBn).trans hBx
    have hrdk := hrd.below hb
    rcases Nat.eq_zero_or_pos k with rfl | hkp
    · have hnx := next_o b (some ⟨g, o, none⟩) c wr hrdk.rd (by omega) hc
      rw [hbody] at hnx
      gi_wp2_with (refine ⟨trivial, ?_⟩; gi_at_call 14; refine (callsIn_wide.2 hnx).mono ?_; refine Stop.out ?_)
      refine Stop.mk ?_
      rintro e w2 B2 d2 rfl hd2 ho2 hb2
      have hJ2 : J pre w2 := hJ pre wr w2 none hJs (grown_of_below hb2) (by simp)
      have hb3 := hb.trans (hb2.mono (Nat.le_trans hn₀ hb.size))
      obtain ⟨fn, tmps, asg, bdy, hy, hR⟩ := hY pre ((0 : Int), Value.slice B2 body.length d2) w2 hJ2 (by omega)
      dsimp only at hy
      clear hnx
      gi_wp2
      refine hR.mono ?_
      rintro e W3 (⟨rfl, hJ3, hk3⟩ | ⟨rfl, hJx3⟩)
      · gi_wp2
        go_roundw
        case rel => exact ⟨1, by omega, by go_num, ⟨_, by simp [hpre], hJ3⟩, hb3.trans hk3⟩
        case measure => simp [intOf]; omega
      · gi_wp2
        rw [Exit.noGoto_ret]
        refine bodyPost_ret (results_none rfl _ _ _) rfl ?_
        exact ⟨⟨_, rfl⟩, .inr ⟨_, trivial, hJx3⟩⟩
    · obtain rfl : k = 1 := by omega
      have hlc : (b.length : Int) ≤ (c : Int) := by omega
      have e1 : ((1 * b.length : Nat) : Int) = (b.length : Int) := by omega
      rw [e1]
      clear e1
      have hnx : Calls Try.prog 14 #[.slice (some ⟨g, if c = b.length then o else o + b.length, none⟩) 0 (c - b.length)] wr _ := next_o [] (some ⟨g, if c = b.length then o else o + b.length, none⟩) (c - b.length) wr Rd.nil_ (by simp) (by simp)
      rw [next_nil] at hnx
      by_cases hce : c = b.length
      · rw [if_pos hce] at hnx
        subst hce
        rw [Nat.sub_self] at hnx
        gi_wp2_with (refine ⟨trivial, ?_⟩; gi_at_call 14; refine (callsIn_wide.2 hnx).mono ?_; refine Stop.out ?_)
        refine Stop.mk ?_
        rintro e w2 B2 d2 rfl ho2 hb2
        have hJ2 : J pre w2 := hJ pre wr w2 none hJs (grown_of_below hb2) (by simp)
        clear hnx
        gi_wp2
        rw [Exit.noGoto_normal]
        go_end0
        exact ⟨⟨_, rfl⟩, .inl ⟨_, hpre, hJ2⟩⟩
      · rw [if_neg hce] at hnx
        gi_wp2_with (refine ⟨trivial, ?_⟩; gi_at_call 14; refine (callsIn_wide.2 hnx).mono ?_; refine Stop.out ?_)
        refine Stop.mk ?_
        rintro e w2 B2 d2 rfl ho2 hb2
        have hJ2 : J pre w2 := hJ pre wr w2 none hJs (grown_of_below hb2) (by simp)
        clear hnx
        gi_wp2
        rw [Exit.noGoto_normal]
        go_end0
        exact ⟨⟨_, rfl⟩, .inl ⟨_, hpre, hJ2⟩⟩
end Go.Proofs.Ytekblnaogncplaa
