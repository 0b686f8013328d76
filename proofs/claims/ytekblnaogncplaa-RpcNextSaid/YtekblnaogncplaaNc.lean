/- Bodies: the iterator, over any bytes. -/
import Derived.Test.YtekblnaogncplaaNa
import Derived.Test.YtekblnaogncplaaV
set_option linter.unusedVariables false
set_option linter.unusedSimpArgs false
namespace Go.Proofs.Ytekblnaogncplaa
open Go.RowKit Go.Shelf
attribute [local go_sem] Oper.semAt_some

theorem next_le (l : List UInt8) : (nextOf l).2.1 ≤ l.length := by
  unfold nextOf
  split
  · simp
  · dsimp only
    split
    · simp
    · split
      · simp
      · dsimp only
        omega
theorem next_ok (l : List UInt8) (h : (nextOf l).2.1 ≠ 0) : (nextOf l).2.2 = true := by
  unfold nextOf at h ⊢
  split
  · rfl
  · dsimp only
    rename_i h4
    rw [if_neg h4] at h
    dsimp only at h
    split
    · rename_i hb
      rw [if_pos hb] at h
      exact absurd rfl h
    · split <;> rfl
/-- How far k frames reach. -/
def off (l : List UInt8) : Nat → Nat
  | 0 => 0
  | k + 1 => off l k + (nextOf (l.drop (off l k))).2.1
theorem off_le (l : List UInt8) : ∀ k, off l k ≤ l.length
  | 0 => Nat.zero_le _
  | k + 1 => by
    have h1 := off_le l k
    have h2 := next_le (l.drop (off l k))
    rw [List.length_drop] at h2
    show off l k + _ ≤ _
    omega
/-- What is handed over behind so many frames. -/
def GN (l : List UInt8) (pre : List (Int × Value)) (x : Int × Value) (W : World) : Prop :=
  x.1 = (off l pre.length : Int) ∧ (nextOf (l.drop (off l pre.length))).2.1 ≠ 0 ∧ ∃ A c, x.2 = .slice A (nextOf (l.drop (off l pre.length))).1.length c ∧ Rd W A (bvs (nextOf (l.drop (off l pre.length))).1)
/-- Next, of bytes cut. -/
theorem next_cut (f : Nat) (hf : ∀ (l : List UInt8) (A : Option Addr) (cp : Nat) (w : World), Rd w A (bvs l) → l.length ≤ 1000000000 → l.length ≤ cp →
      Calls Try.prog f #[.slice A l.length cp] w (fun e w' => ∃ B d, e = .returned (.tuple #[.slice B (nextOf l).1.length d, .int .i64 ((nextOf l).2.1 : Int), .bool (nextOf l).2.2]) ∧ (nextOf l).1.length ≤ d ∧
        w'.ownsRow w.heap.size 5 1 (.slice B (nextOf l).1.length d) (nextOf l).1.length (bvs (nextOf l).1) ∧ Below w.heap.size w w'))
    (b : List UInt8) (A : Option Addr) (c t : Nat) (w : World) (h : Rd w A (bvs b)) (hl : b.length ≤ 100000000) (hc : b.length ≤ c) (ht : t ≤ b.length) (A' : Option Addr) (hA : A' = Option.map (fun x => x.add t) A ∨ t = c) :
    Calls Try.prog f #[.slice A' (b.length - t) (c - t)] w (fun e w' => ∃ B d, e = .returned (.tuple #[.slice B (nextOf (b.drop t)).1.length d, .int .i64 ((nextOf (b.drop t)).2.1 : Int), .bool (nextOf (b.drop t)).2.2]) ∧ (nextOf (b.drop t)).1.length ≤ d ∧
      w'.ownsRow w.heap.size 5 1 (.slice B (nextOf (b.drop t)).1.length d) (nextOf (b.drop t)).1.length (bvs (nextOf (b.drop t)).1) ∧ Below w.heap.size w w') := by
  have hdl : (b.drop t).length = b.length - t := by simp
  have hr : Rd w A' (bvs (b.drop t)) := by
    rcases hA with rfl | rfl
    · have := h.drop t
      rwa [show (bvs b).drop t = bvs (b.drop t) by simp [bvs]] at this
    · have : b.drop t = [] := List.drop_of_length_le hc
      rw [this]
      exact Rd.nil_
  have := hf (b.drop t) A' (c - t) w hr (by omega) (by omega)
  rwa [hdl] at this

set_option maxRecDepth 100000 in
set_option maxHeartbeats 1600000 in
theorem bodies_in (n : Nat) (hn : 1 ≤ n) (l' Bx n₀ : Nat) (b : List UInt8) (A : Option Addr) (c : Nat) (hsm : b.length ≤ 100000000) (hc : b.length ≤ c)
    (J Jx : List (Int × Value) → World → Prop) (W : World) (hJ : AbidesFrom W.heap.size J)
    (hY : ∀ pre x W, J pre W → GN b pre x W → YieldAt Fence.wide (n - 1) Try.prog l' #[.int .i64 x.1, x.2] W fun e W' =>
      (e = .returned (.bool true) ∧ J (pre ++ [x]) W' ∧ Below n₀ W W') ∨ (e = .returned (.bool false) ∧ Jx (pre ++ [x]) W'))
    (hBx : W.cell? ⟨Bx, 0, none⟩ = some (.slice A b.length c)) (hBn : Bx < n₀) (hn₀ : n₀ ≤ W.heap.size) (hrd : RdU W n₀ A (bvs b)) (h0 : J [] W) :
    CallsIn Fence.wide n Try.prog 37 #[.func (.yield l') #[] #[], .pointer (some ⟨Bx, 0, none⟩)] W fun e W' => (∃ v, e = .returned v) ∧
      ((∃ ys, (nextOf (b.drop (off b ys.length))).2.1 = 0 ∧ J ys W') ∨ (∃ pre, Jx pre W')) := by
  refine callsIn_of_wp Try.func37 rfl trivial ?_ rfl
  simp only [Try.ntmps37, List.size_toArray, List.length_cons, List.length_nil, Nat.reduceAdd, Nat.reduceSub, Array.replicate_succ, Array.replicate_zero, List.push_toArray, List.append_toArray, List.nil_append, List.cons_append]
  refine wpIn_wide.2 (wp_scope_straight ((wpIn_wide (n := n)).1 ?_))
  gi_wp2
  refine wpIn_label ?_
  gi_wp2
  gi_loopw [3] (fun i wr => ∃ k : Nat, i = .int .i64 (off b k : Int) ∧ (∃ pre, pre.length = k ∧ J pre wr) ∧ Below n₀ W wr)
    (fun i _ => b.length - (intOf i).toNat)
  case atStart => exact ⟨0, rfl, ⟨[], rfl, h0⟩, Below.refl _ _⟩
  case round =>
    obtain ⟨k, rfl, ⟨pre, hpre, hJs⟩, hb⟩ := hrel
    have hcell := (hb.cell (p := ⟨Bx, 0, none⟩) hBn).trans hBx
    have hrdk := hrd.below hb
    have hole := off_le b k
    have hoff : off b (k + 1) = off b k + (nextOf (b.drop (off b k))).2.1 := rfl
    have hnle := next_le (b.drop (off b k))
    have hnok := next_ok (b.drop (off b k))
    rw [List.length_drop] at hnle
    have hGN : GN b pre = fun x W => x.1 = (off b k : Int) ∧ (nextOf (b.drop (off b k))).2.1 ≠ 0 ∧ ∃ A c, x.2 = .slice A (nextOf (b.drop (off b k))).1.length c ∧ Rd W A (bvs (nextOf (b.drop (off b k))).1) := by
      rw [← hpre]; rfl
    have hend : ∀ ys : List (Int × Value), ys.length = k → (nextOf (b.drop (off b k))).2.1 = 0 → (nextOf (b.drop (off b ys.length))).2.1 = 0 := fun ys h h2 => by rw [h]; exact h2
    have hYk := hY pre
    rw [hGN] at hYk
    generalize off b k = t at hole hoff hnle hnok hYk hend ⊢
    have hti : (t : Int) ≤ (b.length : Int) := by omega
    have hnx := next_cut 14 next_o b A c t wr hrdk.rd hsm hc hole
    generalize nextOf (b.drop t) = nx at hoff hnle hnok hYk hend hnx
    obtain ⟨body, m, ok⟩ := nx
    dsimp only at hoff hnle hnok hYk hend hnx
    have HO := Lib.hid hoff
    have HY := Lib.hid hYk
    have HEN := Lib.hid hend
    have HOK := Lib.hid hnok
    clear hGN hoff hYk hY hend hnok
    by_cases hce : c = t
    · obtain rfl : t = b.length := by omega
      have hnx := hnx A (.inr hce.symm)
      subst hce
      obtain rfl : m = 0 := by omega
      rw [Nat.sub_self] at hnx
      have hz := HEN.out pre hpre rfl
      have HZ := Lib.hid hz
      clear hz HEN HO hnle HOK HY
      cases ok
      all_goals
        gi_wp2_with (refine ⟨trivial, ?_⟩; gi_at_call 14; refine (callsIn_wide.2 hnx).mono ?_; refine Stop.out ?_)
        refine Stop.mk ?_
        first | rintro e w2 B2 d2 rfl hd2 ho2 hb2 | rintro e w2 ⟨B2, d2, rfl, hd2, ho2, hb2⟩
        have hJ2 : J pre w2 := hJ pre wr w2 none hJs (grown_of_below hb2) (by simp)
        clear hnx
        gi_wp2
        rw [Exit.noGoto_normal]
        go_end0
        exact ⟨⟨_, rfl⟩, .inl ⟨_, HZ.out, hJ2⟩⟩
    · have hnx := hnx (Option.map (fun x => x.add t) A) (.inl rfl)
      by_cases hz : m = 0
      · subst hz
        have hz := HEN.out pre hpre rfl
        have HZ := Lib.hid hz
        clear hz HEN HO hnle HOK HY
        cases ok
        all_goals
          gi_wp2_with (refine ⟨trivial, ?_⟩; gi_at_call 14; refine (callsIn_wide.2 hnx).mono ?_; refine Stop.out ?_)
          refine Stop.mk ?_
          first | rintro e w2 B2 d2 rfl hd2 ho2 hb2 | rintro e w2 ⟨B2, d2, rfl, hd2, ho2, hb2⟩
          have hJ2 : J pre w2 := hJ pre wr w2 none hJs (grown_of_below hb2) (by simp)
          clear hnx
          gi_wp2
          rw [Exit.noGoto_normal]
          go_end0
          exact ⟨⟨_, rfl⟩, .inl ⟨_, HZ.out, hJ2⟩⟩
      · obtain rfl : ok = true := HOK.out hz
        have hzi : ¬ (m : Int) = 0 := by omega
        clear HOK HEN
        gi_wp2_with (refine ⟨trivial, ?_⟩; gi_at_call 14; refine (callsIn_wide.2 hnx).mono ?_; refine Stop.out ?_)
        refine Stop.mk ?_
        first | rintro e w2 B2 d2 rfl hd2 ho2 hb2 | rintro e w2 ⟨B2, d2, rfl, hd2, ho2, hb2⟩
        have hJ2 : J pre w2 := hJ pre wr w2 none hJs (grown_of_below hb2) (by simp)
        have hb3 := hb.trans (hb2.mono (Nat.le_trans hn₀ hb.size))
        obtain ⟨fn, tmps, asg, bdy, hy, hR⟩ := HY.out ((t : Int), Value.slice B2 body.length d2) w2 hJ2 ⟨rfl, hz, B2, d2, rfl, Rd.own ho2⟩
        dsimp only at hy
        clear hnx HY
        gi_wp2
        refine hR.mono ?_
        rintro e W3 (⟨rfl, hJ3, hk3⟩ | ⟨rfl, hJx3⟩)
        · gi_wp2
          go_roundw
          case rel => exact ⟨k + 1, by rw [HO.out]; go_num, ⟨_, by simp [hpre], hJ3⟩, hb3.trans hk3⟩
          case measure => simp [intOf]; omega
        · gi_wp2
          rw [Exit.noGoto_ret]
          refine bodyPost_ret (results_none rfl _ _ _) rfl ?_
          exact ⟨⟨_, rfl⟩, .inr ⟨_, hJx3⟩⟩

theorem bodies_told (n : Nat) (hn : 1 ≤ n) (Bx n₀ : Nat) (b : List UInt8) (A : Option Addr) (c : Nat) (hsm : b.length ≤ 100000000) (hc : b.length ≤ c) (w : World)
    (hBx : w.cell? ⟨Bx, 0, none⟩ = some (.slice A b.length c)) (hBn : Bx < n₀) (hn₀ : n₀ ≤ w.heap.size) (hrd : RdU w n₀ A (bvs b)) :
    SeqG Fence.wide n Try.prog 37 #[.pointer (some ⟨Bx, 0, none⟩)] (fun x : Int × Value => #[.int .i64 x.1, x.2]) (Below n₀) (GN b) (fun ys => (nextOf (b.drop (off b ys.length))).2.1 = 0) w := fun l J Jx W hW hJ hY h0 =>
  bodies_in n hn l Bx n₀ b A c hsm hc J Jx W hJ hY ((hW.cell (p := ⟨Bx, 0, none⟩) (by simp; omega)).trans hBx) hBn (Nat.le_trans hn₀ hW.size) (hrd.below (hW.mono hn₀)) h0
end Go.Proofs.Ytekblnaogncplaa
