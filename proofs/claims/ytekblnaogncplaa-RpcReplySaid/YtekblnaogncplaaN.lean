/- Are two lists of attributes the same? -/
import Derived.Test.YtekblnaogncplaaI
import Derived.Deep.QuietTactic
import Derived.BigQuiet
set_option linter.unusedVariables false
set_option linter.unusedSimpArgs false
namespace Go.Proofs.Ytekblnaogncplaa
open Go.RowKit

theorem below_drewN {B : Nat} {w w' : World} (h : Below B w w') (n : Nat) : Below B w (w'.drewN n) := ⟨h.os, h.tape, h.output, h.size, h.block⟩

set_option maxRecDepth 100000 in
set_option maxHeartbeats 800000 in
theorem eqAttrs_o (L K : List AttrD) (A B : Option Addr) (c d : Nat) (w : World) (hL : AtU w w.heap.size A L) (hK : AtU w w.heap.size B K) (hl : L.length ≤ 1000000000) (hk : K.length ≤ 1000000000) :
    Calls Try.prog 34 #[.slice A L.length c, .slice B K.length d] w (fun e w' => e = .returned (.bool (L == K)) ∧ Below w.heap.size w w') := by
  by_cases hlen : L.length = K.length
  · have hlen' : (L.length : Int) = (K.length : Int) := by omega
    go_enter Try.func34, Try.ntmps34
    go_wp2_with fail
    have HL := Lib.hid hlen
    clear hlen
    go_loopw [5] (fun i wr => ∃ k : Nat, k ≤ K.length ∧ i = .int .i64 k ∧ L.take k = K.take k ∧ Below w.heap.size w wr) (fun i _ => K.length - (intOf i).toNat)
    case atStart => exact ⟨0, by omega, rfl, rfl, Below.refl _ _⟩
    case round =>
      obtain ⟨k, hk, rfl, htake, hb⟩ := hrel
      by_cases hlt : k < K.length
      · have hltL : k < L.length := by rw [HL.out]; exact hlt
        obtain ⟨ga, oa, hA, hUa, hx1, Av, cv, hx2, hcv, hrv⟩ := (hL.below hb) k L[k].1 L[k].2 (by simp [hltL])
        obtain ⟨gb, ob, hB, hUb, hy1, Bv, dv, hy2, hdv, hsv⟩ := (hK.below hb) k K[k].1 K[k].2 (by simp [hlt])
        subst hA
        subst hB
        generalize hl1 : L[k] = l1 at *
        generalize hk1 : K[k] = k1 at *
        by_cases hty : l1.1 = k1.1
        · obtain ⟨t1, v1⟩ := l1
          obtain ⟨t2, v2⟩ := k1
          dsimp only at *
          subst hty
          have h1 := fun m => run_str (P := Try.prog) (wr.drewN m) (A := Av) (l := v1) (fun j u hu => hrv.rd j u hu) 22 9 5 Try.underlying22 Try.underlying5 Try.underlying9 v1.length cv rfl
          have h2 := fun m => run_str (P := Try.prog) (wr.drewN m) (A := Bv) (l := v2) (fun j u hu => hsv.rd j u hu) 22 9 5 Try.underlying22 Try.underlying5 Try.underlying9 v2.length dv rfl
          unfold str at h1 h2
          by_cases hv : v1 = v2
          · subst hv
            have hT : L.take (k + 1) = K.take (k + 1) := by
              rw [List.take_succ_eq_append_getElem hltL, List.take_succ_eq_append_getElem hlt, htake, hl1, hk1]
            have HT := Lib.hid hT
            clear HL htake hT hl1 hk1
            go_wp2_with fail
            go_quiet (fail)
            go_wp2_with fail
            go_roundw
            case rel => exact ⟨k + 1, hlt, by go_num, HT.out, below_drewN hb _⟩
            case measure => simp [intOf]; omega
          · have hne : (L == K) = false := by
              rw [beq_eq_false_iff_ne]
              intro e
              subst e
              exact hv (congrArg Prod.snd (hl1.symm.trans hk1))
            have hve : (v1 == v2) = false := by simpa using hv
            clear HL htake hl1 hk1 hv
            go_wp2_with fail
            go_quiet (fail)
            go_wp2_with fail
            go_ret
            rw [hne]
            exact ⟨rfl, below_drewN hb _⟩
        · have hne : (L == K) = false := by
            rw [beq_eq_false_iff_ne]
            intro e
            subst e
            exact hty (congrArg Prod.fst (hl1.symm.trans hk1))
          clear HL htake hl1 hk1
          go_wp2_with fail
          go_quiet (fail)
          go_wp2_with fail
          go_ret
          rw [hne]
          exact ⟨rfl, below_drewN hb _⟩
      · obtain rfl : k = K.length := by omega
        have heq : L = K := by rw [← List.take_length (l := K), ← htake, ← HL.out, List.take_length]
        have heq' : (L == K) = true := by rw [heq]; simp
        go_wp2_with fail
        go_ret
        rw [heq']
        exact ⟨rfl, hb⟩
  · have hlen' : ¬ (L.length : Int) = (K.length : Int) := by omega
    go_enter Try.func34, Try.ntmps34
    have hne : (L == K) = false := by
      rw [beq_eq_false_iff_ne]
      intro e
      exact hlen (by rw [e])
    go_wp2_with fail
    go_ret
    rw [hne]
    exact ⟨rfl, Below.refl _ _⟩
end Go.Proofs.Ytekblnaogncplaa
