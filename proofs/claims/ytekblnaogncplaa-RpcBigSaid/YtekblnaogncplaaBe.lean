/- An attribute's value, stored. -/
import Derived.Test.YtekblnaogncplaaBd
set_option linter.unusedVariables false
set_option linter.unusedSimpArgs false
namespace Go.Proofs.Ytekblnaogncplaa
open Go.RowKit

theorem AtRow.set {w : World} {base : Nat} {xs : List Value} {L : List AttrD} (h : AtRow w base xs L) (k : Nat) (t : Int) (v0 v : List UInt8) (hk : L[k]? = some (t, v0)) (Av : Option Addr) (cv : Nat) (hc : v.length ≤ cv)
    (ho : w.ownsRow base 5 1 (.slice Av v.length cv) v.length (bvs v)) : AtRow w base (xs.set (k * 2 + 1) (.slice Av v.length cv)) (L.set k (t, v)) := by
  have hlen := h.len
  have hkl : k < L.length := (List.getElem?_eq_some_iff.1 hk).1
  refine ⟨by simp [hlen], fun i t' v' hi => ?_, fun u hu => ?_⟩
  · by_cases hik : k = i
    · subst hik
      rw [List.getElem?_set_self hkl] at hi
      injection hi with hi
      injection hi with e1 e2
      subst e1; subst e2
      refine ⟨?_, Av, cv, ?_, hc, ho⟩
      · rw [List.getElem?_set_ne (by omega)]; exact (h.at_ k t v0 hk).1
      · rw [List.getElem?_set_self (by omega)]
    · rw [List.getElem?_set_ne hik] at hi
      obtain ⟨h1, A, c, h2, h3, h4⟩ := h.at_ i t' v' hi
      exact ⟨by rw [List.getElem?_set_ne (by omega)]; exact h1, A, c, by rw [List.getElem?_set_ne (by omega)]; exact h2, h3, h4⟩
  · rcases List.mem_or_eq_of_mem_set hu with hu | rfl
    · exact h.one u hu
    · rfl

def fillA (a b : AttrD) (n k : Nat) : List AttrD := List.replicate k a ++ List.replicate (n - k) b
theorem fillA_length (a b : AttrD) (n k : Nat) (h : k ≤ n) : (fillA a b n k).length = n := by simp [fillA]; omega
theorem fillA_at (a b : AttrD) (n k : Nat) (h : k < n) : (fillA a b n k)[k]? = some b := by
  unfold fillA
  rw [List.getElem?_append_right (by simp), List.length_replicate, Nat.sub_self, List.getElem?_replicate, if_pos (by omega)]
theorem fillA_set (a b : AttrD) (n k : Nat) (h : k < n) : (fillA a b n k).set k a = fillA a b n (k + 1) := by
  unfold fillA
  obtain ⟨m, rfl⟩ : ∃ m, n = k + m + 1 := ⟨n - k - 1, by omega⟩
  rw [show k + m + 1 - k = m + 1 by omega, show k + m + 1 - (k + 1) = m by omega, List.replicate_succ, List.replicate_succ']
  rw [List.set_append_right _ _ (by simp)]
  simp
end Go.Proofs.Ytekblnaogncplaa
