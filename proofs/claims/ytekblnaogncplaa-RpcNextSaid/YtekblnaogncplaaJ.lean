/- The reference: numbers as bytes, frames, fits; Short. -/
import Derived.Test.YtekblnaogncplaaI
set_option linter.unusedVariables false
set_option linter.unusedSimpArgs false
namespace Go.Proofs.Ytekblnaogncplaa
open Go.RowKit

set_option maxRecDepth 100000 in
set_option maxHeartbeats 400000 in
theorem short_o (l : List UInt8) (n : Nat) (hn : n ≤ 1000000000000) (A : Option Addr) (c : Nat) (w : World) (h : Rd w A (bvs l)) (hc : l.length ≤ c) :
    Calls Try.prog 13 #[.slice A l.length c, .int .i64 (n : Int)] w (fun e w' => e = .returned (.slice A (l.take n).length c) ∧ w = w') := by
  by_cases hgt : n < l.length
  · obtain ⟨g, o, hA⟩ := h.some_ (by simp [bvs_length]; omega)
    subst hA
    have hgt' : (n : Int) < (l.length : Int) := by omega
    go_enter Try.func13, Try.ntmps13
    go_wp2_with fail
    go_ret
    exact ⟨by simp [Nat.min_eq_left (Nat.le_of_lt hgt)], rfl⟩
  · have hgt' : (l.length : Int) ≤ (n : Int) := by omega
    go_enter Try.func13, Try.ntmps13
    go_wp2_with fail
    go_ret
    exact ⟨by simp [List.take_of_length_le (show l.length ≤ n by omega)], rfl⟩

def fit (n : Int) : Bool := decide (0 ≤ n) && decide (n ≤ 2147483647)
set_option maxRecDepth 100000 in
set_option maxHeartbeats 400000 in
theorem fits_o (l : List Int) (A : Option Addr) (c : Nat) (w : World) (h : Rd w A (ints l)) (hl : l.length ≤ 1000000000) :
    Calls Try.prog 26 #[.slice A l.length c] w (fun e w' => e = .returned (.bool (l.all fit)) ∧ w = w') := by
  go_enter Try.func26, Try.ntmps26
  go_wp2_with fail
  go_loop [3] (fun i => ∃ k : Nat, k ≤ l.length ∧ i = .int .i64 k ∧ (l.take k).all fit = true) (fun i => l.length - (intOf i).toNat)
  case atStart => exact ⟨0, by omega, rfl, rfl⟩
  case round =>
    obtain ⟨k, hk, rfl, hall⟩ := hrel
    by_cases hlt : k < l.length
    · obtain ⟨g, o, hA, hcell⟩ := h k (.int .i64 l[k]) (by simp [ints, List.getElem?_eq_getElem hlt])
      subst hA
      have hsplit := List.take_succ_eq_append_getElem hlt
      by_cases h0 : 0 ≤ l[k]
      · by_cases h1 : l[k] ≤ 2147483647
        · have hn : (l.take (k + 1)).all fit = true := by rw [hsplit, List.all_append, hall]; simp [fit, h0, h1]
          have HN := Lib.hid hn
          clear hn hsplit hall
          go_wp2_with fail
          go_roundw
          case rel => exact ⟨k + 1, hlt, by go_num, HN.out⟩
          case measure => simp [intOf]; omega
        · have h1' : 2147483647 < l[k] := by omega
          go_wp2_with fail
          go_ret
          refine ⟨?_, rfl⟩
          have : l.all fit = false := by
            rw [List.all_eq_false]
            exact ⟨l[k], List.getElem_mem hlt, by simp [fit, h1]⟩
          rw [this]; rfl
      · have h0' : l[k] < 0 := by omega
        go_wp2_with fail
        go_ret
        refine ⟨?_, rfl⟩
        have : l.all fit = false := by
          rw [List.all_eq_false]
          exact ⟨l[k], List.getElem_mem hlt, by simp [fit]; omega⟩
        rw [this]; rfl
    · obtain rfl : k = l.length := by omega
      go_wp2_with fail
      go_ret
      rw [List.take_length] at hall
      exact ⟨by rw [hall]; rfl, rfl⟩
end Go.Proofs.Ytekblnaogncplaa
