/- What a crash keeps; side, refused, wrote. -/
import Derived.Test.YtbjbjnbloddioaaDoorFf
set_option linter.unusedVariables false
set_option linter.unusedSimpArgs false
namespace Go.Proofs.YtbjbjnbloddioaaDoor
open Go.RowKit Go.Shelf

/-- What is kept: all or nothing, or as the row says. -/
def keepF (ks : List Bool) (all : Bool) (i : Nat) : Bool := if ks = [] then all else ks.getD (i % ks.length) false
set_option maxRecDepth 100000 in
set_option maxHeartbeats 1600000 in
theorem keep_o (ks : List Bool) (all : Bool) (i : Nat) (p q : Nat) (A : Option Addr) (c : Nat) (w : World) (hp : w.cell? ⟨p, 0, none⟩ = some (.slice A ks.length c)) (hq : w.cell? ⟨q, 0, none⟩ = some (.bool all))
    (hr : Rd w A (ks.map Value.bool)) (hks : ks.length ≤ 140737488355328) (hi : i ≤ 1000000) :
    Calls Tryd.prog 37 #[.int .i64 (i : Int), .pointer (some ⟨p, 0, none⟩), .pointer (some ⟨q, 0, none⟩)] w (fun e w' => e = .returned (.bool (keepF ks all i)) ∧ (w' = w ∨ w' = w.drew)) := by
  by_cases h0 : ks = []
  · subst h0
    go_enter Tryd.func37, Tryd.ntmps37
    go_wp2_with fail
    go_ret
    exact ⟨rfl, .inl rfl⟩
  · have hl0 : 0 < ks.length := List.length_pos_iff.2 h0
    have hlt : i % ks.length < ks.length := Nat.mod_lt _ hl0
    have hk : keepF ks all i = ks[i % ks.length] := by
      unfold keepF
      rw [if_neg h0]
      simp [List.getD, hlt]
    rw [hk]
    obtain ⟨g, o, rfl⟩ := hr.some_ (by simpa using hl0)
    have hc : w.cell? ⟨g, o + i % ks.length, none⟩ = some (.bool ks[i % ks.length]) := hr.at_ _ (by simp [hlt])
    generalize ks[i % ks.length] = u at hc ⊢
    have hne : ¬ ks.length = 0 := by omega
    have hne2 : ¬ ((ks.length : Int) = 0) := by omega
    go_enter Tryd.func37, Tryd.ntmps37
    go_wp2_with fail
    refine wp_region_seg [] [[0, 1, 2, 3, 4, 5, 6, 7, 8, 9, 10, 11]] (by kernel_rfl) (by kernel_rfl) ?_
    simp only [Seg, pick_cons, pick_nil, List.getElem?_toArray, List.getElem?_cons_zero, List.getElem?_cons_succ, Option.toList_some, List.cons_append, List.nil_append]
    go_wp2_with fail
    refine Fin.intro ⟨by kernel_rfl, ?_⟩
    go_wp2_with fail
    go_ret
    exact ⟨rfl, .inr rfl⟩
set_option maxRecDepth 100000 in
theorem side_o (b c k : Nat) (hb : b ≤ 1000000) (hc : c ≤ 1000000000) (hk : k ≤ 1000000) (w : World) :
    Calls Tryd.prog 30 #[.int .i64 (b : Int), .int .i64 (c : Int), .int .i64 (k : Int)] w (fun e w' => e = .returned (.int .i64 ((8 + c % 2 * b + k : Nat) : Int)) ∧ w = w') := by
  have hm : (c : Int) % 2 = ((c % 2 : Nat) : Int) := by omega
  rcases Nat.mod_two_eq_zero_or_one c with h | h
  · rw [h] at hm ⊢
    go_enter Tryd.func30, Tryd.ntmps30
    go_wp2_with fail
    go_ret
    exact ⟨by simp, rfl⟩
  · rw [h] at hm ⊢
    go_enter Tryd.func30, Tryd.ntmps30
    go_wp2_with fail
    go_ret
    exact ⟨by simp, rfl⟩
end Go.Proofs.YtbjbjnbloddioaaDoor
