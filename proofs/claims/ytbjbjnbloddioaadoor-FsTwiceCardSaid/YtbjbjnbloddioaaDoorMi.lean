/- Plain law: a commit that may die. -/
import Derived.Test.YtbjbjnbloddioaaDoorMh
set_option linter.unusedVariables false
set_option linter.unusedSimpArgs false
namespace Go.Proofs.YtbjbjnbloddioaaDoor

theorem Good.setFuse {D : DiskD} {b n : Nat} {m : List (List UInt8)} (h : Good D b n m) (f : Nat) : Good (D.setFuse f) b n m := by
  refine ⟨?_, setFuse_clean h.clean f⟩
  rw [setFuse_secs]
  have e : ∀ j, (D.setFuse f).at_ j = D.at_ j := fun j => at_secs (by rw [setFuse_secs])
  exact h.a.same (fun j _ => e j) (fun i _ => e _)
/-- What a commit that may die leaves: done, or dead. -/
def CommitG (b n : Nat) (m M : List (List UInt8)) (len : Nat) (r : Int × VolD) : Prop :=
  (∃ D1, r = (0, ⟨D1, b, n + 1, false⟩) ∧ Good D1 b (n + 1) M ∧ D1.secs.length = len) ∨
  (∃ D1, r = (48, ⟨D1, b, n, true⟩) ∧ readsB ⟨D1, b, n, true⟩ = m ∧ D1.secs.length = len ∧ ∀ kf, Good (D1.crash kf) b n m ∨ Good (D1.crash kf) b (n + 1) M)
theorem commit_fuse {D : DiskD} {b n : Nat} {m : List (List UInt8)} {L : List (Int × List UInt8)} (h : Good D b n m) (hn : n + 1 < 900000) (hm : mayB L b = true) (hL : L ≠ []) :
    CommitG b n m (applyM m L) D.secs.length (VolD.commit ⟨D, b, n, false⟩ L) := by
  have ht := turn_good h L hn
  unfold VolD.commit
  rw [if_neg (by rw [hm]; simp), if_neg hL, if_neg (by simp)]
  dsimp only
  generalize D.turn b n L = r at ht
  obtain ⟨ok, D'⟩ := r
  cases ok with
  | true => exact .inl ⟨D', rfl, ht.yes rfl, ht.len⟩
  | false =>
    refine .inr ⟨D', rfl, ?_, ht.len, ht.crash⟩
    have hr := good_reads (br := true) h.a
    rw [← hr]
    unfold readsB
    apply List.map_congr_left
    intro i hi
    exact ht.no rfl i (by simpa using hi)
end Go.Proofs.YtbjbjnbloddioaaDoor
