/- Plain law: a format of a new disk that may die. -/
import Derived.Test.YtbjbjnbloddioaaDoorMf
set_option linter.unusedVariables false
set_option linter.unusedSimpArgs false
namespace Go.Proofs.YtbjbjnbloddioaaDoor

theorem Zero.crash {D : DiskD} (h : Zero D) (hc : Clean D) (kf : Nat → Bool) : Zero (D.crash kf) := fun j hj => by
  rw [crash_len] at hj
  rw [crash_same kf (fun s hs => hc j s hs)]
  exact h j hj
theorem Zero.mount {D : DiskD} (h : Zero D) (hl : 2 ≤ D.secs.length) : mountC D = -1 ∧ hdN (D.at_ 0) < 1000000 ∧ hdN (D.at_ 1) < 1000000 := by
  have h0 := h 0 (by omega)
  have h1 := h 1 (by omega)
  refine ⟨?_, by rw [h0, hdN_zs]; omega, by rw [h1, hdN_zs]; omega⟩
  unfold mountC
  simp only [cmt, h0, h1, whole_zs]
  simp
structure FmtG (N : Nat) (r : Int × DiskD) : Prop where
  rv : r.1 = 0 ∨ r.1 = 48
  len : r.2.secs.length = N
  crash : ∀ kf, (Zero (r.2.crash kf) ∧ r.1 = 48) ∨ Good (r.2.crash kf) ((N - 8) / 2) 0 (List.replicate ((N - 8) / 2) (zs 256))
theorem fmt_fuse {D : DiskD} (h : Zero D) (hc : Clean D) (hl : 16 ≤ D.secs.length) : FmtG D.secs.length D.format := by
  cases hdd : D.dead with
  | true =>
    have e : D.format = (48, D) := by
      unfold DiskD.format DiskD.refused
      rw [hdd, if_neg (by omega : ¬ D.secs.length < 16), if_pos rfl, if_neg (by decide)]
    rw [e]
    exact ⟨.inr rfl, rfl, fun kf => .inl ⟨h.crash hc kf, rfl⟩⟩
  | false =>
    have e : D.format = (rvOf D.fmt.1, D.fmt.2) := by
      unfold DiskD.format DiskD.refused
      rw [hdd, if_neg (by omega : ¬ D.secs.length < 16)]
      rfl
    rw [e, fmt_zero h hl]
    have f1 : D.sync = (true, D.flush.done) := by unfold DiskD.sync; rw [hdd]; rfl
    rw [f1, seq_true]
    have z1 := flush_zero h
    have c1 := flush_clean D
    have l1 := flush_len D
    generalize D.flush.done = D1 at z1 c1 l1 ⊢
    cases hd1 : D1.dead with
    | true =>
      have f2 : D1.sync = (false, D1) := by unfold DiskD.sync; rw [hd1]; rfl
      rw [f2, seq_false, seq_false]
      exact ⟨.inr rfl, l1, fun kf => .inl ⟨z1.crash c1 kf, rfl⟩⟩
    | false =>
      have f2 : D1.sync = (true, D1.flush.done) := by unfold DiskD.sync; rw [hd1]; rfl
      rw [f2, seq_true]
      have z2 := flush_zero z1
      have c2 := flush_clean D1
      have l2 := (flush_len D1).trans l1
      generalize D1.flush.done = D2 at z2 c2 l2 ⊢
      cases hd2 : D2.dead with
      | true =>
        have f3 : D2.write 0 (hd 0) = (false, D2) := by unfold DiskD.write; rw [hd2]; rfl
        rw [f3, seq_false]
        exact ⟨.inr rfl, l2, fun kf => .inl ⟨z2.crash c2 kf, rfl⟩⟩
      | false =>
        have f3 : D2.write 0 (hd 0) = (true, (D2.put 0 (hd 0)).done) := by unfold DiskD.write; rw [hd2]; rfl
        rw [f3, seq_true]
        have hhl : 0 < D2.secs.length := by omega
        have hput := put_at D2 0 (hd 0) hhl
        have hl3 : (D2.put 0 (hd 0)).done.secs.length = D2.secs.length := by
          show (D2.put 0 (hd 0)).secs.length = _
          rw [put_len]
        have hoth : ∀ j, j ≠ 0 → (D2.put 0 (hd 0)).done.secs[j]? = D2.secs[j]? := fun j hj => put_secs _ _ _ _ (fun e => hj e.symm)
        have hsec : (D2.put 0 (hd 0)).done.secs[0]? = some ⟨hd 0, D2.secs[0].syn, true⟩ := by
          simp [DiskD.done, DiskD.put, List.getElem?_modify, hhl]
        have hold : D2.secs[0].syn = zs 256 := by
          have e := List.getElem?_eq_getElem hhl
          rw [c2 _ _ e, ← at_get e]
          exact z2 0 hhl
        generalize (D2.put 0 (hd 0)).done = D3 at hput hl3 hoth hsec ⊢
        have hgood : ∀ f : Nat → List UInt8, f 0 = hd 0 → (∀ j, j ≠ 0 → f j = D2.at_ j) → GoodA f D.secs.length ((D.secs.length - 8) / 2) 0 (List.replicate ((D.secs.length - 8) / 2) (zs 256)) := fun f h0 hf => by
          have := zero_good z2 (by omega) h0 hf
          rw [l2] at this
          exact this
        cases hd3 : D3.dead with
        | true =>
          have f4 : D3.sync = (false, D3) := by unfold DiskD.sync; rw [hd3]; rfl
          rw [f4]
          refine ⟨.inr rfl, hl3.trans l2, fun kf => ?_⟩
          have ho : ∀ j, j ≠ 0 → (D3.crash kf).at_ j = D2.at_ j := fun j hj =>
            (crash_same kf (fun s hs => c2 j s (by rw [← hoth j hj]; exact hs))).trans (at_secs (hoth j hj))
          have hh := crash_at D3 kf _ _ hsec
          dsimp only at hh
          rw [Bool.true_and, hold] at hh
          cases hk : kf 0 with
          | true =>
            right
            rw [hk] at hh
            refine ⟨?_, crash_clean _ _⟩
            rw [crash_len, hl3, l2]
            exact hgood _ hh ho
          | false =>
            left
            rw [hk] at hh
            refine ⟨fun j hj => ?_, rfl⟩
            rw [crash_len, hl3] at hj
            by_cases e : j = 0
            · subst e; exact hh
            · rw [ho j e]; exact z2 j hj
        | false =>
          have f4 : D3.sync = (true, D3.flush.done) := by unfold DiskD.sync; rw [hd3]; rfl
          rw [f4]
          refine ⟨.inl rfl, (flush_len D3).trans (hl3.trans l2), fun kf => .inr (Good.crash ?_ kf)⟩
          refine ⟨?_, flush_clean _⟩
          rw [flush_len, hl3, l2]
          exact hgood _ (by rw [flush_at, hput]) (fun j hj => by rw [flush_at, at_secs (hoth j hj)])
theorem new_clean (N : Nat) : Clean (DiskD.new N) := fun j s h => by
  have := (List.getElem?_eq_some_iff.1 h)
  obtain ⟨h1, h2⟩ := this
  simp [DiskD.new] at h2
  rw [← h2]
theorem setFuse_secs (D : DiskD) (n : Nat) : (D.setFuse n).secs = D.secs := by
  unfold DiskD.setFuse
  split <;> rfl
theorem setFuse_zero {D : DiskD} (h : Zero D) (n : Nat) : Zero (D.setFuse n) := fun j hj => by
  rw [setFuse_secs] at hj
  rw [at_secs (D := D) (by rw [setFuse_secs])]
  exact h j hj
theorem setFuse_clean {D : DiskD} (h : Clean D) (n : Nat) : Clean (D.setFuse n) := fun j s hs => by
  rw [setFuse_secs] at hs
  exact h j s hs
/-- A mount of zeros. -/
theorem mountR_zero {w w' : World} {g : Nat} {D : DiskD} {e : Ending} (h : Zero D) (hl : 16 ≤ D.secs.length) (hf : D.dead = false) (hR : MountR w g D e w') : e = .returned (.tuple #[.pointer none, .int .i64 5]) := by
  have hr : D.refused = 0 := by
    unfold DiskD.refused
    rw [if_neg (by omega), hf]
    rfl
  unfold MountR at hR
  rw [if_neg (by rw [hr]; simp), (h.mount (by omega)).1, if_pos (by omega)] at hR
  exact hR
theorem mountR_small {w w' : World} {g : Nat} {D : DiskD} {e : Ending} (hl : D.secs.length < 16) (hR : MountR w g D e w') : e = .returned (.tuple #[.pointer none, .int .i64 7]) := by
  have hr : D.refused = 7 := by
    unfold DiskD.refused
    rw [if_pos hl]
  unfold MountR at hR
  rw [hr, if_pos (by decide)] at hR
  exact hR
theorem format_small {D : DiskD} (hl : D.secs.length < 16) : D.format = (7, D) := by
  have hr : D.refused = 7 := by
    unfold DiskD.refused
    rw [if_pos hl]
  unfold DiskD.format
  rw [hr, if_neg (by decide)]
theorem new_small (N : Nat) : hdN ((DiskD.new N).at_ 0) < 1000000 ∧ hdN ((DiskD.new N).at_ 1) < 1000000 := by
  have key : ∀ j, hdN ((DiskD.new N).at_ j) = 0 := fun j => by
    by_cases h : j < N
    · rw [new_zero N j (by rw [new_len]; exact h), hdN_zs]
    · have : (DiskD.new N).at_ j = [] := by simp [DiskD.at_, DiskD.new, h]
      rw [this]
      rfl
  rw [key, key]
  omega
end Go.Proofs.YtbjbjnbloddioaaDoor
