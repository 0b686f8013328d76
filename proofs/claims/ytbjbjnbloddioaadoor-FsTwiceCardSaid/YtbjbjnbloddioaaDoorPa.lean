/- Plain law: what a volume's disk holds; a format, a commit, a crash. -/
import Derived.Test.YtbjbjnbloddioaaDoorFo
set_option linter.unusedVariables false
set_option linter.unusedSimpArgs false
namespace Go.Proofs.YtbjbjnbloddioaaDoor

/-! ### heads -/
theorem hd_mid (n : Nat) (H z : List UInt8) : ((((magic ++ be n 8) ++ H) ++ z).drop 16).take 8 = be n 8 := by
  have hm : magic.length = 16 := rfl
  rw [List.append_assoc, List.append_assoc, List.drop_append, hm, show magic.drop 16 = [] from rfl, List.nil_append, Nat.sub_self, List.drop_zero, List.take_append_of_le_length (by rw [be_length]; omega), List.take_of_length_le (by rw [be_length]; omega)]
theorem hdN_hd (n : Nat) (hn : n < 1000000) : hdN (hd n) = n := by
  have h1 : ((hd n).drop 16).take 8 = be n 8 := hd_mid n _ _
  unfold hdN
  rw [h1, beV_be 8 n (by omega)]
theorem whole_hd (n i : Nat) (hn : n < 1000000) : whole (hd n) i = (n % 2 == i) := by
  unfold whole
  rw [hdN_hd n hn]
  simp
theorem hdN_zs : hdN (zs 256) = 0 := by
  have h1 : ((zs 256).drop 16).take 8 = zs 8 := by
    unfold zs
    rw [List.drop_replicate, List.take_replicate]
    rfl
  unfold hdN
  rw [h1]
  rfl
theorem hd_ne_zs (n : Nat) : zs 256 ≠ hd n := by
  intro e
  have := congrArg List.head? e
  have h1 : (zs 256).head? = some 0 := rfl
  have h2 : (hd n).head? = some 98 := rfl
  rw [h1, h2] at this
  injection this with this
  exact absurd this (by decide)
theorem whole_zs (i : Nat) : whole (zs 256) i = false := by
  unfold whole
  have : (zs 256 == hd (hdN (zs 256))) = false := by simp; exact hd_ne_zs _
  rw [this]
  simp

/-! ### what a disk holds -/
structure GoodA (f : Nat → List UInt8) (len b n : Nat) (m : List (List UInt8)) : Prop where
  lo : 16 ≤ len
  hb : b = (len - 8) / 2
  hm : m.length = b
  small : n < 900000
  head : f (n % 2) = hd n
  other : f ((n + 1) % 2) = zs 256 ∨ ∃ k, k < n ∧ k % 2 = (n + 1) % 2 ∧ f ((n + 1) % 2) = hd k
  data : ∀ i, i < b → m[i]? = some (f (sideN b n i))
def Clean (D : DiskD) : Prop := ∀ (j : Nat) (s : SecD), D.secs[j]? = some s → s.syn = s.now
structure Good (D : DiskD) (b n : Nat) (m : List (List UInt8)) : Prop where
  a : GoodA D.at_ D.secs.length b n m
  clean : Clean D
theorem GoodA.same {f g : Nat → List UInt8} {len b n : Nat} {m : List (List UInt8)} (h : GoodA f len b n m) (h8 : ∀ j, j < 8 → g j = f j) (hd : ∀ i, i < b → g (sideN b n i) = f (sideN b n i)) : GoodA g len b n m :=
  ⟨h.lo, h.hb, h.hm, h.small, by rw [h8 _ (by omega)]; exact h.head, by rw [h8 _ (by omega)]; exact h.other, fun i hi => by rw [hd i hi]; exact h.data i hi⟩
theorem GoodA.heads {f : Nat → List UInt8} {len b n : Nat} {m : List (List UInt8)} (h : GoodA f len b n m) : hdN (f 0) < 1000000 ∧ hdN (f 1) < 1000000 := by
  have hs := h.small
  have h1 : hdN (f (n % 2)) < 1000000 := by rw [h.head, hdN_hd n (by omega)]; omega
  have h2 : hdN (f ((n + 1) % 2)) < 1000000 := by
    rcases h.other with e | ⟨k, hk, _, e⟩
    · rw [e, hdN_zs]; omega
    · rw [e, hdN_hd k (by omega)]; omega
  rcases Nat.mod_two_eq_zero_or_one n with e | e
  · have e2 : (n + 1) % 2 = 1 := by omega
    rw [e] at h1; rw [e2] at h2
    exact ⟨h1, h2⟩
  · have e2 : (n + 1) % 2 = 0 := by omega
    rw [e] at h1; rw [e2] at h2
    exact ⟨h2, h1⟩
theorem GoodA.mount {D : DiskD} {len b n : Nat} {m : List (List UInt8)} (h : GoodA D.at_ len b n m) : mountC D = (n : Int) := by
  have hs := h.small
  have hw : whole (D.at_ (n % 2)) (n % 2) = true ∧ hdN (D.at_ (n % 2)) = n := by
    rw [h.head, whole_hd n _ (by omega), hdN_hd n (by omega)]
    simp
  have ho : whole (D.at_ ((n + 1) % 2)) ((n + 1) % 2) = false ∨ hdN (D.at_ ((n + 1) % 2)) < n := by
    rcases h.other with e | ⟨k, hk, _, e⟩
    · left; rw [e, whole_zs]
    · right; rw [e, hdN_hd k (by omega)]; exact hk
  unfold mountC
  simp only [cmt]
  rcases Nat.mod_two_eq_zero_or_one n with e | e
  · have e2 : (n + 1) % 2 = 1 := by omega
    rw [e] at hw; rw [e2] at ho
    rw [hw.1, hw.2]
    simp only [if_true]
    rcases ho with ho | ho
    · rw [ho]; simp; omega
    · split <;> omega
  · have e2 : (n + 1) % 2 = 0 := by omega
    rw [e] at hw; rw [e2] at ho
    rw [hw.1, hw.2]
    simp only [if_true]
    rcases ho with ho | ho
    · rw [ho]; simp; omega
    · split <;> omega
/-! ### what the disk's steps do -/
theorem at_secs {D D' : DiskD} {j : Nat} (h : D'.secs[j]? = D.secs[j]?) : D'.at_ j = D.at_ j := by simp [DiskD.at_, h]
theorem flush_at (D : DiskD) (j : Nat) : D.flush.done.at_ j = D.at_ j := by
  simp only [DiskD.at_, DiskD.done, DiskD.flush, List.getElem?_map]
  cases D.secs[j]? <;> rfl
theorem flush_clean (D : DiskD) : Clean D.flush.done := fun j s h => by
  simp only [DiskD.done, DiskD.flush, List.getElem?_map] at h
  cases hs : D.secs[j]? with
  | none => rw [hs] at h; cases h
  | some s0 => rw [hs] at h; injection h with h; subst h; rfl
theorem flush_len (D : DiskD) : D.flush.done.secs.length = D.secs.length := by simp [DiskD.done, DiskD.flush]
theorem crash_len (D : DiskD) (kf : Nat → Bool) : (D.crash kf).secs.length = D.secs.length := by simp [DiskD.crash]
theorem crash_clean (D : DiskD) (kf : Nat → Bool) : Clean (D.crash kf) := fun j s h => by
  simp only [DiskD.crash, List.getElem?_mapIdx] at h
  cases hs : D.secs[j]? with
  | none => rw [hs] at h; cases h
  | some s0 => rw [hs] at h; injection h with h; subst h; rfl
theorem crash_at (D : DiskD) (kf : Nat → Bool) (j : Nat) (s : SecD) (h : D.secs[j]? = some s) : (D.crash kf).at_ j = if s.dirty && kf j then s.now else s.syn := by
  simp [DiskD.at_, DiskD.crash, h, SecD.crash]
theorem crash_none (D : DiskD) (kf : Nat → Bool) (j : Nat) (h : D.secs[j]? = none) : (D.crash kf).at_ j = D.at_ j := by
  simp [DiskD.at_, DiskD.crash, h]
/-- A crash of a disk on which nothing waits. -/
theorem crash_same {D : DiskD} (kf : Nat → Bool) {j : Nat} (h : ∀ s, D.secs[j]? = some s → s.syn = s.now) : (D.crash kf).at_ j = D.at_ j := by
  cases hs : D.secs[j]? with
  | none => exact crash_none D kf j hs
  | some s => rw [crash_at D kf j s hs, at_get hs, h s hs]; simp
theorem Good.crash {D : DiskD} {b n : Nat} {m : List (List UInt8)} (h : Good D b n m) (kf : Nat → Bool) : Good (D.crash kf) b n m := by
  refine ⟨?_, crash_clean D kf⟩
  rw [crash_len]
  exact h.a.same (fun j _ => crash_same kf (h.clean j)) (fun i _ => crash_same kf (h.clean _))
theorem put_secs (D : DiskD) (i j : Nat) (x : List UInt8) (h : i ≠ j) : (D.put i x).done.secs[j]? = D.secs[j]? := by
  simp only [DiskD.done, DiskD.put, List.getElem?_modify, if_neg h]
  cases D.secs[j]? <;> rfl
theorem put_at (D : DiskD) (i : Nat) (x : List UInt8) (h : i < D.secs.length) : (D.put i x).done.at_ i = x := by
  simp [DiskD.at_, DiskD.done, DiskD.put, List.getElem?_modify, h]
theorem wrote_cases (D : DiskD) (i : Nat) (x : List UInt8) : (D.wrote i x = (true, D) ∧ D.at_ i = x) ∨ (D.wrote i x = (false, D) ∧ D.dead = true) ∨ (D.wrote i x = (true, (D.put i x).done) ∧ D.dead = false) := by
  unfold DiskD.wrote DiskD.write
  by_cases h : D.at_ i = x
  · left; rw [if_pos h]; exact ⟨rfl, h⟩
  · rw [if_neg h]
    right
    cases hd : D.dead
    · right; simp
    · left; simp
theorem free_dead {D : DiskD} (h : D.fuse = none) : D.dead = false := by simp [DiskD.dead, h]
theorem free_done {D : DiskD} (h : D.fuse = none) : D.done.fuse = none := by simp [DiskD.done, h]
/-- Sectors written in turn: what is left. -/
structure WT (f : Nat → Nat × List UInt8) (D : DiskD) (k : Nat) (r : Bool × DiskD) : Prop where
  len : r.2.secs.length = D.secs.length
  same : ∀ j, (∀ i, i < k → (f i).1 ≠ j) → r.2.secs[j]? = D.secs[j]?
  done : r.1 = true → (∀ i, i < k → ∀ i', i' < k → (f i).1 = (f i').1 → i = i') → (∀ i, i < k → (f i).1 < D.secs.length) → ∀ i, i < k → r.2.at_ (f i).1 = (f i).2
  free : D.fuse = none → r.1 = true ∧ r.2.fuse = none
theorem wroteTo_wt (f : Nat → Nat × List UInt8) (D : DiskD) : ∀ k, WT f D k (wroteTo f D k)
  | 0 => ⟨rfl, fun _ _ => rfl, fun _ _ _ i hi => by omega, fun h => ⟨rfl, h⟩⟩
  | k + 1 => by
    have ih := wroteTo_wt f D k
    simp only [wroteTo]
    generalize wroteTo f D k = r at ih ⊢
    obtain ⟨ok, D1⟩ := r
    cases ok with
    | false =>
      rw [seq_false]
      exact ⟨ih.len, fun j hj => ih.same j (fun i hi => hj i (by omega)), fun h => by (cases h), fun h => absurd (ih.free h).1 (by simp)⟩
    | true =>
      rw [seq_true]
      rcases wrote_cases D1 (f k).1 (f k).2 with ⟨e, h1⟩ | ⟨e, h1⟩ | ⟨e, h1⟩
      · rw [e]
        refine ⟨ih.len, fun j hj => ih.same j (fun i hi => hj i (by omega)), fun h hinj hlt i hi => ?_, ih.free⟩
        by_cases hik : i = k
        · subst hik; exact h1
        · exact ih.done rfl (fun a ha b hb => hinj a (by omega) b (by omega)) (fun a ha => hlt a (by omega)) i (by omega)
      · rw [e]
        refine ⟨ih.len, fun j hj => ih.same j (fun i hi => hj i (by omega)), fun h => by (cases h), fun h => ?_⟩
        have := free_dead (ih.free h).2
        dsimp only at this
        rw [h1] at this
        cases this
      · rw [e]
        refine ⟨?_, fun j hj => ?_, fun h hinj hlt i hi => ?_, fun h => ⟨rfl, free_done (D := D1.put (f k).1 (f k).2) (ih.free h).2⟩⟩
        · show (D1.put (f k).1 (f k).2).secs.length = _
          rw [put_len]; exact ih.len
        · show (D1.put (f k).1 (f k).2).done.secs[j]? = _
          rw [put_secs _ _ _ _ (hj k (by omega))]
          exact ih.same j (fun i hi => hj i (by omega))
        · show (D1.put (f k).1 (f k).2).done.at_ _ = _
          by_cases hik : i = k
          · subst hik
            exact put_at _ _ _ (by have := ih.len; dsimp only at this; rw [this]; exact hlt i hi)
          · rw [at_secs (put_secs _ _ _ _ (fun e => hik (hinj k (by omega) i hi e).symm))]
            exact ih.done rfl (fun a ha b hb => hinj a (by omega) b (by omega)) (fun a ha => hlt a (by omega)) i (by omega)
end Go.Proofs.YtbjbjnbloddioaaDoor
