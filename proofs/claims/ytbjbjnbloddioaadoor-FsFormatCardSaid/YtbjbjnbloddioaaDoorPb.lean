/- Plain law: a format of a new disk, a commit. -/
import Derived.Test.YtbjbjnbloddioaaDoorPa
set_option linter.unusedVariables false
set_option linter.unusedSimpArgs false
namespace Go.Proofs.YtbjbjnbloddioaaDoor

/-! ### format -/
theorem wroteTo_none (f : Nat → Nat × List UInt8) (D : DiskD) : ∀ k, (∀ i, i < k → D.at_ (f i).1 = (f i).2) → wroteTo f D k = (true, D)
  | 0, _ => rfl
  | k + 1, h => by
    simp only [wroteTo, wroteTo_none f D k (fun i hi => h i (by omega)), seq_true]
    unfold DiskD.wrote
    rw [if_pos (h k (by omega))]
def Zero (D : DiskD) : Prop := ∀ j, j < D.secs.length → D.at_ j = zs 256
theorem new_zero (N : Nat) : Zero (DiskD.new N) := fun j hj => by
  have : j < N := by simpa [DiskD.new] using hj
  simp [DiskD.at_, DiskD.new, this]
theorem new_len (N : Nat) : (DiskD.new N).secs.length = N := by simp [DiskD.new]
theorem flush_zero {D : DiskD} (h : Zero D) : Zero D.flush.done := fun j hj => by
  rw [flush_len] at hj
  rw [flush_at]; exact h j hj
/-- A format of zeros: two syncs, a head, a sync. -/
theorem fmt_zero {D : DiskD} (h : Zero D) (hl : 16 ≤ D.secs.length) : D.fmt = seqD (seqD (seqD D.sync DiskD.sync) fun D => D.write 0 (hd 0)) DiskD.sync := by
  have e1 : wroteTo (zf 0) D 2 = (true, D) := wroteTo_none _ _ _ fun i hi => h _ (by simp [zf]; omega)
  unfold DiskD.fmt
  rw [e1, seq_true]
  unfold DiskD.sync
  cases hd1 : D.dead with
  | true => simp [seqD]
  | false =>
    simp only [Bool.false_eq_true, if_false, seq_true]
    have h2 := flush_zero h
    have e2 : wroteTo (zf 8) D.flush.done ((D.flush.done.secs.length - 8) / 2) = (true, D.flush.done) := wroteTo_none _ _ _ fun i hi => h2 _ (by simp [zf]; omega)
    rw [e2, seq_true]
    cases hd2 : D.flush.done.dead with
    | true => simp [seqD]
    | false =>
      simp only [Bool.false_eq_true, if_false, seq_true]
      have h3 := flush_zero h2
      unfold DiskD.wrote
      rw [if_neg (by rw [h3 0 (by rw [flush_len, flush_len]; omega)]; exact hd_ne_zs 0)]
theorem zero_good {D : DiskD} (h : Zero D) (hl : 16 ≤ D.secs.length) {f : Nat → List UInt8} (h0 : f 0 = hd 0) (hf : ∀ j, j ≠ 0 → f j = D.at_ j) : GoodA f D.secs.length ((D.secs.length - 8) / 2) 0 (List.replicate ((D.secs.length - 8) / 2) (zs 256)) := by
  refine ⟨hl, rfl, by simp, by omega, h0, .inl ?_, fun i hi => ?_⟩
  · rw [hf _ (by simp)]; exact h _ (by omega)
  · have hs : sideN ((D.secs.length - 8) / 2) 0 i = 8 + i := by simp [sideN]
    rw [hs, hf _ (by omega), h _ (by omega)]
    simp [hi]
theorem put_other (D : DiskD) (i j : Nat) (x : List UInt8) (h : j ≠ i) : (D.put i x).done.at_ j = D.at_ j := at_secs (put_secs D i j x (fun e => h e.symm))
/-- A format of a disk of zeros, with no fuse: a volume of zeros. -/
theorem fmt_free {D : DiskD} (h : Zero D) (hl : 16 ≤ D.secs.length) (hf : D.fuse = none) : D.format.1 = 0 ∧ Good D.format.2 ((D.secs.length - 8) / 2) 0 (List.replicate ((D.secs.length - 8) / 2) (zs 256)) ∧ D.format.2.fuse = none ∧ D.format.2.secs.length = D.secs.length := by
  have hr : D.refused = 0 := by
    unfold DiskD.refused
    rw [if_neg (by omega), free_dead hf]
    rfl
  unfold DiskD.format
  rw [if_pos hr, fmt_zero h hl]
  have f1 : D.sync = (true, D.flush.done) := by unfold DiskD.sync; rw [free_dead hf]; rfl
  have g1 : D.flush.done.fuse = none := free_done (D := D.flush) hf
  have f2 : D.flush.done.sync = (true, D.flush.done.flush.done) := by unfold DiskD.sync; rw [free_dead g1]; rfl
  have g2 : D.flush.done.flush.done.fuse = none := free_done (D := D.flush.done.flush) g1
  generalize hE : D.flush.done.flush.done = E at f2 g2
  have hzE : Zero E := by rw [← hE]; exact flush_zero (flush_zero h)
  have hlE : E.secs.length = D.secs.length := by rw [← hE, flush_len, flush_len]
  have f3 : E.write 0 (hd 0) = (true, (E.put 0 (hd 0)).done) := by unfold DiskD.write; rw [free_dead g2]; rfl
  have g3 : (E.put 0 (hd 0)).done.fuse = none := free_done (D := E.put 0 (hd 0)) g2
  have f4 : (E.put 0 (hd 0)).done.sync = (true, (E.put 0 (hd 0)).done.flush.done) := by unfold DiskD.sync; rw [free_dead g3]; rfl
  rw [f1, seq_true, f2, seq_true, f3, seq_true, f4]
  have hlp : (E.put 0 (hd 0)).done.flush.done.secs.length = D.secs.length := by
    rw [flush_len]
    show (E.put 0 (hd 0)).secs.length = _
    rw [put_len, hlE]
  refine ⟨rfl, ⟨?_, flush_clean _⟩, free_done (D := (E.put 0 (hd 0)).done.flush) g3, hlp⟩
  dsimp only
  rw [hlp, ← hlE]
  refine zero_good hzE (by rw [hlE]; exact hl) ?_ (fun j hj => ?_)
  · rw [flush_at, put_at _ _ _ (by omega)]
  · rw [flush_at, put_other _ _ _ _ hj]
/-! ### a commit -/
def applyM (m : List (List UInt8)) (L : List (Int × List UInt8)) : List (List UInt8) := (List.range m.length).map fun (i : Nat) => (lastB L L.length i).getD (m.getD i [])
theorem applyM_len (m : List (List UInt8)) (L : List (Int × List UInt8)) : (applyM m L).length = m.length := by simp [applyM]
theorem newB_at {D : DiskD} {len b n : Nat} {m : List (List UInt8)} (h : GoodA D.at_ len b n m) (L : List (Int × List UInt8)) (i : Nat) (hi : i < b) : (applyM m L)[i]? = some (newB D b n L i) := by
  have hm := h.hm
  have hd := h.data i hi
  have : m.getD i [] = D.at_ (sideN b n i) := by simp [List.getD, hd]
  simp only [applyM, List.getElem?_map, List.getElem?_range (show i < m.length by omega), Option.map_some, newB, this]
/-- What a turn leaves. -/
structure TurnG (D : DiskD) (b n : Nat) (m : List (List UInt8)) (L : List (Int × List UInt8)) (r : Bool × DiskD) : Prop where
  len : r.2.secs.length = D.secs.length
  yes : r.1 = true → Good r.2 b (n + 1) (applyM m L)
  no : r.1 = false → ∀ i, i < b → r.2.at_ (sideN b n i) = D.at_ (sideN b n i)
  crash : ∀ kf, Good (r.2.crash kf) b n m ∨ Good (r.2.crash kf) b (n + 1) (applyM m L)
  free : D.fuse = none → r.1 = true ∧ r.2.fuse = none
theorem turn_good {D : DiskD} {b n : Nat} {m : List (List UInt8)} (h : Good D b n m) (L : List (Int × List UInt8)) (hn : n + 1 < 900000) : TurnG D b n m L (D.turn b n L) := by
  have hlen : 8 + 2 * b ≤ D.secs.length := by have := h.a.hb; have := h.a.lo; omega
  have hwt := wroteTo_wt (turnF D b n L) D b
  unfold DiskD.turn
  generalize wroteTo (turnF D b n L) D b = r1 at hwt ⊢
  obtain ⟨o1, D1⟩ := r1
  have hl1 : D1.secs.length = D.secs.length := hwt.len
  have hs1 : ∀ j, (j < 8 ∨ ∃ i, i < b ∧ j = sideN b n i) → D1.secs[j]? = D.secs[j]? := fun j hj => hwt.same j fun i hi e => by
    rcases hj with hj | ⟨i', hi', rfl⟩
    · unfold turnF sideN at e; dsimp only at e; omega
    · exact side_ne hi hi' e
  -- a crash ahead of the sync
  have hc1 : ∀ kf, Good (D1.crash kf) b n m := fun kf => by
    refine ⟨?_, crash_clean _ _⟩
    rw [crash_len, hl1]
    have key : ∀ j, (j < 8 ∨ ∃ i, i < b ∧ j = sideN b n i) → (D1.crash kf).at_ j = D.at_ j := fun j hj =>
      (crash_same kf (fun s hs => h.clean j s (by rw [← hs1 j hj]; exact hs))).trans (at_secs (hs1 j hj))
    exact h.a.same (fun j hj => key j (.inl hj)) (fun i hi => key _ (.inr ⟨i, hi, rfl⟩))
  have ha1 : ∀ i, i < b → D1.at_ (sideN b n i) = D.at_ (sideN b n i) := fun i hi => at_secs (hs1 _ (.inr ⟨i, hi, rfl⟩))
  cases o1 with
  | false =>
    rw [seq_false, seq_false, seq_false]
    exact ⟨hl1, fun e => (by cases e), fun _ => ha1, fun kf => .inl (hc1 kf), fun e => absurd (hwt.free e).1 (by simp)⟩
  | true =>
    rw [seq_true]
    have hdone : ∀ i, i < b → D1.at_ (sideN b (n + 1) i) = newB D b n L i := fun i hi => hwt.done rfl (fun a ha c hc e => by unfold turnF sideN at e; dsimp only at e; omega) (fun a ha => by unfold turnF; exact sideN_lt ha hlen) i hi
    unfold DiskD.sync
    cases hd1 : D1.dead with
    | true =>
      simp only [if_true, seq_false]
      exact ⟨hl1, fun e => (by cases e), fun _ => ha1, fun kf => .inl (hc1 kf), fun e => absurd (free_dead (hwt.free e).2) (by rw [hd1]; simp)⟩
    | false =>
      simp only [Bool.false_eq_true, if_false, seq_true]
      have hl2 : D1.flush.done.secs.length = D.secs.length := (flush_len D1).trans hl1
      have ha2 : ∀ j, D1.flush.done.at_ j = D1.at_ j := flush_at D1
      have hcl2 := flush_clean D1
      have hfr2 : D.fuse = none → D1.flush.done.fuse = none := fun e => free_done (D := D1.flush) (hwt.free e).2
      generalize D1.flush.done = D2 at hl2 ha2 hcl2 hfr2 ⊢
      have hg2 : Good D2 b n m := by
        refine ⟨?_, hcl2⟩
        rw [hl2]
        exact h.a.same (fun j hj => (ha2 j).trans (at_secs (hs1 j (.inl hj)))) (fun i hi => (ha2 _).trans (ha1 i hi))
      unfold DiskD.write
      cases hd2 : D2.dead with
      | true =>
        simp only [if_true, seq_false]
        exact ⟨hl2, fun e => (by cases e), fun _ i hi => (ha2 _).trans (ha1 i hi), fun kf => .inl (hg2.crash kf), fun e => absurd (free_dead (hfr2 e)) (by rw [hd2]; simp)⟩
      | false =>
        simp only [Bool.false_eq_true, if_false, seq_true]
        have hhl : (n + 1) % 2 < D2.secs.length := by have := h.a.lo; omega
        have hl3 : (D2.put ((n + 1) % 2) (hd (n + 1))).done.secs.length = D.secs.length := by
          show (D2.put ((n + 1) % 2) (hd (n + 1))).secs.length = _
          rw [put_len, hl2]
        have hput := put_at D2 ((n + 1) % 2) (hd (n + 1)) hhl
        have hoth : ∀ j, j ≠ (n + 1) % 2 → (D2.put ((n + 1) % 2) (hd (n + 1))).done.secs[j]? = D2.secs[j]? := fun j hj => put_secs _ _ _ _ (fun e => hj e.symm)
        have hsec : (D2.put ((n + 1) % 2) (hd (n + 1))).done.secs[(n + 1) % 2]? = some ⟨hd (n + 1), D2.secs[(n + 1) % 2].syn, true⟩ := by
          simp [DiskD.done, DiskD.put, List.getElem?_modify, hhl]
        have hold : D2.secs[(n + 1) % 2].syn = D2.at_ ((n + 1) % 2) := by
          have e := List.getElem?_eq_getElem hhl
          rw [hcl2 _ _ e, at_get e]
        have hfr3 : D.fuse = none → (D2.put ((n + 1) % 2) (hd (n + 1))).done.fuse = none := fun e => free_done (D := D2.put ((n + 1) % 2) (hd (n + 1))) (hfr2 e)
        generalize (D2.put ((n + 1) % 2) (hd (n + 1))).done = D3 at hl3 hput hoth hsec hfr3 ⊢
        -- with the new head
        have hnew : ∀ f : Nat → List UInt8, f ((n + 1) % 2) = hd (n + 1) → (∀ j, j ≠ (n + 1) % 2 → f j = D2.at_ j) → GoodA f D.secs.length b (n + 1) (applyM m L) := fun f hf ho => by
          refine ⟨h.a.lo, h.a.hb, by rw [applyM_len]; exact h.a.hm, hn, hf, .inr ⟨n, by omega, by omega, ?_⟩, fun i hi => ?_⟩
          · rw [show (n + 1 + 1) % 2 = n % 2 by omega, ho _ (by omega)]
            exact hg2.a.head
          · rw [newB_at h.a L i hi, ho _ (by unfold sideN; omega), ha2, hdone i hi]
        have hc3 : ∀ kf, Good (D3.crash kf) b n m ∨ Good (D3.crash kf) b (n + 1) (applyM m L) := fun kf => by
          have ho : ∀ j, j ≠ (n + 1) % 2 → (D3.crash kf).at_ j = D2.at_ j := fun j hj =>
            (crash_same kf (fun s hs => hcl2 j s (by rw [← hoth j hj]; exact hs))).trans (at_secs (hoth j hj))
          have hh := crash_at D3 kf _ _ hsec
          dsimp only at hh
          rw [Bool.true_and, hold] at hh
          cases hk : kf ((n + 1) % 2) with
          | true =>
            right
            rw [hk] at hh
            refine ⟨?_, crash_clean _ _⟩
            rw [crash_len, hl3]
            exact hnew _ hh ho
          | false =>
            left
            rw [hk] at hh
            refine ⟨?_, crash_clean _ _⟩
            rw [crash_len, hl3, ← hl2]
            refine hg2.a.same (fun j _ => ?_) (fun i hi => ?_)
            · by_cases hj : j = (n + 1) % 2
              · subst hj; exact hh
              · exact ho j hj
            · exact ho _ (by unfold sideN; omega)
        cases hd3 : D3.dead with
        | true =>
          simp only [if_true]
          refine ⟨hl3, fun e => (by cases e), fun _ i hi => ?_, hc3, fun e => absurd (free_dead (hfr3 e)) (by rw [hd3]; simp)⟩
          rw [at_secs (hoth _ (by unfold sideN; omega)), ha2, ha1 i hi]
        | false =>
          simp only [Bool.false_eq_true, if_false]
          have hg4 : Good D3.flush.done b (n + 1) (applyM m L) := by
            refine ⟨?_, flush_clean _⟩
            rw [flush_len, hl3]
            exact hnew _ (by rw [flush_at, hput]) (fun j hj => by rw [flush_at, at_secs (hoth j hj)])
          exact ⟨by rw [flush_len, hl3], fun _ => hg4, fun e => (by cases e), fun kf => .inr (hg4.crash kf), fun e => ⟨rfl, free_done (D := D3.flush) (hfr3 e)⟩⟩
end Go.Proofs.YtbjbjnbloddioaaDoor
