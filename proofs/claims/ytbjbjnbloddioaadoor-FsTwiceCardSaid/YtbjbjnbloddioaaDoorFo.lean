/- Commit. -/
import Derived.Test.YtbjbjnbloddioaaDoorFn
set_option linter.unusedVariables false
set_option linter.unusedSimpArgs false
namespace Go.Proofs.YtbjbjnbloddioaaDoor
open Go.RowKit Go.Shelf

/-- A volume on a disk, as it is meant. -/
structure VolD where
  d : DiskD
  b : Nat
  c : Nat
  br : Bool
def commitR (V : VolD) : Bool × DiskD → Int × VolD
  | (true, D) => (0, { V with d := D, c := V.c + 1 })
  | (false, D) => (48, { V with d := D, br := true })
/-- Commit. -/
def VolD.commit (V : VolD) (L : List (Int × List UInt8)) : Int × VolD :=
  if mayB L V.b = false then (7, V)
  else if L = [] then (0, V)
  else if V.br then (48, V)
  else commitR V (V.d.turn V.b V.c L)
/-- .. in memory. -/
structure VAt (w : World) (v g gl : Nat) (V : VolD) : Prop where
  vol : VolAt w v g V.b (V.c : Int) V.br
  disk : DiskAt w g gl V.d
  len : 8 + 2 * V.b ≤ V.d.secs.length
  small : V.c < 900000
def three (v g gl : Nat) : Nat → Prop := fun k => k = v ∨ k = g ∨ k = gl
theorem turn_len (D : DiskD) (b c : Nat) (L : List (Int × List UInt8)) : (D.turn b c L).2.secs.length = D.secs.length := by
  have h1 := wroteTo_len (turnF D b c L) D b
  unfold DiskD.turn
  generalize wroteTo (turnF D b c L) D b = r1 at h1 ⊢
  obtain ⟨o1, D1⟩ := r1
  cases o1 with
  | false => exact h1
  | true =>
    rw [seq_true]
    have h2 := sync_len D1
    generalize D1.sync = r2 at h2 ⊢
    obtain ⟨o2, D2⟩ := r2
    cases o2 with
    | false => exact h2.trans h1
    | true =>
      rw [seq_true]
      have h3 := write_len D2 ((c + 1) % 2) (hd (c + 1))
      generalize D2.write ((c + 1) % 2) (hd (c + 1)) = r3 at h3 ⊢
      obtain ⟨o3, D3⟩ := r3
      cases o3 with
      | false => exact h3.trans (h2.trans h1)
      | true =>
        rw [seq_true]
        exact (sync_len D3).trans (h3.trans (h2.trans h1))
set_option maxRecDepth 100000 in
theorem commit_nil (x : Value) (w : World) : Calls Tryd.prog 10 #[.pointer none, x] w (fun e w' => e = .returned (.int .i64 7) ∧ w = w') := by
  go_enter Tryd.func10, Tryd.ntmps10
  go_wp2_with fail
  refine (may_nil x _).mono ?_
  rintro e _ ⟨rfl, rfl⟩
  go_wp2_with fail
  go_ret
  exact ⟨rfl, rfl⟩
/-- A cell of the volume laid anew. -/
theorem vol_set {w : World} {v g gl b : Nat} {c : Int} {br : Bool} {D : DiskD} (hv : VolAt w v g b c br) (hD : DiskAt w g gl D) (j : Nat) (x : Value) :
    (w.setCell ⟨v, j, none⟩ x).heap[v]? = some (.cells (#[.pointer (some ⟨g, 0, none⟩), .int .i64 (b : Int), .int .i64 c, .bool br].setIfInBounds j x) 65 (0, 0)) ∧ DiskAt (w.setCell ⟨v, j, none⟩ x) g gl D ∧ Fr (three v g gl) w (w.setCell ⟨v, j, none⟩ x) := by
  have hn5 : No5 (fun k => k = v) w := by
    rintro k rfl cs e
    unfold VolAt at hv
    rw [hv] at e; injection e with e; injection e with _ e _; exact absurd e (by decide)
  have hS := VolAt.apart hv hD
  refine ⟨heap_setCell_same w v j _ 65 x hv, ?_, (Fr.refl _ _).set (p := ⟨v, j, none⟩) (.inl rfl) x⟩
  exact hD.fr (S := fun k => k = v) ((Fr.refl (fun k => k = v) w).set (p := ⟨v, j, none⟩) rfl x) hn5 (fun e => hS (.inl e.symm)) (fun e => hS (.inr e.symm))
theorem two_three {v g gl k : Nat} (h : two g gl k) : three v g gl k := .inr h

set_option maxRecDepth 100000 in
set_option maxHeartbeats 3200000 in
theorem commit_o (v g gl : Nat) (V : VolD) (A : Option Addr) (cp : Nat) (L : List (Int × List UInt8)) (w : World) (h : VAt w v g gl V) (hL : PutsAt w A L) (hll : L.length ≤ 1000000) (hK : Kg w) (h0 : ¬ three v g gl 0) (hcs : V.c + 1 < 900000) :
    Calls Tryd.prog 10 #[.pointer (some ⟨v, 0, none⟩), .slice A L.length cp] w (fun e w' => e = .returned (.int .i64 (V.commit L).1) ∧ VAt w' v g gl (V.commit L).2 ∧ Fr (three v g gl) w w') := by
  have hb : V.b ≤ 1000000 := by have := h.len; have := h.disk.len; omega
  have hmay := may_o v g V.b (V.c : Int) V.br A cp L w h.vol hL hll hb
  have hvl := (Array.getElem?_eq_some_iff.1 h.vol).1
  unfold VolD.commit
  cases hm : mayB L V.b with
  | false =>
    rw [hm] at hmay
    simp only [if_true]
    go_enter Tryd.func10, Tryd.ntmps10
    go_wp2_with fail
    refine hmay.mono ?_
    rintro e w1 ⟨rfl, hb1⟩
    go_wp2_with fail
    go_ret
    exact ⟨rfl, ⟨(hb1.block v hvl).trans h.vol, h.disk.below hb1, h.len, h.small⟩, Fr.below hb1⟩
  | true =>
    rw [hm] at hmay
    simp only [Bool.true_eq_false, if_false]
    by_cases hL0 : L = []
    · subst hL0
      simp only [if_true]
      go_enter Tryd.func10, Tryd.ntmps10
      go_wp2_with fail
      refine hmay.mono ?_
      rintro e w1 ⟨rfl, hb1⟩
      go_wp2_with fail
      go_ret
      exact ⟨rfl, ⟨(hb1.block v hvl).trans h.vol, h.disk.below hb1, h.len, h.small⟩, Fr.below hb1⟩
    · rw [if_neg hL0]
      have hl0 : 0 < L.length := List.length_pos_iff.2 hL0
      have hl0' : ((L.length : Int) == 0) = false := by simp; omega
      have hl1 : ¬ (L.length : Int) = 0 := by omega
      have HM := Lib.hid hm
      clear hm hL0
      cases hbr : V.br with
      | true =>
        simp only [if_true]
        have HBR := Lib.hid hbr
        have hvol := h.vol
        rw [hbr] at hvol
        clear hbr
        go_enter Tryd.func10, Tryd.ntmps10
        go_wp2_with fail
        refine hmay.mono ?_
        rintro e w1 ⟨rfl, hb1⟩
        have hv1 : VolAt w1 v g V.b (V.c : Int) true := (hb1.block v hvl).trans hvol
        have x3 : w1.cell? ⟨v, 3, none⟩ = some (.bool true) := cell_of_row w1 v 3 _ 65 (0, 0) hv1
        have f3 : w1.frozen? ⟨v, 3, none⟩ = false := frozen_of_row w1 v 3 _ 65 hv1
        obtain ⟨q1, q2, q3⟩ := vol_set hv1 (h.disk.below hb1) 3 (.bool true)
        have HQ := Lib.hid (And.intro q1 (And.intro q2 q3))
        clear q1 q2 q3 hvol
        go_wp2_with fail
        go_ret
        obtain ⟨q1, q2, q3⟩ := HQ.out
        refine ⟨rfl, ⟨?_, q2, h.len, h.small⟩, (Fr.below hb1).trans q3⟩
        rw [HBR.out]
        exact q1
      | false =>
        simp only [Bool.false_eq_true, if_false]
        have hvol := h.vol
        rw [hbr] at hvol
        have HBR := Lib.hid hbr
        clear hbr
        go_enter Tryd.func10, Tryd.ntmps10
        go_wp2_with fail
        refine hmay.mono ?_
        rintro e w1 ⟨rfl, hb1⟩
        have hv1 : VolAt w1 v g V.b (V.c : Int) false := (hb1.block v hvl).trans hvol
        have x3 : w1.cell? ⟨v, 3, none⟩ = some (.bool false) := cell_of_row w1 v 3 _ 65 (0, 0) hv1
        have ht := turn_o v g gl V.b V.c false V.d A cp L w1 hv1 (h.disk.below hb1) (hL.below hb1) (hK.below hb1 hK.pos) (fun e => h0 (two_three e)) HM.out hb (by omega) h.len
        have hlen := turn_len V.d V.b V.c L
        generalize hres : V.d.turn V.b V.c L = res at ht hlen
        obtain ⟨ok, D1⟩ := res
        have HRS := Lib.hid hres
        clear hres
        dsimp only at ht hlen
        clear hvol
        go_wp2_with fail
        refine ht.mono ?_
        rintro e w2 ⟨rfl, h2, hf2⟩
        clear ht x3
        have hv2 : VolAt w2 v g V.b (V.c : Int) false := hf2.same hv1 (VolAt.apart hv1 (h.disk.below hb1))
        have hF2 : Fr (three v g gl) w w2 := (Fr.below hb1).trans (hf2.more fun k _ hk => two_three hk)
        have x2 : w2.cell? ⟨v, 2, none⟩ = some (.int .i64 (V.c : Int)) := cell_of_row w2 v 2 _ 65 (0, 0) hv2
        have f2 : w2.frozen? ⟨v, 2, none⟩ = false := frozen_of_row w2 v 2 _ 65 hv2
        have x3 : w2.cell? ⟨v, 3, none⟩ = some (.bool false) := cell_of_row w2 v 3 _ 65 (0, 0) hv2
        have f3 : w2.frozen? ⟨v, 3, none⟩ = false := frozen_of_row w2 v 3 _ 65 hv2
        cases ok with
        | false =>
          have HQ := Lib.hid (vol_set hv2 h2 3 (.bool true))
          clear hv1 hv2
          go_wp2_with fail
          go_ret
          obtain ⟨q1, q2, q3⟩ := HQ.out
          rw [HRS.out]
          exact ⟨rfl, ⟨q1, q2, by show 8 + 2 * V.b ≤ D1.secs.length; rw [hlen]; exact h.len, h.small⟩, hF2.trans q3⟩
        | true =>
          have HQ := Lib.hid (vol_set hv2 h2 2 (.int .i64 ((V.c : Int) + 1)))
          clear hv1 hv2
          go_wp2_with fail
          go_ret
          obtain ⟨q1, q2, q3⟩ := HQ.out
          rw [HRS.out]
          refine ⟨rfl, ⟨?_, q2, by show 8 + 2 * V.b ≤ D1.secs.length; rw [hlen]; exact h.len, ?_⟩, hF2.trans q3⟩
          · show VolAt _ v g V.b ((V.c + 1 : Nat) : Int) V.br
            rw [HBR.out, show ((V.c + 1 : Nat) : Int) = (V.c : Int) + 1 by simp]
            exact q1
          · exact hcs
end Go.Proofs.YtbjbjnbloddioaaDoor
