/- The laws' helpers: after, is. -/
import Derived.Test.YtbjbjnbloddioaaDoorMa
set_option linter.unusedVariables false
set_option linter.unusedSimpArgs false
namespace Go.Proofs.YtbjbjnbloddioaaDoor
open Go.RowKit Go.Shelf

/-- A model behind the first k puts. -/
def applyTo (m : List (List UInt8)) (L : List (Int × List UInt8)) (k : Nat) : List (List UInt8) := (List.range m.length).map fun (i : Nat) => (lastB L k i).getD (m.getD i [])
theorem applyTo_all (m : List (List UInt8)) (L : List (Int × List UInt8)) : applyTo m L L.length = applyM m L := rfl
theorem applyTo_zero (m : List (List UInt8)) (L : List (Int × List UInt8)) : applyTo m L 0 = m := by
  apply List.ext_getElem?
  intro i
  by_cases h : i < m.length
  · simp [applyTo, lastB, h, List.getD]
  · simp [applyTo, h]
theorem applyTo_len (m : List (List UInt8)) (L : List (Int × List UInt8)) (k : Nat) : (applyTo m L k).length = m.length := by simp [applyTo]
theorem applyTo_succ (m : List (List UInt8)) (L : List (Int × List UInt8)) (k j : Nat) (x : List UInt8) (h : L[k]? = some ((j : Int), x)) : applyTo m L (k + 1) = (applyTo m L k).set j x := by
  apply List.ext_getElem?
  intro i
  rw [List.getElem?_set, applyTo_len]
  by_cases hi : i < m.length
  · by_cases e : j = i
    · subst e
      simp [applyTo, lastB, h, hi]
    · have e' : ¬ (j : Int) = (i : Int) := by omega
      rw [if_neg e]
      simp only [applyTo, List.getElem?_map, List.getElem?_range hi, Option.map_some, lastB, h]
      rw [if_neg e']
  · by_cases e : j = i
    · subst e
      simp [applyTo, hi]
    · rw [if_neg e]
      simp [applyTo, hi]
theorem Rows5.set {w : World} {xs : List Value} {m : List (List UInt8)} {u : Value} {x : List UInt8} (h : Rows5 w xs m) (hr : Row w u x) (j : Nat) : Rows5 w (xs.set j u) (m.set j x) := ⟨by simp [h.1], fun i v y h1 h2 => by
  rw [List.getElem?_set] at h1 h2
  by_cases e : j = i
  · rw [if_pos e] at h1 h2
    split at h1
    · split at h2
      · injection h1 with h1
        injection h2 with h2
        subst h1 h2
        exact hr
      · cases h2
    · cases h1
  · rw [if_neg e] at h1 h2
    exact h.2 i v y h1 h2⟩
theorem ModelAt.rd {w : World} {A : Option Addr} {m : List (List UInt8)} (h : ModelAt w A m) : ∃ xs, Rd w A xs ∧ Rows5 w xs m := by
  obtain ⟨xs, h1, h2⟩ := h
  exact ⟨xs, h1.rd, h2⟩
theorem row_one {w : World} {xs : List Value} {m : List (List UInt8)} (h : Rows5 w xs m) : ∀ u ∈ xs, u.oneCell' = true := by
  intro u hu
  obtain ⟨j, hj⟩ := List.mem_iff_getElem?.1 hu
  have hl := (List.getElem?_eq_some_iff.1 hj).1
  obtain ⟨A, c, rfl, _⟩ := h.2 j u (m[j]'(by rw [← h.1]; exact hl)) hj (List.getElem?_eq_getElem _)
  rfl

set_option maxRecDepth 100000 in
set_option maxHeartbeats 1600000 in
theorem after_o (m : List (List UInt8)) (L : List (Int × List UInt8)) (A B : Option Addr) (c d : Nat) (w : World) (hm : ModelAt w A m) (hL : PutsAt w B L) (hml : m.length ≤ 1000) (hLl : L.length ≤ 1000) (hok : ∀ p ∈ L, putOK m.length p = true) :
    Calls Tryd.prog 20 #[.slice A m.length c, .slice B L.length d] w (fun e w' => ∃ A' c', e = .returned (.slice A' m.length c') ∧ m.length ≤ c' ∧ ModelAt w' A' (applyM m L) ∧ Below w.heap.size w w') := by
  obtain ⟨xs, hx, hR⟩ := hm.rd
  have hxl : xs.length = m.length := hR.1
  go_enter Tryd.func20, Tryd.ntmps20
  go_wp2_with (at_builtin; refine Stop.out ?_)
  refine Stop.mk ?_
  refine wpList_app _ rfl (.const (.slice none 0 0)) (.tmp 7) 38 rfl 28 (.slice none 0 0) 1 24 w.heap.size Tryd.underlying38 info28 rfl (by omega) (.slice none 0 0) 0 [] rfl (World.ownsRow_nil _ _ _ _) A m.length c xs rfl (by omega) hx (row_one hR) (by omega) (by omega) (Nat.le_refl _) ?_
  intro A' c' w1 ho1 hg1 _
  rw [List.nil_append, Nat.zero_add] at ho1
  have hb1 : Below w.heap.size w w1 := (Below.refl _ _).grown hg1 (Nat.le_refl _) (fun k e => by cases e)
  have hR1 := hR.below hb1
  have hL1 := hL.below hb1
  simp only [Nat.zero_add]
  clear hg1
  by_cases hm0 : m = []
  · subst hm0
    have hL0 : L = [] := by
      cases L with
      | nil => rfl
      | cons p L =>
        have := hok p (by simp)
        unfold putOK at this
        simp at this
        omega
    subst hL0
    go_wp2_with fail
    go_loopw [6] (fun i wr => i = .int .i64 0 ∧ wr = w1) (fun _ _ => 0)
    case atStart => exact ⟨rfl, rfl⟩
    case round =>
      obtain ⟨rfl, rfl⟩ := hrel
      go_wp2_with fail
      go_ret
      exact ⟨A', c', rfl, by simp, ⟨xs, RdT.own ho1, hR1⟩, hb1⟩
  · have hml0 : 0 < m.length := List.length_pos_iff.2 hm0
    obtain ⟨g, cap, ev, _⟩ := ho1.form (by omega)
    injection ev with eA _ ec
    subst eA
    rcases ho1.2 with ⟨e, _⟩ | ⟨g', cap', cur, e, hgB, hgg, hnc, hcm, hsz, htk⟩
    · cases e
    injection e with eA _ ec'
    injection eA with eA
    injection eA with eA
    subst eA ec ec'
    have hcz : m.length ≤ cur.size := by omega
    clear ho1
    go_wp2_with fail
    go_loopw [6] (fun i wr => ∃ (k : Nat) (cu : Array Value), k ≤ L.length ∧ i = .int .i64 k ∧ wr.heap[g]? = some (.cells cu 28 (0, 0)) ∧ m.length ≤ cu.size ∧ Rows5 wr (cu.toList.take m.length) (applyTo m L k) ∧ Below w.heap.size w wr) (fun i _ => L.length - (intOf i).toNat)
    case atStart => exact ⟨0, cur, by omega, rfl, hgg, hcz, by rw [applyTo_zero, ← Nat.mul_one m.length, htk]; exact hR1, hb1⟩
    case round =>
      obtain ⟨k, cu, hk, rfl, hcu, hcuz, hRk, hbr⟩ := hrel
      by_cases hlt : k < L.length
      · have hpk : L[k]? = some L[k] := List.getElem?_eq_getElem hlt
        obtain ⟨gp, o, cs, A2, c2, rfl, hgp, q0, q1, q2, q3⟩ := (hL.below hbr) k L[k] hpk
        have hokk := hok L[k] (List.getElem_mem hlt)
        unfold putOK at hokk
        simp at hokk
        obtain ⟨j, hj⟩ := Int.eq_ofNat_of_zero_le hokk.1.1
        have hjm : j < m.length := by omega
        have a0 : wr.drew.cell? ⟨gp, o + k * 2, none⟩ = some (.int .i64 j) := (cell_of_row wr gp _ _ 30 (0, 0) hgp).trans (by rw [q0, hj])
        have a1 : wr.drew.cell? ⟨gp, o + k * 2 + 1, none⟩ = some (.slice A2 L[k].2.length c2) := (cell_of_row wr gp _ _ 30 (0, 0) hgp).trans q1
        have hnext := applyTo_succ m L k j L[k].2 (by rw [hpk, ← hj])
        have hrow : Row wr (.slice A2 L[k].2.length c2) L[k].2 := ⟨A2, c2, rfl, q2, q3⟩
        have hck : ∃ u, wr.drew.cell? ⟨g, j, none⟩ = some u := by
          refine ⟨_, (cell_of_row wr g j _ 28 (0, 0) hcu).trans (Array.getElem?_eq_getElem (by omega))⟩
        obtain ⟨u, hck⟩ := hck
        have hfr : wr.drew.frozen? ⟨g, j, none⟩ = false := frozen_of_row wr g j _ 28 hcu
        have hset := heap_setCell_same wr.drew g j _ 28 (.slice A2 L[k].2.length c2) hcu
        have hf2 : Fr (fun i => i = g) wr (wr.drew.setCell ⟨g, j, none⟩ (.slice A2 L[k].2.length c2)) := Fr.set (S := fun i => i = g) (Fr.below (below_drew wr)) (p := ⟨g, j, none⟩) rfl _
        have hn5 : No5 (fun i => i = g) wr := by
          rintro i rfl cs e
          rw [hcu] at e; injection e with e; injection e with _ e _; exact absurd e (by decide)
        have hR2 : Rows5 (wr.drew.setCell ⟨g, j, none⟩ (.slice A2 L[k].2.length c2)) ((cu.setIfInBounds j (.slice A2 L[k].2.length c2)).toList.take m.length) (applyTo m L (k + 1)) := by
          rw [hnext, Array.toList_setIfInBounds, List.take_set]
          exact (hRk.set hrow j).fr hf2 hn5
        have hb2 : Below w.heap.size w (wr.drew.setCell ⟨g, j, none⟩ (.slice A2 L[k].2.length c2)) := hbr.trans (hf2.to (fun i e => by subst e; exact hgB) hbr.size)
        have hji : (j : Int) < m.length := by omega
        have HZ := Lib.hid (And.intro hset (And.intro hR2 hb2))
        clear hset hR2 hb2 hf2 hn5 hrow hnext hpk hokk hj q0 q1 q2 q3 hgp hRk hbr hcu
        generalize L[k].2.length = li at *
        generalize hwd : wr.drew = wd at *
        have HWD := Lib.hid hwd
        clear hwd
        go_wp2_with fail
        refine wp_region_seg [12] [[0, 1, 2, 3, 4, 5, 6, 7, 8, 9, 10, 11, 12]] (by kernel_rfl) (by kernel_rfl) ?_
        simp only [Seg, pick_cons, pick_nil, List.getElem?_toArray, List.getElem?_cons_zero, List.getElem?_cons_succ, Option.toList_some, List.cons_append, List.nil_append]
        rw [HWD.out]
        go_wp2_with fail
        refine Fin.intro ⟨by kernel_rfl, ?_⟩
        go_wp2_with fail
        go_roundw
        case rel =>
          obtain ⟨z1, z2, z3⟩ := HZ.out
          exact ⟨k + 1, _, by omega, by go_num, z1, by simpa using hcuz, z2, z3⟩
        case measure => simp [intOf]; omega
      · obtain rfl : k = L.length := by omega
        rw [applyTo_all] at hRk
        go_wp2_with fail
        go_ret
        refine ⟨_, _, rfl, hnc, ⟨_, ?_, hRk⟩, hbr⟩
        intro i u hu
        rw [List.getElem?_take] at hu
        split at hu
        · exact ⟨g, 0, cu, rfl, hcu, by simpa using hu⟩
        · cases hu
end Go.Proofs.YtbjbjnbloddioaaDoor
