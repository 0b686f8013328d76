/- Puts; may. -/
import Derived.Test.YtbjbjnbloddioaaDoorFl
set_option linter.unusedVariables false
set_option linter.unusedSimpArgs false
namespace Go.Proofs.YtbjbjnbloddioaaDoor
open Go.RowKit Go.Shelf

/-- A commit's list where it stands. -/
def PutsAt (w : World) (A : Option Addr) (L : List (Int × List UInt8)) : Prop := ∀ j p, L[j]? = some p →
  ∃ gp o cs A2 c2, A = some ⟨gp, o, none⟩ ∧ w.heap[gp]? = some (.cells cs 30 (0, 0)) ∧ cs[o + j * 2]? = some (.int .i64 p.1) ∧ cs[o + j * 2 + 1]? = some (.slice A2 p.2.length c2) ∧ p.2.length ≤ c2 ∧ Rd5 w A2 p.2
def No30 (S : Nat → Prop) (w : World) : Prop := ∀ k, S k → ∀ cs, w.heap[k]? ≠ some (.cells cs 30 (0, 0))
theorem PutsAt.fr {S : Nat → Prop} {w w' : World} {A : Option Addr} {L : List (Int × List UInt8)} (h : PutsAt w A L) (hf : Fr S w w') (h5 : No5 S w) (h30 : No30 S w) : PutsAt w' A L := fun j p hp => by
  obtain ⟨gp, o, cs, A2, c2, e, hg, h1, h2, h3, h4⟩ := h j p hp
  exact ⟨gp, o, cs, A2, c2, e, hf.same hg (fun hs => h30 gp hs cs hg), h1, h2, h3, h4.fr hf h5⟩
theorem PutsAt.below {w w' : World} {A : Option Addr} {L : List (Int × List UInt8)} (h : PutsAt w A L) (hb : Below w.heap.size w w') : PutsAt w' A L := h.fr (S := fun _ => False) (Fr.below hb) (fun _ h => h.elim) (fun _ h => h.elim)
def putOK (b : Nat) (p : Int × List UInt8) : Bool := decide (0 ≤ p.1) && decide (p.1 < b) && (p.2.length == 256)
def mayB (L : List (Int × List UInt8)) (b : Nat) : Bool := decide (L.length ≤ b) && L.all (putOK b)
set_option maxRecDepth 100000 in
theorem may_nil (x : Value) (w : World) : Calls Tryd.prog 33 #[.pointer none, x] w (fun e w' => e = .returned (.bool false) ∧ w = w') := by
  go_enter Tryd.func33, Tryd.ntmps33
  go_wp2_with fail
  go_ret
  exact ⟨rfl, rfl⟩
theorem all_stop {L : List (Int × List UInt8)} {b k : Nat} (hk : k < L.length) (h : putOK b L[k] = false) : L.all (putOK b) = false := by
  rw [List.all_eq_false]
  exact ⟨L[k], List.getElem_mem hk, by simp [h]⟩
theorem all_take {L : List (Int × List UInt8)} {b k : Nat} (hk : k < L.length) (h0 : (L.take k).all (putOK b) = true) (h : putOK b L[k] = true) : (L.take (k + 1)).all (putOK b) = true := by
  rw [List.take_succ_eq_append_getElem hk, List.all_append, h0]
  simp [h]
set_option maxRecDepth 100000 in
set_option maxHeartbeats 3200000 in
theorem may_o (v g b : Nat) (c : Int) (br : Bool) (A : Option Addr) (cp : Nat) (L : List (Int × List UInt8)) (w : World) (h : VolAt w v g b c br) (hL : PutsAt w A L) (hll : L.length ≤ 1000000) (hb : b ≤ 1000000) :
    Calls Tryd.prog 33 #[.pointer (some ⟨v, 0, none⟩), .slice A L.length cp] w (fun e w' => e = .returned (.bool (mayB L b)) ∧ Below w.heap.size w w') := by
  have hvl := (Array.getElem?_eq_some_iff.1 h).1
  have c1 : w.cell? ⟨v, 1, none⟩ = some (.int .i64 (b : Int)) := cell_of_row _ v 1 _ 65 (0, 0) h
  by_cases hlb : L.length ≤ b
  · have hmb : mayB L b = L.all (putOK b) := by simp [mayB, hlb]
    rw [hmb]
    have hlb' : (L.length : Int) ≤ (b : Int) := by omega
    have q0 : decide (b < L.length) = false := by simp; omega
    clear hmb
    go_enter Tryd.func33, Tryd.ntmps33
    go_wp2_with fail
    go_loopw [20] (fun i wr => ∃ k : Nat, k ≤ L.length ∧ i = .int .i64 k ∧ (L.take k).all (putOK b) = true ∧ Below w.heap.size w wr) (fun i _ => L.length - (intOf i).toNat)
    case atStart => exact ⟨0, by omega, rfl, by simp, Below.refl _ _⟩
    case round =>
      obtain ⟨k, hk, rfl, hall, hbr⟩ := hrel
      by_cases hlt : k < L.length
      · obtain ⟨gp, o, cs, A2, c2, rfl, hg, q0, q1, q2, q3⟩ := (hL.below hbr) k L[k] (List.getElem?_eq_getElem hlt)
        have a0 : wr.cell? ⟨gp, o + k * 2, none⟩ = some (.int .i64 L[k].1) := (cell_of_row _ gp _ _ 30 (0, 0) hg).trans q0
        have a1 : wr.cell? ⟨gp, o + k * 2 + 1, none⟩ = some (.slice A2 L[k].2.length c2) := (cell_of_row _ gp _ _ 30 (0, 0) hg).trans q1
        have d1 : wr.cell? ⟨v, 1, none⟩ = some (.int .i64 (b : Int)) := (hbr.cell (p := ⟨v, 1, none⟩) hvl).trans c1
        have hst := fun hq => all_take (b := b) hlt hall hq
        have hsf := fun hq => all_stop (b := b) hlt hq
        have hok : putOK b L[k] = (decide (0 ≤ L[k].1) && decide (L[k].1 < b) && (L[k].2.length == 256)) := rfl
        generalize L[k].1 = bi at a0 hok
        generalize L[k].2.length = li at a1 hok q2
        generalize putOK b L[k] = ok at hst hsf hok
        have HT := Lib.hid hst
        have HF := Lib.hid hsf
        have HO := Lib.hid hok
        have HA := Lib.hid hall
        clear hst hsf hok hall c1 q0 q1 q3 hg
        have hbA : Below w.heap.size w ((wr.alloc (.cells #[.int .i64 bi, .slice A2 li c2] 30)).drew) := (hbr.trans ((below_alloc wr _).mono hbr.size)).trans ((below_drew _).mono (hbr.trans ((below_alloc wr _).mono hbr.size)).size)
        have e0 : ((wr.alloc (.cells #[.int .i64 bi, .slice A2 li c2] 30)).drew).cell? ⟨wr.heap.size, 0, none⟩ = some (.int .i64 bi) := cell_of_row _ _ 0 _ 30 (0, 0) (heap_alloc_new wr _)
        have e1 : ((wr.alloc (.cells #[.int .i64 bi, .slice A2 li c2] 30)).drew).cell? ⟨wr.heap.size, 1, none⟩ = some (.slice A2 li c2) := cell_of_row _ _ 1 _ 30 (0, 0) (heap_alloc_new wr _)
        have e2 : ((wr.alloc (.cells #[.int .i64 bi, .slice A2 li c2] 30)).drew).cell? ⟨v, 1, none⟩ = some (.int .i64 (b : Int)) := ((below_alloc wr _).cell (p := ⟨v, 1, none⟩) (Nat.lt_of_lt_of_le hvl hbr.size)).trans d1
        have HBA := Lib.hid hbA
        clear hbA
        by_cases g1 : bi < 0
        · have q1 : decide (bi < 0) = true := by simp; omega
          go_wp2_with fail
          refine wp_region_seg [] [[0, 1, 2, 3, 4, 5, 6, 7, 8, 9, 10, 11, 12, 13, 14, 15, 16, 17]] (by kernel_rfl) (by kernel_rfl) ?_
          simp only [Seg, pick_cons, pick_nil, List.getElem?_toArray, List.getElem?_cons_zero, List.getElem?_cons_succ, Option.toList_some, List.cons_append, List.nil_append]
          generalize (wr.alloc (.cells #[.int .i64 bi, .slice A2 li c2] 30)).drew = wd at *
          go_wp2_with fail
          refine Fin.intro ⟨by kernel_rfl, ?_⟩
          go_wp2_with fail
          go_ret
          refine ⟨?_, HBA.out⟩
          rw [HF.out (by rw [HO.out]; simp; omega)]
          rfl
        · have g1' : 0 ≤ bi := by omega
          by_cases g2 : (b : Int) ≤ bi
          · have q1 : decide (bi < 0) = false := by simp; omega
            have q2 : decide ((b : Int) ≤ bi) = true := by simp; omega
            go_wp2_with fail
            refine wp_region_seg [] [[0, 1, 2, 3, 4, 5, 6, 7, 8, 9, 10, 11, 12, 13, 14, 15, 16, 17]] (by kernel_rfl) (by kernel_rfl) ?_
            simp only [Seg, pick_cons, pick_nil, List.getElem?_toArray, List.getElem?_cons_zero, List.getElem?_cons_succ, Option.toList_some, List.cons_append, List.nil_append]
            generalize (wr.alloc (.cells #[.int .i64 bi, .slice A2 li c2] 30)).drew = wd at *
            go_wp2_with fail
            refine Fin.intro ⟨by kernel_rfl, ?_⟩
            go_wp2_with fail
            go_ret
            refine ⟨?_, HBA.out⟩
            rw [HF.out (by rw [HO.out]; simp; omega)]
            rfl
          · have g2' : bi < (b : Int) := by omega
            by_cases g3 : li = 256
            · subst g3
              have q1 : decide (bi < 0) = false := by simp; omega
              have q2 : decide ((b : Int) ≤ bi) = false := by simp; omega
              go_wp2_with fail
              refine wp_region_seg [] [[0, 1, 2, 3, 4, 5, 6, 7, 8, 9, 10, 11, 12, 13, 14, 15, 16, 17]] (by kernel_rfl) (by kernel_rfl) ?_
              simp only [Seg, pick_cons, pick_nil, List.getElem?_toArray, List.getElem?_cons_zero, List.getElem?_cons_succ, Option.toList_some, List.cons_append, List.nil_append]
              generalize (wr.alloc (.cells #[.int .i64 bi, .slice A2 256 c2] 30)).drew = wd at *
              go_wp2_with fail
              refine Fin.intro ⟨by kernel_rfl, ?_⟩
              go_wp2_with fail
              go_roundw
              case rel => exact ⟨k + 1, hlt, by go_num, HT.out (by rw [HO.out]; simp; omega), HBA.out⟩
              case measure => simp [intOf]; omega
            · have q1 : decide (bi < 0) = false := by simp; omega
              have q2 : decide ((b : Int) ≤ bi) = false := by simp; omega
              have q3 : ((li : Int) != 256) = true := by simp; omega
              go_wp2_with fail
              refine wp_region_seg [] [[0, 1, 2, 3, 4, 5, 6, 7, 8, 9, 10, 11, 12, 13, 14, 15, 16, 17]] (by kernel_rfl) (by kernel_rfl) ?_
              simp only [Seg, pick_cons, pick_nil, List.getElem?_toArray, List.getElem?_cons_zero, List.getElem?_cons_succ, Option.toList_some, List.cons_append, List.nil_append]
              generalize (wr.alloc (.cells #[.int .i64 bi, .slice A2 li c2] 30)).drew = wd at *
              go_wp2_with fail
              refine Fin.intro ⟨by kernel_rfl, ?_⟩
              go_wp2_with fail
              go_ret
              refine ⟨?_, HBA.out⟩
              rw [HF.out (by rw [HO.out]; simp; omega)]
              rfl
      · obtain rfl : k = L.length := by omega
        rw [List.take_length] at hall
        go_wp2_with fail
        go_ret
        exact ⟨by rw [hall]; rfl, hbr⟩
  · have hmb : mayB L b = false := by simp [mayB, hlb]
    rw [hmb]
    have hlb' : (b : Int) < (L.length : Int) := by omega
    go_enter Tryd.func33, Tryd.ntmps33
    go_wp2_with fail
    go_ret
    exact ⟨rfl, Below.refl _ _⟩
end Go.Proofs.YtbjbjnbloddioaaDoor
