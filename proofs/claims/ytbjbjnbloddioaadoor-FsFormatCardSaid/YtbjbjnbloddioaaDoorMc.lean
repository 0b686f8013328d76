/- The laws' helpers: is. -/
import Derived.Test.YtbjbjnbloddioaaDoorMb
import Derived.Test.YtbjbjnbloddioaaDoorSc
set_option linter.unusedVariables false
set_option linter.unusedSimpArgs false
namespace Go.Proofs.YtbjbjnbloddioaaDoor
open Go.RowKit Go.Shelf

/-- What a volume reads as. -/
def readsB (V : VolD) : List (List UInt8) := (List.range V.b).map fun i => V.d.at_ (sideN V.b V.c i)
theorem readsB_len (V : VolD) : (readsB V).length = V.b := by simp [readsB]
theorem readsB_get (V : VolD) (k : Nat) (h : k < V.b) : (readsB V)[k]? = some (V.d.at_ (sideN V.b V.c k)) := by simp [readsB, h]
theorem good_reads {D : DiskD} {b n : Nat} {m : List (List UInt8)} {len : Nat} {br : Bool} (h : GoodA D.at_ len b n m) : readsB ⟨D, b, n, br⟩ = m := by
  apply List.ext_getElem?
  intro i
  by_cases hi : i < b
  · rw [h.data i hi, readsB_get _ _ hi]
  · rw [List.getElem?_eq_none (by rw [readsB_len]; exact Nat.le_of_not_lt hi), List.getElem?_eq_none (by rw [h.hm]; omega)]
theorem take_ext {a b : List (List UInt8)} {k : Nat} {x : List UInt8} (h : a.take k = b.take k) (ha : a[k]? = some x) (hb : b[k]? = some x) : a.take (k + 1) = b.take (k + 1) := by
  rw [List.take_add_one, List.take_add_one, h, ha, hb]
theorem bytes_ne {a b : List UInt8} (h : ¬ a = b) : ¬ ((⟨a.toArray⟩ : ByteArray) = ⟨b.toArray⟩) := by
  intro e
  apply h
  injection e with e
  exact List.toArray_inj e

set_option maxRecDepth 100000 in
set_option maxHeartbeats 3200000 in
theorem is_o (v g gl : Nat) (V : VolD) (m : List (List UInt8)) (A : Option Addr) (c : Nat) (w : World) (h : VAt w v g gl V) (hm : ModelAt w A m) (hml : m.length = V.b) :
    Calls Tryd.prog 19 #[.pointer (some ⟨v, 0, none⟩), .slice A m.length c] w (fun e w' => e = .returned (.bool (readsB V == m)) ∧ Below w.heap.size w w') := by
  have hb : V.b ≤ 1000000 := by have := h.len; have := h.disk.len; omega
  have hvol := h.vol
  have hlen := h.len
  have hsm := h.small
  have hbl := blocks_o v g V.b (V.c : Int) V.br w hvol
  have ho1 := vread_out v g V.b (V.c : Int) V.br (-1) (by omega) w hvol
  have ho2 := vread_out v g V.b (V.c : Int) V.br (V.b : Int) (by omega) w hvol
  rw [hml]
  have HM := Lib.hid hml
  clear hml
  go_enter Tryd.func19, Tryd.ntmps19
  go_wp2_with fail
  refine hbl.mono ?_
  rintro e _ ⟨rfl, rfl⟩
  go_wp2_with fail
  refine ho1.mono ?_
  rintro e _ ⟨rfl, rfl⟩
  go_wp2_with fail
  refine ho2.mono ?_
  rintro e _ ⟨rfl, rfl⟩
  go_wp2_with fail
  clear hbl ho1 ho2
  go_loopw [5] (fun i wr => ∃ k : Nat, k ≤ V.b ∧ i = .int .i64 k ∧ (readsB V).take k = m.take k ∧ Below w.heap.size w wr) (fun i _ => V.b - (intOf i).toNat)
  case atStart => exact ⟨0, by omega, rfl, rfl, Below.refl _ _⟩
  case round =>
    obtain ⟨k, hk, rfl, heq, hbr⟩ := hrel
    have HE := Lib.hid heq
    clear heq
    by_cases hlt : k < V.b
    · obtain ⟨xs, hx, hR⟩ := (hm.below hbr).rd
      have hmk : m[k]? = some (m[k]'(by rw [HM.out]; exact hlt)) := List.getElem?_eq_getElem _
      have hxk : xs[k]? = some (xs[k]'(by rw [hR.1, HM.out]; exact hlt)) := List.getElem?_eq_getElem _
      obtain ⟨A2, c2, ex, hc2, hr2⟩ := hR.2 k _ _ hxk hmk
      obtain ⟨ga, o, eA, hcx⟩ := hx k _ hxk
      rw [ex] at hcx
      subst eA
      have hvr : VolAt wr v g V.b (V.c : Int) V.br := (hbr.block v (Array.getElem?_eq_some_iff.1 hvol).1).trans hvol
      have hDr := h.disk.below hbr
      have hsk : V.d.secs[sideN V.b V.c k]? = some (V.d.secs[sideN V.b V.c k]'(sideN_lt hlt hlen)) := List.getElem?_eq_getElem _
      have hget := readsB_get V k hlt
      rw [at_get hsk] at hget
      have hbd := below_drew wr
      have hrd := vread_o v g gl V.b V.c V.br V.d k hlt hb (by omega) _ hsk wr.drew hvr (hDr.below hbd)
      generalize V.d.secs[sideN V.b V.c k]'(sideN_lt hlt hlen) = s at hrd hget
      generalize (m[k]'(by rw [HM.out]; exact hlt)) = x at *
      have hcd : wr.drew.cell? ⟨ga, o + k, none⟩ = some (.slice A2 x.length c2) := hcx
      have hr2d := hr2.below hbd
      have hr2s := hr2d.rd
      have hbw := hbr.trans (hbd.mono hbr.size)
      have HG := Lib.hid (And.intro hget hmk)
      have HR2 := Lib.hid hr2d
      have HBW := Lib.hid hbw
      clear hget hmk hxk ex hcx hr2 hr2d hbw hbr hbd hDr hsk hR hx hvr
      go_wp2_with fail
      refine SC.wp_region_seg [] [[0, 1, 4, 5, 6, 7, 8, 2], [3, 9]] (by kernel_rfl) (by kernel_rfl) ?_
      simp only [SC.Seg, SC.pick_cons, SC.pick_nil, pick_cons, pick_nil, List.getElem?_toArray, List.getElem?_cons_zero, List.getElem?_cons_succ, Option.toList_some, List.cons_append, List.nil_append]
      generalize wr.drew = wd at *
      have h2 := run_str (P := Tryd.prog) wd hr2s 28 9 5 Tryd.underlying28 Tryd.underlying5 Tryd.underlying9 x.length c2 rfl
      unfold str at h2
      go_wp2_with fail
      refine hrd.mono ?_
      rintro e w3 ⟨A3, c3, rfl, hc3, ho3, hb3⟩
      have hs3 : s.now.length = 256 := by
        have := ho3.1
        simpa [bvs_length] using this
      have h3 := run_str (P := Tryd.prog) w3 (Rd.own ho3) 28 9 5 Tryd.underlying28 Tryd.underlying5 Tryd.underlying9 256 c3 hs3.symm
      unfold str at h3
      clear hrd h2 hr2s hcd ho3 hs3
      have HB3 := Lib.hid hb3
      clear hb3
      by_cases hsx : s.now = x
      · subst hsx
        go_wp2_with fail
        refine SC.Fin.intro ⟨by kernel_rfl, Old.of_below HB3.out, ?_⟩
        go_wp2_with fail
        refine SC.Fin.intro ⟨by kernel_rfl, ?_⟩
        go_wp2_with fail
        go_roundw
        case rel => exact ⟨k + 1, by omega, by go_num, take_ext HE.out HG.out.1 HG.out.2, HBW.out.trans (HB3.out.mono HBW.out.size)⟩
        case measure => simp [intOf]; omega
      · have hne : (s.now == x) = false := by simp [hsx]
        have hfin : (readsB V == m) = false := by
          rw [beq_eq_false_iff_ne]
          intro e
          apply hsx
          have h1 := HG.out.1
          rw [e, HG.out.2] at h1
          injection h1 with h1
          exact h1.symm
        have HF := Lib.hid hfin
        clear hfin
        go_wp2_with fail
        refine SC.Fin.intro ⟨by kernel_rfl, Old.of_below HB3.out, ?_⟩
        go_wp2_with fail
        refine SC.Fin.intro ⟨by kernel_rfl, ?_⟩
        go_wp2_with fail
        go_ret
        exact ⟨by rw [HF.out]; rfl, HBW.out.trans (HB3.out.mono HBW.out.size)⟩
    · obtain rfl : k = V.b := by omega
      have hfin : (readsB V == m) = true := by
        have := HE.out
        rw [List.take_of_length_le (by rw [readsB_len]; exact Nat.le_refl _), List.take_of_length_le (by rw [HM.out]; exact Nat.le_refl _)] at this
        rw [this]
        simp
      have HF := Lib.hid hfin
      clear hfin
      go_wp2_with fail
      go_ret
      exact ⟨by rw [HF.out]; rfl, hbr⟩
end Go.Proofs.YtbjbjnbloddioaaDoor
