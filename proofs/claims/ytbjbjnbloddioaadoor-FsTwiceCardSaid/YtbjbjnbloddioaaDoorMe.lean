/- The laws' helpers: made. -/
import Derived.Test.YtbjbjnbloddioaaDoorMd
set_option linter.unusedVariables false
set_option linter.unusedSimpArgs false
namespace Go.Proofs.YtbjbjnbloddioaaDoor
open Go.RowKit Go.Shelf

theorem three_no {t : TypeId} (h65 : t ≠ 65) (h69 : t ≠ 69) (h71 : t ≠ 71) {w : World} {v g gl : Nat} {V : VolD} (h : VAt w v g gl V) : NoT t (three v g gl) w := by
  obtain ⟨cnt, h1⟩ := h.disk.dk
  obtain ⟨cs', h2, _⟩ := h.disk.ss
  have h3 := h.vol
  unfold VolAt at h3
  rintro k (rfl | rfl | rfl) cs e
  · rw [h3] at e; injection e with e; injection e with _ e _; exact absurd e.symm h65
  · rw [h1] at e; injection e with e; injection e with _ e _; exact absurd e.symm h69
  · rw [h2] at e; injection e with e; injection e with _ e _; exact absurd e.symm h71
theorem ModelAt.three {w w' : World} {v g gl : Nat} {V : VolD} {A : Option Addr} {m : List (List UInt8)} (h : ModelAt w A m) (hV : VAt w v g gl V) (hf : Fr (three v g gl) w w') : ModelAt w' A m :=
  h.fr hf (three_no (by decide) (by decide) (by decide) hV) (three_no (by decide) (by decide) (by decide) hV)
/-- Behind made. -/
structure MadeAt (w w' : World) (N g gl v : Nat) (D : DiskD) (b n : Nat) (m : List (List UInt8)) (A : Option Addr) : Prop where
  hg : w.heap.size ≤ g
  hgl : w.heap.size ≤ gl
  hv : w.heap.size ≤ v
  good : Good D b n m
  fuse : D.fuse = none
  len : D.secs.length = N
  bb : b = (N - 8) / 2
  vat : VAt w' v g gl ⟨D, b, n, false⟩
  model : ModelAt w' A m
  below : Below w.heap.size w w'
theorem MadeAt.three0 {w w' : World} {N g gl v : Nat} {D : DiskD} {b n : Nat} {m : List (List UInt8)} {A : Option Addr} (h : MadeAt w w' N g gl v D b n m A) {i : Nat} (hi : i < w.heap.size) : ¬ three v g gl i := by
  have := h.hg; have := h.hgl; have := h.hv
  rintro (e | e | e) <;> omega
/-- A commit that may be done, with no fuse; any other one is refused. -/
theorem made_commit {D : DiskD} {b n : Nat} {m : List (List UInt8)} (h : Good D b n m) (hf : D.fuse = none) (hn : n + 1 < 900000) (L : List (Int × List UInt8)) :
    ((mayB L b = false ∧ VolD.commit ⟨D, b, n, false⟩ L = (7, ⟨D, b, n, false⟩)) ∨ (mayB L b = true ∧ L = [] ∧ VolD.commit ⟨D, b, n, false⟩ L = (0, ⟨D, b, n, false⟩))) ∨
    (mayB L b = true ∧ L ≠ [] ∧ ∃ D', VolD.commit ⟨D, b, n, false⟩ L = (0, ⟨D', b, n + 1, false⟩) ∧ Good D' b (n + 1) (applyM m L) ∧ D'.fuse = none ∧ D'.secs.length = D.secs.length) := by
  cases hm : mayB L b with
  | false => exact .inl (.inl ⟨rfl, by unfold VolD.commit; rw [if_pos hm]⟩)
  | true =>
    by_cases hL : L = []
    · exact .inl (.inr ⟨rfl, hL, by unfold VolD.commit; rw [if_neg (by rw [hm]; simp), if_pos hL]⟩)
    · obtain ⟨h1, D', h2, h3, h4, h5⟩ := commit_free h hf hn hm hL
      exact .inr ⟨rfl, hL, D', Prod.ext h1 h2, h3, h4, h5⟩
theorem applyM_nil (m : List (List UInt8)) : applyM m [] = m := by rw [← applyTo_all]; exact applyTo_zero m []
theorem mayB_ok {L : List (Int × List UInt8)} {b : Nat} (h : mayB L b = true) : L.length ≤ b ∧ ∀ p ∈ L, putOK b p = true := by
  unfold mayB at h
  simp at h
  exact ⟨h.1, fun p hp => h.2 _ _ hp⟩

def MadeR (w : World) (N : Nat) (e : Ending) (w' : World) : Prop := ∃ g gl v D b n m A c, e = .returned (.tuple #[.pointer (some ⟨g, 0, none⟩), .pointer (some ⟨v, 0, none⟩), .slice A b c, .int .i64 (n : Nat)]) ∧ n ≤ 6 ∧ MadeAt w w' N g gl v D b n m A
theorem MadeR.mk_ {w w' : World} {N g gl v : Nat} {D : DiskD} {b n : Nat} {m : List (List UInt8)} {A : Option Addr} (c : Nat) (hn : n ≤ 6) (h : MadeAt w w' N g gl v D b n m A) : MadeR w N (.returned (.tuple #[.pointer (some ⟨g, 0, none⟩), .pointer (some ⟨v, 0, none⟩), .slice A b c, .int .i64 (n : Nat)])) w' :=
  ⟨g, gl, v, D, b, n, m, A, c, rfl, hn, h⟩
set_option maxRecDepth 100000 in
set_option maxHeartbeats 6400000 in
theorem made_o (N : Nat) (h1 : 16 ≤ N) (h2 : N ≤ 60) (cs : List (List PutD)) (B : Option Addr) (cb : Nat) (w : World) (hC : CommitsU w w.heap.size B cs) (hcl : cs.length ≤ 140737488355328) (hK : Kg w) :
    Calls Tryd.prog 22 #[.int .i64 (N : Int), .slice B cs.length cb] w (MadeR w N) := by
  have hK0 := hK.pos
  go_enter Tryd.func22, Tryd.ntmps22
  go_wp2_with fail
  refine (newd_o N (by omega) (by omega) w).mono ?_
  rintro e w1 ⟨g, gl, rfl, hg, hgl, hD1, hb1⟩
  have hK1 := hK.below hb1 hK0
  have h00 : ¬ two g gl 0 := by rintro (e | e) <;> omega
  go_wp2_with fail
  refine (format_o g gl _ w1 hD1 hK1 h00).mono ?_
  obtain ⟨f1, f2, f3, f4⟩ := fmt_free (new_zero N) (by rw [new_len]; omega) (rfl : (DiskD.new N).fuse = none)
  rw [new_len] at f2 f4
  rw [f1]
  generalize (DiskD.new N).format.2 = D2 at f2 f3 f4
  rintro e w2 ⟨rfl, hD2, hf2⟩
  have hb2 : Below w.heap.size w w2 := hb1.trans (hf2.to (fun k hk => by rcases hk with rfl | rfl <;> assumption) hb1.size)
  have hK2 := hK.below hb2 hK0
  go_wp2_with fail
  refine (mount_o g gl D2 w2 hD2 hK2 f2.a.heads.1 f2.a.heads.2).mono ?_
  rintro e w3 ⟨hR, hb3⟩
  obtain ⟨v, rfl, hv, hvol⟩ := mountR_good f2 (free_dead f3) hR
  have hb3w : Below w.heap.size w w3 := hb2.trans (hb3.mono hb2.size)
  have hD3 := hD2.below hb3
  clear hR
  have hvw : w.heap.size ≤ v := Nat.le_trans hb2.size hv
  generalize hb : (N - 8) / 2 = b at f2 hvol
  have HB := Lib.hid hb
  have hbb : b ≤ 26 ∧ 4 ≤ b := by omega
  have hdiv : ((N : Int) - 8) / 2 = (b : Int) := by omega
  have HDV := Lib.hid hdiv
  have hNi : (16 : Int) ≤ N ∧ (N : Int) ≤ 60 := by omega
  have hVA := good_vat f2 hD3 hvol
  have HF := Lib.hid (And.intro f2 (And.intro f3 f4))
  have HV := Lib.hid hVA
  have HW := Lib.hid hb3w
  clear hb hdiv f2 f3 f4 hVA hb3w hf2 hD2 hD3 hD1 hvol hb1 hb2 hb3 hK1 hK2 f1
  obtain ⟨hN1, hN2⟩ := hNi
  go_wp2_with fail
  have hfr := fresh_o b (by omega) w3
  rw [← HDV.out] at hfr
  refine hfr.mono ?_
  rintro e w4 ⟨A4, c4, rfl, hc4, hm4, hb4⟩
  clear hfr
  go_wp2_with fail
  go_loopw [12, 13, 14] (fun mv nv i wr => ∃ (k n c : Nat) (A : Option Addr) (D : DiskD) (m : List (List UInt8)), k ≤ cs.length ∧ k ≤ 6 ∧ n ≤ k ∧ i = .int .i64 k ∧ nv = .int .i64 n ∧ mv = .slice A b c ∧ MadeAt w wr N g gl v D b n m A) (fun _ _ i _ => 6 - (intOf i).toNat)
  case atStart =>
    obtain ⟨f2, f3, f4⟩ := HF.out
    exact ⟨0, 0, c4, A4, D2, _, by omega, by omega, by omega, rfl, rfl, rfl, hg, hgl, hvw, f2, f3, f4, HB.out.symm, ⟨(hb4.block v (Array.getElem?_eq_some_iff.1 HV.out.vol).1).trans HV.out.vol, HV.out.disk.below hb4, HV.out.len, HV.out.small⟩, by rw [← HB.out]; rw [HB.out]; exact hm4, HW.out.trans (hb4.mono HW.out.size)⟩
  case round =>
    obtain ⟨k, n, c, A, D, m, hk, hk6, hnk, rfl, rfl, rfl, hM⟩ := hrel
    have HM := Lib.hid hM
    have hVol := hM.vat.vol
    have hml : m.length = b := hM.good.a.hm
    have HML := Lib.hid hml
    clear hM hml hm4 hb4 hc4
    by_cases hlt : k < cs.length ∧ k < 6
    · obtain ⟨hlt, hlt6⟩ := hlt
      have hM := HM.out
      obtain ⟨gc, oc, A2, c2, rfl, hgc, q1, hpl, hPU⟩ := (hC.below hM.below) k _ (List.getElem?_eq_getElem hlt)
      have hPU : PutU wr wr.heap.size A2 cs[k] := fun j p hp => by
        obtain ⟨g', o', A3, c3, e, hg', r⟩ := hPU j p hp
        exact ⟨g', o', A3, c3, e, Nat.lt_of_lt_of_le hg' hM.below.size, r.1, r.2.1, r.2.2.1, r.2.2.2.1, r.2.2.2.2.1, r.2.2.2.2.2.more hM.below.size⟩
      generalize cs[k] = ps at *
      have hputs := puts_o ps b (by omega) A2 c2 wr hPU hpl
      have hmapl : (ps.map PutD.put).length = ps.length := by simp
      clear hM hPU
      go_wp2_with fail
      refine hputs.mono ?_
      rintro e w5 ⟨A5, c5, rfl, hc5, hP5, hb5⟩
      clear hputs
      have hM := HM.out
      have hV5 : VAt w5 v g gl ⟨D, b, n, false⟩ := ⟨(hb5.block v (Array.getElem?_eq_some_iff.1 hM.vat.vol).1).trans hM.vat.vol, hM.vat.disk.below hb5, hM.vat.len, hM.vat.small⟩
      have hm5 := hM.model.below hb5
      have hbw5 := hM.below.trans (hb5.mono hM.below.size)
      have hcm := commit_any v g gl ⟨D, b, n, false⟩ A5 c5 (ps.map PutD.put) w5 hV5 hP5 (by omega) (hK.below hbw5 hK0) (hM.three0 hK0) (by show n + 1 < 900000; omega)
      rw [hmapl] at hcm
      have hmc := made_commit hM.good hM.fuse (by omega) (ps.map PutD.put)
      have hok := fun h => mayB_ok (L := ps.map PutD.put) (b := b) h
      have hnil : ps.map PutD.put = [] → ps = [] := fun h => by simpa using h
      clear hVol q1
      generalize hLL : ps.map PutD.put = L at *
      have HS := Lib.hid (And.intro hV5 (And.intro hP5 (And.intro hm5 hbw5)))
      have HOK := Lib.hid hok
      have HL := Lib.hid hmapl
      clear hM hV5 hP5 hm5 hbw5 hok hmapl hLL hb5
      rcases hmc with (⟨e1, e2⟩ | ⟨e1, e3, e2⟩) | ⟨e1, e3, D', e2, e4, e5, e6⟩
      · rw [e2] at hcm
        rw [e1]
        dsimp only at hcm
        clear e1 e2 hnil
        go_wp2_with fail
        refine hcm.mono ?_
        rintro e w6 ⟨rfl, hV6, hf6⟩
        clear hcm
        go_wp2_with fail
        go_roundw
        case rel =>
          obtain ⟨s1, s2, s3, s4⟩ := HS.out
          have hM := HM.out
          exact ⟨k + 1, n, c, A, D, m, by omega, by omega, by omega, by go_num, rfl, rfl, hM.hg, hM.hgl, hM.hv, hM.good, hM.fuse, hM.len, hM.bb, hV6, s3.three s1 hf6, s4.trans (hf6.to (fun i hi => Nat.le_of_not_lt fun h => hM.three0 h hi) s4.size)⟩
        case measure => simp [intOf]; omega
      · rw [e2] at hcm
        rw [e1]
        obtain rfl := hnil e3
        subst e3
        dsimp only at hcm
        have hok := HOK.out e1
        clear e1 e2 hnil
        go_wp2_with fail
        refine hcm.mono ?_
        rintro e w6 ⟨rfl, hV6, hf6⟩
        clear hcm
        obtain ⟨s1, s2, s3, s4⟩ := HS.out
        have hm6 := s3.three s1 hf6
        have hb6 : Below w.heap.size w w6 := s4.trans (hf6.to (fun i hi => Nat.le_of_not_lt fun h => HM.out.three0 h hi) s4.size)
        have hP6 : PutsAt w6 A5 [] := fun j p hp => by simp at hp
        have haf := after_o m [] A A5 c c5 w6 hm6 hP6 (by rw [HML.out]; omega) (by simp) (fun p hp => by simp at hp)
        rw [HML.out, applyM_nil] at haf
        have H6 := Lib.hid (And.intro hV6 hb6)
        clear s1 s2 s3 s4 hm6 hb6 hP6 hV6 hf6 hok
        go_wp2_with fail
        refine haf.mono ?_
        rintro e w7 ⟨A7, c7, rfl, hc7, hm7, hb7⟩
        clear haf
        go_wp2_with fail
        go_roundw
        case rel =>
          obtain ⟨hV6, hb6⟩ := H6.out
          have hM := HM.out
          exact ⟨k + 1, n, c7, A7, D, m, by omega, by omega, by omega, by go_num, rfl, rfl, hM.hg, hM.hgl, hM.hv, hM.good, hM.fuse, hM.len, hM.bb, ⟨(hb7.block v (Array.getElem?_eq_some_iff.1 hV6.vol).1).trans hV6.vol, hV6.disk.below hb7, hV6.len, hV6.small⟩, hm7, hb6.trans (hb7.mono hb6.size)⟩
        case measure => simp [intOf]; omega
      · rw [e2] at hcm
        rw [e1]
        dsimp only at hcm
        have hok := HOK.out e1
        have hps : 0 < ps.length := by
          rw [← HL.out]; exact List.length_pos_iff.2 e3
        clear e1 e2 e3 hnil
        go_wp2_with fail
        refine hcm.mono ?_
        rintro e w6 ⟨rfl, hV6, hf6⟩
        clear hcm
        obtain ⟨s1, s2, s3, s4⟩ := HS.out
        have hm6 := s3.three s1 hf6
        have hb6 : Below w.heap.size w w6 := s4.trans (hf6.to (fun i hi => Nat.le_of_not_lt fun h => HM.out.three0 h hi) s4.size)
        have hP6 : PutsAt w6 A5 L := s2.fr hf6 (three_no (by decide) (by decide) (by decide) s1) (three_no (by decide) (by decide) (by decide) s1)
        have haf := after_o m L A A5 c c5 w6 hm6 hP6 (by rw [HML.out]; omega) (by omega) (by rw [HML.out]; exact hok.2)
        rw [HML.out, HL.out] at haf
        have H6 := Lib.hid (And.intro hV6 (And.intro hb6 (And.intro e4 (And.intro e5 e6))))
        clear s1 s2 s3 s4 hm6 hb6 hP6 hV6 hf6 hok e4 e5 e6
        go_wp2_with fail
        refine haf.mono ?_
        rintro e w7 ⟨A7, c7, rfl, hc7, hm7, hb7⟩
        clear haf
        go_wp2_with fail
        go_roundw
        case rel =>
          obtain ⟨hV6, hb6, e4, e5, e6⟩ := H6.out
          have hM := HM.out
          exact ⟨k + 1, n + 1, c7, A7, D', applyM m L, by omega, by omega, by omega, by go_num, by go_num, rfl, hM.hg, hM.hgl, hM.hv, e4, e5, e6.trans hM.len, hM.bb, ⟨(hb7.block v (Array.getElem?_eq_some_iff.1 hV6.vol).1).trans hV6.vol, hV6.disk.below hb7, hV6.len, hV6.small⟩, hm7, hb6.trans (hb7.mono hb6.size)⟩
        case measure => simp [intOf]; omega
    · have hout : ¬ (k < cs.length) ∨ (k < cs.length ∧ ¬ k < 6) := by omega
      clear hlt
      rcases hout with hout | ⟨hlt, hout⟩
      all_goals
        go_wp2_with fail
        refine bodyPost_ret (v := .tuple #[.pointer (some ⟨g, 0, none⟩), .pointer (some ⟨v, 0, none⟩), .slice A b c, .int .i64 (n : Nat)]) (by simp [results, Tryd.results22, go_sem]) rfl ?_
        exact MadeR.mk_ c (by omega) HM.out
end Go.Proofs.YtbjbjnbloddioaaDoor
