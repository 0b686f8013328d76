/- FsTwice walked. -/
import Derived.Test.YtbjbjnbloddioaaDoorMj
set_option linter.unusedVariables false
set_option linter.unusedSimpArgs false
namespace Go.Proofs.YtbjbjnbloddioaaDoor
open Go.RowKit Go.Shelf

theorem applyM_idem (m : List (List UInt8)) (L : List (Int × List UInt8)) : applyM (applyM m L) L = applyM m L := by
  apply List.ext_getElem?
  intro i
  by_cases h : i < m.length
  · simp only [applyM, List.length_map, List.length_range, List.getElem?_map, List.getElem?_range h, Option.map_some]
    congr 1
    cases hl : lastB L L.length (i : Int) with
    | some x => rfl
    | none => simp [List.getD, h, hl]
  · rw [List.getElem?_eq_none (by rw [applyM_len, applyM_len]; omega), List.getElem?_eq_none (by rw [applyM_len]; omega)]
theorem readG (v g gl : Nat) (D : DiskD) (b n : Nat) (m : List (List UInt8)) (i : Nat) (hi : i < b) (w : World) (h : VG w v g gl D b n m) :
    ∃ x, x.length = 256 ∧ m[i]? = some x ∧ Calls Tryd.prog 13 #[.pointer (some ⟨v, 0, none⟩), .int .i64 (i : Int)] w (fun e w' => ∃ A cc, e = .returned (.slice A 256 cc) ∧ 256 ≤ cc ∧ w'.ownsRow w.heap.size 5 1 (.slice A 256 cc) 256 (bvs x) ∧ Below w.heap.size w w') := by
  obtain ⟨s, hs1, hs2⟩ := good_sec h.good.a hi
  have hb : b ≤ 1000000 := by have := h.vat.len; have := h.vat.disk.len; have : b = (VolD.mk D b n false).b := rfl; dsimp only at *; omega
  have hc : n < 900000 := h.vat.small
  exact ⟨s.now, (sec_len h.vat.disk hs1).1, hs2, vread_o v g gl b n false D i hi hb (by omega) s hs1 w h.vat.vol h.vat.disk⟩
theorem mountR_any {w w' : World} {g : Nat} {D : DiskD} {e : Ending} (hR : MountR w g D e w') : ∃ x y, e = .returned (.tuple #[x, y]) := by
  unfold MountR at hR
  split at hR
  · exact ⟨_, _, hR⟩
  · split at hR
    · exact ⟨_, _, hR⟩
    · obtain ⟨v, e, _⟩ := hR
      exact ⟨_, _, e⟩

set_option maxRecDepth 100000 in
set_option maxHeartbeats 16000000 in
theorem fsTwice_o (s f two : Int) (hs1 : -9223372036854775808 ≤ s) (hs2 : s ≤ 9223372036854775807) (hf2 : f ≤ 9223372036854775807) (ht2 : two ≤ 9223372036854775807) (cs : List (List PutD)) (C : Option Addr) (cc : Nat) (ps : List PutD) (E : Option Addr) (ce : Nat) (ks : List Bool) (B : Option Addr) (cb : Nat) (w : World)
    (hC : CommitsU w w.heap.size C cs) (hcl : cs.length ≤ 140737488355328) (hP : PutU w w.heap.size E ps) (hpl : ps.length ≤ 3518437208883) (hB : Rd w B (ks.map Value.bool)) (hkl : ks.length ≤ 140737488351232) (hK : Kg w) :
    Calls Tryd.prog 6 #[.int .i64 s, .slice C cs.length cc, .slice E ps.length ce, .int .i64 f, .int .i64 two, .slice B ks.length cb] w (TrueB w) := by
  have hK0 := hK.pos
  have hszo := lsize_o s hs1 hs2
  have hsb := sizeN_bd s
  clear hs1 hs2
  have hmapl : (ps.map PutD.put).length = ps.length := by simp
  go_enter Tryd.func6, Tryd.ntmps6
  go_wp2_with fail
  refine (begun_o w hK).mono ?_
  rintro e w0 ⟨rfl, hb0⟩
  have hww := hb0.size
  have hK1 := hK.below hb0 hK0
  go_wp2_with fail
  refine (hszo w0).mono ?_
  rintro e _ ⟨rfl, rfl⟩
  clear hszo
  generalize sizeN s = N at *
  obtain ⟨h16, h60⟩ := hsb
  have hC0 : CommitsU w0 w0.heap.size C cs := fun j ps hp => by
    obtain ⟨g, o, A2, c2, e, hg, h1, h2, h3⟩ := (hC.below hb0) j ps hp
    refine ⟨g, o, A2, c2, e, by omega, h1, h2, fun j p hp => ?_⟩
    obtain ⟨g', o', A3, c3, e, hg', r⟩ := h3 j p hp
    exact ⟨g', o', A3, c3, e, by omega, r.1, r.2.1, r.2.2.1, r.2.2.2.1, r.2.2.2.2.1, r.2.2.2.2.2.more hww⟩
  have hmd := made_o N h16 h60 cs C cc w0 hC0 hcl hK1
  go_wp2_with fail
  refine hmd.mono ?_
  rintro e w1 ⟨g, gl, v, D, b, n, m, A, c, rfl, hn6, hM⟩
  clear hmd hC0
  have hb1 := hb0.trans (hM.below.mono hww)
  have hml : m.length = b := hM.good.a.hm
  have hbb : b ≤ 26 := by have := hM.bb; omega
  have hP1 : PutU w1 w1.heap.size E ps := fun j p hp => by
    obtain ⟨g', o', A3, c3, e, hg', r⟩ := (hP.below hb1) j p hp
    have := hb1.size
    exact ⟨g', o', A3, c3, e, by omega, r.1, r.2.1, r.2.2.1, r.2.2.2.1, r.2.2.2.2.1, r.2.2.2.2.2.more hb1.size⟩
  have hpu := puts_o ps b (by omega) E ce w1 hP1 hpl
  have HM := Lib.hid hM
  have HB1 := Lib.hid hb1
  have HML := Lib.hid hml
  clear hP1 hM hb1 hml hb0 hK1
  go_wp2_with fail
  refine hpu.mono ?_
  rintro e w2 ⟨A2, c2, rfl, hc2, hP2, hb2⟩
  clear hpu
  have hlow : ∀ i, three v g gl i → w.heap.size ≤ i := fun i hi => by
    have h1 := HM.out.hg; have h2 := HM.out.hgl; have h3 := HM.out.hv
    rcases hi with rfl | rfl | rfl <;> omega
  have hb2w := HB1.out.trans (hb2.mono HB1.out.size)
  have HV2 := Lib.hid (HM.out.vat.below hb2)
  have hm2 := HM.out.model.below hb2
  have hokL := fun h => mayB_ok (L := ps.map PutD.put) (b := b) h
  have hnil : ps.map PutD.put = [] → ps.length = 0 := fun h => by simpa using h
  generalize ps.map PutD.put = L at *
  have HP2 := Lib.hid (And.intro hP2 (And.intro hb2w hm2))
  have HL := Lib.hid hmapl
  have HOK := Lib.hid hokL
  clear hb2 hP2 hm2 hb2w hmapl hokL
  cases hmay : mayB L b with
  | false =>
    go_wp2_with fail
    go_ret
    exact ⟨rfl, HP2.out.2.1⟩
  | true =>
    by_cases hL0 : L = []
    · have hl0 := hnil hL0
      have hl0' : ((ps.length : Int) == 0) = true := by rw [beq_iff_eq]; omega
      clear hnil hmay hL0 
      go_wp2_with fail
      go_ret
      exact ⟨rfl, HP2.out.2.1⟩
    · have hl0 : 0 < ps.length := by rw [← HL.out]; exact List.length_pos_iff.2 hL0
      have hl0' : ((ps.length : Int) == 0) = false := by rw [beq_eq_false_iff_ne]; omega
      by_cases hneg : f < 0 ∨ two < 0
      · have htests : f < 0 ∨ (0 ≤ f ∧ two < 0) := by omega
        clear hneg
        rcases htests with h1 | ⟨h0, h1⟩
        all_goals
          go_wp2_with fail
          go_ret
          exact ⟨rfl, HP2.out.2.1⟩
      · obtain ⟨fu, rfl⟩ := Int.eq_ofNat_of_zero_le (show 0 ≤ f by omega)
        obtain ⟨tu, rfl⟩ := Int.eq_ofNat_of_zero_le (show 0 ≤ two by omega)
        clear hneg
        have hcg := commit_fuse (D := D.setFuse (fu % 40)) (HM.out.good.setFuse _) (by omega) hmay hL0
        have hok := HOK.out hmay
        have HMAY := Lib.hid (And.intro hmay hL0)
        clear hnil hmay hL0
        have hfz := fuse_k g gl D (fu % 40) w2 HV2.out.disk (by omega)
        have hfmod : ((fu % 40 : Nat) : Int) = (fu : Int) % 40 := by omega
        rw [hfmod] at hfz
        clear hfmod
        go_wp2_with fail
        refine hfz.mono ?_
        rintro e w3 ⟨rfl, hD3, hf3⟩
        clear hfz
        obtain ⟨hP2, hb2w, hm2⟩ := HP2.out
        have hfb : Below w.heap.size w w3 := hb2w.trans (hf3.to (fun i hi => hlow i (two_three hi)) hb2w.size)
        have hno : ∀ t, t ≠ 65 → t ≠ 69 → t ≠ 71 → NoT t (Go.Proofs.YtbjbjnbloddioaaDoor.two g gl) w2 := fun t a1 a2 a3 k hk => three_no a1 a2 a3 HV2.out k (two_three hk)
        have hV3 : VAt w3 v g gl ⟨D.setFuse (fu % 40), b, n, false⟩ := ⟨hf3.same HV2.out.vol (VolAt.apart HV2.out.vol HV2.out.disk), hD3, by show _ ≤ (D.setFuse (fu % 40)).secs.length; rw [setFuse_secs]; exact HV2.out.len, HV2.out.small⟩
        have hP3 : PutsAt w3 A2 L := hP2.fr hf3 (hno 5 (by decide) (by decide) (by decide)) (hno 30 (by decide) (by decide) (by decide))
        have hm3 := hm2.fr hf3 (hno 5 (by decide) (by decide) (by decide)) (hno 28 (by decide) (by decide) (by decide))
        have hcm := commit_any v g gl ⟨D.setFuse (fu % 40), b, n, false⟩ A2 c2 L w3 hV3 hP3 (by have := HL.out; omega) (hK.below hfb hK0) (fun h => by have := hlow 0 h; omega) (by show n + 1 < 900000; omega)
        rw [HL.out] at hcm
        have H3 := Lib.hid (And.intro hfb (And.intro hV3 (And.intro hP3 hm3)))
        clear hP2 hb2w hm2 hfb hno hV3 hP3 hm3 hf3 hD3
        have hcg2 : ∃ (rv : Int) (D1 : DiskD) (n1 : Nat) (br : Bool), VolD.commit ⟨D.setFuse (fu % 40), b, n, false⟩ L = (rv, ⟨D1, b, n1, br⟩) ∧ (rv = 0 ∨ rv = 48) ∧ D1.secs.length = (D.setFuse (fu % 40)).secs.length ∧
            ∀ kf, ∃ n' m', n' ≤ n + 1 ∧ Good (D1.crash kf) b n' m' ∧ applyM m' L = applyM m L ∧ (rv = 0 → n' = n + 1) := by
          rcases hcg with ⟨D1, e1, g1, l1⟩ | ⟨D1, e1, rd1, l1, cr1⟩
          · exact ⟨0, D1, n + 1, false, e1, .inl rfl, l1, fun kf => ⟨n + 1, applyM m L, Nat.le_refl _, g1.crash kf, applyM_idem m L, fun _ => rfl⟩⟩
          · refine ⟨48, D1, n, true, e1, .inr rfl, l1, fun kf => ?_⟩
            rcases cr1 kf with h | h
            · exact ⟨n, m, by omega, h, rfl, fun h => absurd h (by decide)⟩
            · exact ⟨n + 1, applyM m L, Nat.le_refl _, h, applyM_idem m L, fun _ => rfl⟩
        obtain ⟨rv, D1, n1, br, e1, hrv, l1, hcr⟩ := hcg2
        rw [e1] at hcm
        dsimp only at hcm
        have HCR := Lib.hid hcr
        have HE1 := Lib.hid l1
        clear e1 l1 hcr hcg
        go_wp2_with fail
        refine hcm.mono ?_
        rintro e w4 ⟨rfl, hV4, hf4⟩
        clear hcm
        obtain ⟨hfb, hV3, hP3, hm3⟩ := H3.out
        have hm4 := hm3.three hV3 hf4
        have hP4 : PutsAt w4 A2 L := hP3.fr hf4 (three_no (by decide) (by decide) (by decide) hV3) (three_no (by decide) (by decide) (by decide) hV3)
        have hb4 : Below w.heap.size w w4 := hfb.trans (hf4.to hlow hfb.size)
        have hko := fun all => keeper_o ks all N (by omega) B cb w4 (hB.below hb4) (by omega)
        have H4 := Lib.hid (And.intro hb4 (And.intro hV4.disk (And.intro hm4 hP4)))
        clear hfb hV3 hP3 hm3 hf4 hm4 hP4 hb4 hV4
        go_wp2_with fail
        refine (hko _).mono ?_
        rintro e w6 ⟨kv, rfl, hkp, hb6⟩
        clear hko
        obtain ⟨hb5w, hD5, hm5, hP5⟩ := H4.out
        have hb6w := hb5w.trans (hb6.mono hb5w.size)
        have hlN : D1.secs.length = N := by rw [HE1.out, setFuse_secs]; exact HM.out.len
        have hcro := crash_o g gl D1 kv _ w6 (hD5.below hb6) (by rw [hlN]; omega) (by rw [hlN]; exact hkp)
        have H6 := Lib.hid (And.intro hb6w (And.intro (hm5.below hb6) (hP5.below hb6)))
        have HLN := Lib.hid hlN
        clear hb5w hD5 hm5 hP5 hb6 hb6w hlN hkp
        go_wp2_with fail
        refine hcro.mono ?_
        rintro e w7 ⟨g', gl', rfl, hg', hgl', hD7, hb7⟩
        clear hcro
        obtain ⟨hb6w, hm6, hP6⟩ := H6.out
        have hb7w := hb6w.trans (hb7.mono hb6w.size)
        generalize keepF ks _ = kf at hD7
        have hl6 : (D1.crash kf).secs.length = N := by rw [crash_len]; exact HLN.out
        have hf6 := crash_free D1 kf
        obtain ⟨n', m', hn', hg6, hap, hrn⟩ := HCR.out kf
        generalize D1.crash kf = D6 at *
        have HL6 := Lib.hid hl6
        have HAP := Lib.hid (And.intro hap hrn)
        have hcro := crash_o g' gl' D6 .nilFunc (fun _ => false) w7 hD7 (by rw [hl6]; omega) (.inl ⟨rfl, fun _ => rfl⟩)
        have hlow2 : ∀ i, Go.Proofs.YtbjbjnbloddioaaDoor.two g' gl' i → w.heap.size ≤ i := by
          have := hb6w.size
          rintro i (rfl | rfl) <;> omega
        have H7 := Lib.hid (And.intro hb7w (And.intro hD7 (And.intro (hm6.below hb7) (hP6.below hb7))))
        have HG6 := Lib.hid (And.intro hg6 hf6)
        clear hb6w hm6 hP6 hb7 hl6 hap hrn hb7w hD7 hg6 hf6
        go_wp2_with fail
        refine hcro.mono ?_
        rintro e w8 ⟨g2, gl2, rfl, hg2, hgl2, hD8, hb8⟩
        clear hcro
        obtain ⟨hb7w, hD7, hm7, hP7⟩ := H7.out
        have hb8w := hb7w.trans (hb8.mono hb7w.size)
        have hgd := HG6.out.1.crash (fun _ => false)
        have hfd := crash_free D6 (fun _ => false)
        generalize D6.crash (fun _ => false) = D8 at hD8 hgd hfd
        have hmt := mountG g2 gl2 D8 b n' m' w8 hD8 hgd (free_dead hfd) (hK.below hb8w hK0)
        have H8 := Lib.hid (And.intro hb8w (And.intro (hD7.below hb8) (And.intro (hm7.below hb8) (hP7.below hb8))))
        clear hb7w hD7 hm7 hP7 hb8 hb8w hD8 hgd hfd
        go_wp2_with fail
        refine hmt.mono ?_
        rintro e w9 ⟨v9, rfl, hv9, hF9, hb9⟩
        clear hmt
        obtain ⟨hb8w, hD8, hm8, hP8⟩ := H8.out
        have hb9w := hb8w.trans (hb9.mono hb8w.size)
        have hD9 := hD8.below hb9
        have hfz := fuse_k g' gl' D6 (tu % 12) w9 hD9 (by omega)
        have hfmod : ((tu % 12 : Nat) : Int) = (tu : Int) % 12 := by omega
        rw [hfmod] at hfz
        have hg6' := HG6.out.1.setFuse (tu % 12)
        have hl6' : (D6.setFuse (tu % 12)).secs.length = N := by rw [setFuse_secs]; exact HL6.out
        have hap9 : ∀ i, three v9 g2 gl2 i → ¬ Go.Proofs.YtbjbjnbloddioaaDoor.two g' gl' i := by
          have h1 := hD8.lt
          have h2 : w8.heap.size ≤ v9 := hv9
          have h3 : g' < w7.heap.size ∧ gl' < w7.heap.size := H7.out.2.1.lt
          have h5 := H8.out.1.size
          rintro i (rfl | rfl | rfl) (e | e) <;> omega
        have hn9 : ∀ t, t ≠ 69 → t ≠ 71 → NoT t (Go.Proofs.YtbjbjnbloddioaaDoor.two g' gl') w9 := fun t a1 a2 => by
          obtain ⟨cnt, d1⟩ := hD9.dk
          obtain ⟨cs', d2, _⟩ := hD9.ss
          rintro k (rfl | rfl) cs e
          · rw [d1] at e; injection e with e; injection e with _ e _; exact absurd e.symm a1
          · rw [d2] at e; injection e with e; injection e with _ e _; exact absurd e.symm a2
        have H9 := Lib.hid (And.intro hb9w (And.intro hF9 (And.intro (hm8.below hb9) (And.intro (hP8.below hb9) (And.intro hap9 hn9)))))
        generalize D6.setFuse (tu % 12) = D9 at hfz hg6' hl6'
        have HG9 := Lib.hid (And.intro hg6' hl6')
        clear hb8w hD8 hm8 hP8 hb9 hb9w hD9 hfmod hF9 hap9 hn9 hg6' hl6'
        go_wp2_with fail
        refine hfz.mono ?_
        rintro e w10 ⟨rfl, hD10, hf10⟩
        clear hfz
        obtain ⟨hb9w, hF9, hm9, hP9, hap9, hn9⟩ := H9.out
        have hb10w : Below w.heap.size w w10 := hb9w.trans (hf10.to hlow2 hb9w.size)
        have hF10 : VG w10 v9 g2 gl2 D8 b n' m' := ⟨hF9.vat.fr hf10 (hn9 5 (by decide) (by decide)) hap9, hF9.good⟩
        have hm10 := hm9.fr hf10 (hn9 5 (by decide) (by decide)) (hn9 28 (by decide) (by decide))
        have hP10 : PutsAt w10 A2 L := hP9.fr hf10 (hn9 5 (by decide) (by decide)) (hn9 30 (by decide) (by decide))
        have hmt := mount_o g' gl' D9 w10 hD10 (hK.below hb10w hK0) HG9.out.1.a.heads.1 HG9.out.1.a.heads.2
        have H10 := Lib.hid (And.intro hb10w (And.intro hD10 (And.intro hF10 (And.intro hm10 hP10))))
        clear hb9w hF9 hm9 hP9 hap9 hn9 hb10w hF10 hm10 hP10 hD10 hf10
        go_wp2_with fail
        refine hmt.mono ?_
        rintro e w11 ⟨hR, hb11⟩
        clear hmt
        obtain ⟨rx, ry, rfl⟩ := mountR_any hR
        clear hR
        obtain ⟨hb10w, hD10, hF10, hm10, hP10⟩ := H10.out
        have hb11w := hb10w.trans (hb11.mono hb10w.size)
        have hko := fun all => keeper_o ks all N (by omega) B cb w11 (hB.below hb11w) (by omega)
        have H11 := Lib.hid (And.intro hb11w (And.intro (hD10.below hb11) (And.intro (hF10.below hb11) (And.intro (hm10.below hb11) (hP10.below hb11)))))
        have HS11 := Lib.hid hb11.size
        clear hb10w hD10 hF10 hm10 hP10 hb11 hb11w
        go_wp2_with fail
        refine (hko _).mono ?_
        rintro e w12 ⟨kv2, rfl, hkp2, hb12⟩
        clear hko
        obtain ⟨hb11w, hD11, hF11, hm11, hP11⟩ := H11.out
        have hb12w := hb11w.trans (hb12.mono hb11w.size)
        have hcro := crash_o g' gl' D9 kv2 _ w12 (hD11.below hb12) (by rw [HG9.out.2]; omega) (by rw [HG9.out.2]; exact hkp2)
        have H12 := Lib.hid (And.intro hb12w (And.intro (hF11.below hb12) (And.intro (hm11.below hb12) (hP11.below hb12))))
        have HS12 := Lib.hid hb12.size
        clear hb11w hD11 hF11 hm11 hP11 hb12 hb12w hkp2
        go_wp2_with fail
        refine hcro.mono ?_
        rintro e w13 ⟨g3, gl3, rfl, hg3, hgl3, hD13, hb13⟩
        clear hcro
        obtain ⟨hb12w, hF12, hm12, hP12⟩ := H12.out
        generalize keepF ks _ = kf2 at hD13
        have hgd := HG9.out.1.crash kf2
        have hfd := crash_free D9 kf2
        generalize D9.crash kf2 = Dy at hD13 hgd hfd
        have hb13w := hb12w.trans (hb13.mono hb12w.size)
        have hmt := mountG g3 gl3 Dy b n' m' w13 hD13 hgd (free_dead hfd) (hK.below hb13w hK0)
        have hs1011 : w10.heap.size ≤ w12.heap.size ∧ w12.heap.size ≤ w13.heap.size ∧ w13.heap.size ≤ w13.heap.size := ⟨Nat.le_trans HS11.out HS12.out, hb13.size, Nat.le_refl _⟩
        have hlow3 : w.heap.size ≤ g3 ∧ w.heap.size ≤ gl3 := by have := hb12w.size; omega
        have H13 := Lib.hid (And.intro hb13w (And.intro (hF12.below hb13) (And.intro (hm12.below hb13) (hP12.below hb13))))
        have HFD := Lib.hid hfd
        clear hb12w hF12 hm12 hP12 hb13 hb13w hD13 hgd hfd
        go_wp2_with fail
        refine hmt.mono ?_
        rintro e w14 ⟨vy, rfl, hvy, hY14, hb14⟩
        clear hmt
        obtain ⟨hb13w, hF13, hm13, hP13⟩ := H13.out
        have hb14w := hb13w.trans (hb14.mono hb13w.size)
        have HS10 := Lib.hid (show w10.heap.size ≤ g3 ∧ w10.heap.size ≤ gl3 ∧ w10.heap.size ≤ vy from by
          have := hs1011.1; have := hs1011.2.1; have := hs1011.2.2; omega)
        have hlow4 : ∀ i, three vy g3 gl3 i → w.heap.size ≤ i := by
          have := hb13w.size
          rintro i (rfl | rfl | rfl) <;> omega
        have hF14 := hF13.below hb14
        have hco1 := commitsG vy g3 gl3 Dy b n' m' w14 hY14
        have hco2 := commitsG v9 g2 gl2 D8 b n' m' w14 hF14
        have H14 := Lib.hid (And.intro hb14w (And.intro hY14 (And.intro hF14 (And.intro (hm13.below hb14) (hP13.below hb14)))))
        clear hb13w hF13 hm13 hP13 hb14 hb14w hY14 hF14
        go_wp2_with fail
        refine hco1.mono ?_
        rintro e _ ⟨rfl, rfl⟩
        go_wp2_with fail
        refine hco2.mono ?_
        rintro e _ ⟨rfl, rfl⟩
        clear hco2
        have HFLT : Hid (∀ i, three v9 g2 gl2 i → i < w10.heap.size) := Lib.hid (by
          have h1 := H10.out.2.2.1.vat
          have h2 := h1.disk.lt
          have h3 := (Array.getElem?_eq_some_iff.1 h1.vol).1
          rintro i (rfl | rfl | rfl) <;> omega)
        have HYGE : Hid (∀ i, three vy g3 gl3 i → w10.heap.size ≤ i) := Lib.hid (by
          have h1 := HS10.out
          rintro i (rfl | rfl | rfl) <;> omega)
        rcases hrv with rfl | rfl
        · obtain rfl := HAP.out.2 rfl
          have hee0 : ((n + 1 : Nat) : Int) = (n : Int) + 1 := by omega
          have HEE := Lib.hid hee0
          rw [hee0] at hco1
          clear hee0
          rw [HEE.out]
          go_wp2_with fail
          refine hco1.mono ?_
          rintro e _ ⟨rfl, rfl⟩
          clear hco1
          go_wp2_with fail
          go_loopw [26] (fun i wr => ∃ k : Nat, k ≤ b ∧ i = .int .i64 k ∧ Below w14.heap.size w14 wr) (fun i _ => b - (intOf i).toNat)
          case atStart => exact ⟨0, by omega, rfl, Below.refl _ _⟩
          case round =>
            obtain ⟨k, hk, rfl, hbr⟩ := hrel
            by_cases hlt : k < b
            · have hbd := below_drew wr
              have hY := (H14.out.2.1.below hbr).below hbd
              have hF := (H14.out.2.2.1.below hbr).below hbd
              obtain ⟨x, hx1, hx2, hrd⟩ := readG vy g3 gl3 Dy b (n + 1) m' k hlt _ hY
              have hbdr := hbr.trans (hbd.mono hbr.size)
              have HQ := Lib.hid (And.intro hbdr (And.intro hF hx2))
              have HX1 := Lib.hid hx1
              clear hbd hY hF hbdr hx2 hx1 hbr
              go_wp2_with fail
              refine SC.wp_region_seg [] [[0, 1, 4, 5, 2], [3, 6], [7, 8]] (by kernel_rfl) (by kernel_rfl) ?_
              simp only [SC.Seg, SC.pick_cons, SC.pick_nil, List.getElem?_toArray, List.getElem?_cons_zero, List.getElem?_cons_succ, Option.toList_some, List.cons_append, List.nil_append]
              generalize wr.drew = wd at *
              go_wp2_with fail
              refine hrd.mono ?_
              rintro e wa ⟨Aa, ca, rfl, hca, hoa, hba⟩
              clear hrd
              have ha := run_str (P := Tryd.prog) wa (Rd.own hoa) 28 9 5 Tryd.underlying28 Tryd.underlying5 Tryd.underlying9 256 ca HX1.out.symm
              unfold str at ha
              have HOA := Lib.hid (Old.of_below hba)
              obtain ⟨x', hx1', hx2', hrd⟩ := readG v9 g2 gl2 D8 b (n + 1) m' k hlt wa (HQ.out.2.1.below hba)
              have exx : x' = x := by
                have := HQ.out.2.2
                rw [hx2'] at this
                injection this
              subst exx
              have HBA := Lib.hid (HQ.out.1.trans (hba.mono HQ.out.1.size))
              clear hx2' hx1' hoa hba
              go_wp2_with fail
              refine SC.Fin.intro ⟨by kernel_rfl, HOA.out, ?_⟩
              go_wp2_with fail
              refine hrd.mono ?_
              rintro e wb ⟨Ab, cb2, rfl, hcb2, hob, hbb2⟩
              clear hrd ha
              have hb2 := run_str (P := Tryd.prog) wb (Rd.own hob) 28 9 5 Tryd.underlying28 Tryd.underlying5 Tryd.underlying9 256 cb2 HX1.out.symm
              unfold str at hb2
              have HOB := Lib.hid (Old.of_below hbb2)
              have HBB := Lib.hid (HBA.out.trans (hbb2.mono HBA.out.size))
              clear hob hbb2
              go_wp2_with fail
              refine SC.Fin.intro ⟨by kernel_rfl, HOB.out, ?_⟩
              go_wp2_with fail
              refine SC.Fin.intro ⟨by kernel_rfl, ?_⟩
              go_wp2_with fail
              go_roundw
              case rel => exact ⟨k + 1, by omega, by go_num, HBB.out⟩
              case measure => simp [intOf]; omega
            · obtain rfl : k = b := by omega
              obtain ⟨hb14w, hY14, hF14, hm14, hP14⟩ := H14.out
              have hbrw := hb14w.trans (hbr.mono hb14w.size)
              have hYr := hY14.below hbr
              have hPr := hP14.below hbr
              have hmay := HMAY.out.1
              obtain ⟨e1c, Dz, e2c, c3, c4', c5⟩ := commit_free hYr.good HFD.out (by omega) hmay HMAY.out.2
              have hcm := commit_any vy g3 gl3 ⟨Dy, k, (n + 1), false⟩ A2 c2 L wr hYr.vat hPr (by have := HL.out; omega) (hK.below hbrw hK0) (fun h => by have := hlow4 0 h; omega) (by show (n + 1) + 1 < 900000; omega)
              rw [show VolD.commit ⟨Dy, k, (n + 1), false⟩ L = (0, ⟨Dz, k, (n + 1) + 1, false⟩) from Prod.ext e1c e2c, HL.out] at hcm
              rw [HAP.out.1] at c3
              dsimp only at hcm
              have Hr := Lib.hid (And.intro hbrw (And.intro hYr.vat (And.intro hPr (And.intro (hF14.below hbr) (hm14.below hbr)))))
              have HC3 := Lib.hid c3
              clear hb14w hY14 hF14 hm14 hP14 hbrw hYr hPr hmay e1c e2c c3 c4' c5 hbr
              go_wp2_with fail
              refine hcm.mono ?_
              rintro e w16 ⟨rfl, hV16, hf16⟩
              clear hcm
              obtain ⟨hbrw, hVr, hPr, hFr, hmr⟩ := Hr.out
              have hP16 : PutsAt w16 A2 L := hPr.fr hf16 (three_no (by decide) (by decide) (by decide) hVr) (three_no (by decide) (by decide) (by decide) hVr)
              have hm16 := hmr.three hVr hf16
              have hap : ∀ i, three v9 g2 gl2 i → ¬ three vy g3 gl3 i := by
                have h1 := H14.out.2.2.1
                have h2 := HFLT.out
                have h3 := HYGE.out
                rintro i hi hj
                have := h2 i hi
                have := h3 i hj
                omega
              have hF16 : VG w16 v9 g2 gl2 D8 k (n + 1) m' := ⟨hFr.vat.fr hf16 (three_no (by decide) (by decide) (by decide) hVr) hap, hFr.good⟩
              have hb16w : Below w.heap.size w w16 := hbrw.trans (hf16.to hlow4 hbrw.size)
              have haf := after_o m L A A2 c c2 w16 hm16 hP16 (by rw [HML.out]; omega) (by omega) (by rw [HML.out]; exact hok.2)
              rw [HML.out, HL.out] at haf
              have H16 := Lib.hid (And.intro hb16w (And.intro hV16 hF16))
              clear hbrw hVr hPr hFr hmr hP16 hm16 hap hF16 hb16w hV16 hf16
              go_wp2_with fail
              refine haf.mono ?_
              rintro e w17 ⟨A17, c17, rfl, hc17, hM17, hb17⟩
              clear haf
              obtain ⟨hb16w, hV16, hF16⟩ := H16.out
              have hb17w := hb16w.trans (hb17.mono hb16w.size)
              have hY17 : VG w17 vy g3 gl3 Dz k ((n + 1) + 1) (applyM m L) := ⟨hV16.below hb17, HC3.out⟩
              have his := isG_same vy g3 gl3 Dz k ((n + 1) + 1) (applyM m L) A17 c17 w17 hY17 hM17
              have H17 := Lib.hid (And.intro hb17w (And.intro hY17 (hF16.below hb17)))
              clear hb16w hV16 hF16 hb17w hY17 hM17 hb17
              go_wp2_with fail
              refine his.mono ?_
              rintro e w18 ⟨rfl, hb18⟩
              clear his
              obtain ⟨hb17w, hY17, hF17⟩ := H17.out
              have hco1 := commitsG vy g3 gl3 Dz k ((n + 1) + 1) (applyM m L) w18 (hY17.below hb18)
              have hco2 := commitsG v9 g2 gl2 D8 k (n + 1) m' w18 (hF17.below hb18)
              have HB18 := Lib.hid (hb17w.trans (hb18.mono hb17w.size))
              have hee : ((((n + 1) + 1 : Nat) : Int) == (((n + 1) : Nat) : Int) + 1) = true := by rw [beq_iff_eq]; omega
              have hee2 : ((((n + 1) + 1 : Nat) : Int)) = (((n + 1) : Nat) : Int) + 1 := by omega
              rw [hee2] at hco1 hee
              clear hee2 hb17w hY17 hF17 hb18
              go_wp2_with fail
              refine hco1.mono ?_
              rintro e _ ⟨rfl, rfl⟩
              go_wp2_with fail
              refine hco2.mono ?_
              rintro e _ ⟨rfl, rfl⟩
              go_wp2_with fail
              go_ret
              exact ⟨rfl, HB18.out⟩
        · clear hco1
          go_wp2_with fail
          go_loopw [26] (fun i wr => ∃ k : Nat, k ≤ b ∧ i = .int .i64 k ∧ Below w14.heap.size w14 wr) (fun i _ => b - (intOf i).toNat)
          case atStart => exact ⟨0, by omega, rfl, Below.refl _ _⟩
          case round =>
            obtain ⟨k, hk, rfl, hbr⟩ := hrel
            by_cases hlt : k < b
            · have hbd := below_drew wr
              have hY := (H14.out.2.1.below hbr).below hbd
              have hF := (H14.out.2.2.1.below hbr).below hbd
              obtain ⟨x, hx1, hx2, hrd⟩ := readG vy g3 gl3 Dy b n' m' k hlt _ hY
              have hbdr := hbr.trans (hbd.mono hbr.size)
              have HQ := Lib.hid (And.intro hbdr (And.intro hF hx2))
              have HX1 := Lib.hid hx1
              clear hbd hY hF hbdr hx2 hx1 hbr
              go_wp2_with fail
              refine SC.wp_region_seg [] [[0, 1, 4, 5, 2], [3, 6], [7, 8]] (by kernel_rfl) (by kernel_rfl) ?_
              simp only [SC.Seg, SC.pick_cons, SC.pick_nil, List.getElem?_toArray, List.getElem?_cons_zero, List.getElem?_cons_succ, Option.toList_some, List.cons_append, List.nil_append]
              generalize wr.drew = wd at *
              go_wp2_with fail
              refine hrd.mono ?_
              rintro e wa ⟨Aa, ca, rfl, hca, hoa, hba⟩
              clear hrd
              have ha := run_str (P := Tryd.prog) wa (Rd.own hoa) 28 9 5 Tryd.underlying28 Tryd.underlying5 Tryd.underlying9 256 ca HX1.out.symm
              unfold str at ha
              have HOA := Lib.hid (Old.of_below hba)
              obtain ⟨x', hx1', hx2', hrd⟩ := readG v9 g2 gl2 D8 b n' m' k hlt wa (HQ.out.2.1.below hba)
              have exx : x' = x := by
                have := HQ.out.2.2
                rw [hx2'] at this
                injection this
              subst exx
              have HBA := Lib.hid (HQ.out.1.trans (hba.mono HQ.out.1.size))
              clear hx2' hx1' hoa hba
              go_wp2_with fail
              refine SC.Fin.intro ⟨by kernel_rfl, HOA.out, ?_⟩
              go_wp2_with fail
              refine hrd.mono ?_
              rintro e wb ⟨Ab, cb2, rfl, hcb2, hob, hbb2⟩
              clear hrd ha
              have hb2 := run_str (P := Tryd.prog) wb (Rd.own hob) 28 9 5 Tryd.underlying28 Tryd.underlying5 Tryd.underlying9 256 cb2 HX1.out.symm
              unfold str at hb2
              have HOB := Lib.hid (Old.of_below hbb2)
              have HBB := Lib.hid (HBA.out.trans (hbb2.mono HBA.out.size))
              clear hob hbb2
              go_wp2_with fail
              refine SC.Fin.intro ⟨by kernel_rfl, HOB.out, ?_⟩
              go_wp2_with fail
              refine SC.Fin.intro ⟨by kernel_rfl, ?_⟩
              go_wp2_with fail
              go_roundw
              case rel => exact ⟨k + 1, by omega, by go_num, HBB.out⟩
              case measure => simp [intOf]; omega
            · obtain rfl : k = b := by omega
              obtain ⟨hb14w, hY14, hF14, hm14, hP14⟩ := H14.out
              have hbrw := hb14w.trans (hbr.mono hb14w.size)
              have hYr := hY14.below hbr
              have hPr := hP14.below hbr
              have hmay := HMAY.out.1
              obtain ⟨e1c, Dz, e2c, c3, c4', c5⟩ := commit_free hYr.good HFD.out (by omega) hmay HMAY.out.2
              have hcm := commit_any vy g3 gl3 ⟨Dy, k, n', false⟩ A2 c2 L wr hYr.vat hPr (by have := HL.out; omega) (hK.below hbrw hK0) (fun h => by have := hlow4 0 h; omega) (by show n' + 1 < 900000; omega)
              rw [show VolD.commit ⟨Dy, k, n', false⟩ L = (0, ⟨Dz, k, n' + 1, false⟩) from Prod.ext e1c e2c, HL.out] at hcm
              rw [HAP.out.1] at c3
              dsimp only at hcm
              have Hr := Lib.hid (And.intro hbrw (And.intro hYr.vat (And.intro hPr (And.intro (hF14.below hbr) (hm14.below hbr)))))
              have HC3 := Lib.hid c3
              clear hb14w hY14 hF14 hm14 hP14 hbrw hYr hPr hmay e1c e2c c3 c4' c5 hbr
              go_wp2_with fail
              refine hcm.mono ?_
              rintro e w16 ⟨rfl, hV16, hf16⟩
              clear hcm
              obtain ⟨hbrw, hVr, hPr, hFr, hmr⟩ := Hr.out
              have hP16 : PutsAt w16 A2 L := hPr.fr hf16 (three_no (by decide) (by decide) (by decide) hVr) (three_no (by decide) (by decide) (by decide) hVr)
              have hm16 := hmr.three hVr hf16
              have hap : ∀ i, three v9 g2 gl2 i → ¬ three vy g3 gl3 i := by
                have h1 := H14.out.2.2.1
                have h2 := HFLT.out
                have h3 := HYGE.out
                rintro i hi hj
                have := h2 i hi
                have := h3 i hj
                omega
              have hF16 : VG w16 v9 g2 gl2 D8 k n' m' := ⟨hFr.vat.fr hf16 (three_no (by decide) (by decide) (by decide) hVr) hap, hFr.good⟩
              have hb16w : Below w.heap.size w w16 := hbrw.trans (hf16.to hlow4 hbrw.size)
              have haf := after_o m L A A2 c c2 w16 hm16 hP16 (by rw [HML.out]; omega) (by omega) (by rw [HML.out]; exact hok.2)
              rw [HML.out, HL.out] at haf
              have H16 := Lib.hid (And.intro hb16w (And.intro hV16 hF16))
              clear hbrw hVr hPr hFr hmr hP16 hm16 hap hF16 hb16w hV16 hf16
              go_wp2_with fail
              refine haf.mono ?_
              rintro e w17 ⟨A17, c17, rfl, hc17, hM17, hb17⟩
              clear haf
              obtain ⟨hb16w, hV16, hF16⟩ := H16.out
              have hb17w := hb16w.trans (hb17.mono hb16w.size)
              have hY17 : VG w17 vy g3 gl3 Dz k (n' + 1) (applyM m L) := ⟨hV16.below hb17, HC3.out⟩
              have his := isG_same vy g3 gl3 Dz k (n' + 1) (applyM m L) A17 c17 w17 hY17 hM17
              have H17 := Lib.hid (And.intro hb17w (And.intro hY17 (hF16.below hb17)))
              clear hb16w hV16 hF16 hb17w hY17 hM17 hb17
              go_wp2_with fail
              refine his.mono ?_
              rintro e w18 ⟨rfl, hb18⟩
              clear his
              obtain ⟨hb17w, hY17, hF17⟩ := H17.out
              have hco1 := commitsG vy g3 gl3 Dz k (n' + 1) (applyM m L) w18 (hY17.below hb18)
              have hco2 := commitsG v9 g2 gl2 D8 k n' m' w18 (hF17.below hb18)
              have HB18 := Lib.hid (hb17w.trans (hb18.mono hb17w.size))
              have hee : (((n' + 1 : Nat) : Int) == ((n' : Nat) : Int) + 1) = true := by rw [beq_iff_eq]; omega
              have hee2 : (((n' + 1 : Nat) : Int)) = ((n' : Nat) : Int) + 1 := by omega
              rw [hee2] at hco1 hee
              clear hee2 hb17w hY17 hF17 hb18
              go_wp2_with fail
              refine hco1.mono ?_
              rintro e _ ⟨rfl, rfl⟩
              go_wp2_with fail
              refine hco2.mono ?_
              rintro e _ ⟨rfl, rfl⟩
              go_wp2_with fail
              go_ret
              exact ⟨rfl, HB18.out⟩
end Go.Proofs.YtbjbjnbloddioaaDoor
