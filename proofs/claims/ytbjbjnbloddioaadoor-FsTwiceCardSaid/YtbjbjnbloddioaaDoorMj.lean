/- FsCrash walked. -/
import Derived.Test.YtbjbjnbloddioaaDoorMi
set_option linter.unusedVariables false
set_option linter.unusedSimpArgs false
namespace Go.Proofs.YtbjbjnbloddioaaDoor
open Go.RowKit Go.Shelf

/-- A good volume in memory. -/
structure VG (w : World) (v g gl : Nat) (D : DiskD) (b n : Nat) (m : List (List UInt8)) : Prop where
  vat : VAt w v g gl ⟨D, b, n, false⟩
  good : Good D b n m
theorem VG.below {w w' : World} {v g gl : Nat} {D : DiskD} {b n : Nat} {m : List (List UInt8)} (h : VG w v g gl D b n m) (hb : Below w.heap.size w w') : VG w' v g gl D b n m := ⟨h.vat.below hb, h.good⟩
theorem isG (v g gl : Nat) (D : DiskD) (b n : Nat) (m M : List (List UInt8)) (A : Option Addr) (c : Nat) (w : World) (h : VG w v g gl D b n m) (hM : ModelAt w A M) (hl : M.length = b) :
    Calls Tryd.prog 19 #[.pointer (some ⟨v, 0, none⟩), .slice A b c] w (fun e w' => e = .returned (.bool (m == M)) ∧ Below w.heap.size w w') := by
  have := is_o v g gl ⟨D, b, n, false⟩ M A c w h.vat hM hl
  rw [good_reads h.good.a, hl] at this
  exact this
theorem isG_same (v g gl : Nat) (D : DiskD) (b n : Nat) (m : List (List UInt8)) (A : Option Addr) (c : Nat) (w : World) (h : VG w v g gl D b n m) (hM : ModelAt w A m) :
    Calls Tryd.prog 19 #[.pointer (some ⟨v, 0, none⟩), .slice A b c] w (fun e w' => e = .returned (.bool true) ∧ Below w.heap.size w w') := by
  have := isG v g gl D b n m m A c w h hM h.good.a.hm
  simp only [beq_self_eq_true] at this
  exact this
theorem commitsG (v g gl : Nat) (D : DiskD) (b n : Nat) (m : List (List UInt8)) (w : World) (h : VG w v g gl D b n m) :
    Calls Tryd.prog 14 #[.pointer (some ⟨v, 0, none⟩)] w (fun e w' => e = .returned (.int .i64 (n : Int)) ∧ w = w') := commits_o v g b (n : Int) false w h.vat.vol
theorem mountG (g gl : Nat) (D : DiskD) (b n : Nat) (m : List (List UInt8)) (w : World) (hD : DiskAt w g gl D) (h : Good D b n m) (hf : D.dead = false) (hK : Kg w) :
    Calls Tryd.prog 9 #[.pointer (some ⟨g, 0, none⟩)] w (fun e w' => ∃ v, e = .returned (.tuple #[.pointer (some ⟨v, 0, none⟩), .int .i64 0]) ∧ w.heap.size ≤ v ∧ VG w' v g gl D b n m ∧ Below w.heap.size w w') := by
  refine (mount_o g gl D w hD hK h.a.heads.1 h.a.heads.2).mono ?_
  rintro e w' ⟨hR, hb⟩
  obtain ⟨v, rfl, hv, hvol⟩ := mountR_good h hf hR
  exact ⟨v, rfl, hv, ⟨good_vat h (hD.below hb) hvol, h⟩, hb⟩

set_option maxRecDepth 100000 in
set_option maxHeartbeats 16000000 in
theorem fsCrash_o (s f : Int) (hs1 : -9223372036854775808 ≤ s) (hs2 : s ≤ 9223372036854775807) (hf1 : -9223372036854775808 ≤ f) (hf2 : f ≤ 9223372036854775807) (cs : List (List PutD)) (C : Option Addr) (cc : Nat) (ps : List PutD) (E : Option Addr) (ce : Nat) (ks : List Bool) (B : Option Addr) (cb : Nat) (w : World)
    (hC : CommitsU w w.heap.size C cs) (hcl : cs.length ≤ 140737488355328) (hP : PutU w w.heap.size E ps) (hpl : ps.length ≤ 3518437208883) (hB : Rd w B (ks.map Value.bool)) (hkl : ks.length ≤ 140737488351232) (hK : Kg w) :
    Calls Tryd.prog 5 #[.int .i64 s, .slice C cs.length cc, .slice E ps.length ce, .int .i64 f, .slice B ks.length cb] w (TrueB w) := by
  have hK0 := hK.pos
  have hszo := lsize_o s hs1 hs2
  have hsb := sizeN_bd s
  clear hs1 hs2
  have hfu : ∃ fu : Nat, fu ≤ 9223372036854775807 ∧ ((0 ≤ f ∧ f = fu) ∨ (f < 0 ∧ f = -(fu : Int) - 1)) := by
    by_cases h : f < 0
    · exact ⟨(-(f + 1)).toNat, by omega, .inr ⟨h, by omega⟩⟩
    · exact ⟨f.toNat, by omega, .inl ⟨by omega, by omega⟩⟩
  obtain ⟨fu, hfu1, hfu2⟩ := hfu
  have hfu3 : (fu : Int) ≤ 9223372036854775807 := by omega
  clear hf1 hf2
  have hmapl : (ps.map PutD.put).length = ps.length := by simp
  go_enter Tryd.func5, Tryd.ntmps5
  go_wp2_with fail
  refine (begun_o w hK).mono ?_
  rintro e w0 ⟨rfl, hb0⟩
  have hww := hb0.size
  have hK1 := hK.below hb0 hK0
  go_wp2_with fail
  refine (hszo w0).mono ?_
  rintro e _ ⟨rfl, rfl⟩
  clear hszo
  generalize sizeN s = N at *
  obtain ⟨h16, h60⟩ := hsb
  have hC0 : CommitsU w0 w0.heap.size C cs := fun j ps hp => by
    obtain ⟨g, o, A2, c2, e, hg, h1, h2, h3⟩ := (hC.below hb0) j ps hp
    refine ⟨g, o, A2, c2, e, by omega, h1, h2, fun j p hp => ?_⟩
    obtain ⟨g', o', A3, c3, e, hg', r⟩ := h3 j p hp
    exact ⟨g', o', A3, c3, e, by omega, r.1, r.2.1, r.2.2.1, r.2.2.2.1, r.2.2.2.2.1, r.2.2.2.2.2.more hww⟩
  have hmd := made_o N h16 h60 cs C cc w0 hC0 hcl hK1
  go_wp2_with fail
  refine hmd.mono ?_
  rintro e w1 ⟨g, gl, v, D, b, n, m, A, c, rfl, hn6, hM⟩
  clear hmd hC0
  have hb1 := hb0.trans (hM.below.mono hww)
  have hml : m.length = b := hM.good.a.hm
  have hbb : b ≤ 26 := by have := hM.bb; omega
  have hP1 : PutU w1 w1.heap.size E ps := fun j p hp => by
    obtain ⟨g', o', A3, c3, e, hg', r⟩ := (hP.below hb1) j p hp
    have := hb1.size
    exact ⟨g', o', A3, c3, e, by omega, r.1, r.2.1, r.2.2.1, r.2.2.2.1, r.2.2.2.2.1, r.2.2.2.2.2.more hb1.size⟩
  have hpu := puts_o ps b (by omega) E ce w1 hP1 hpl
  have HM := Lib.hid hM
  have HB1 := Lib.hid hb1
  have HML := Lib.hid hml
  clear hP1 hM hb1 hml hb0 hK1
  go_wp2_with fail
  refine hpu.mono ?_
  rintro e w2 ⟨A2, c2, rfl, hc2, hP2, hb2⟩
  clear hpu
  have hlow : ∀ i, three v g gl i → w.heap.size ≤ i := fun i hi => by
    have h1 := HM.out.hg; have h2 := HM.out.hgl; have h3 := HM.out.hv
    rcases hi with rfl | rfl | rfl <;> omega
  have hb2w := HB1.out.trans (hb2.mono HB1.out.size)
  have HV2 := Lib.hid (HM.out.vat.below hb2)
  have hm2 := HM.out.model.below hb2
  have hokL := fun h => mayB_ok (L := ps.map PutD.put) (b := b) h
  have hnil : ps.map PutD.put = [] → ps.length = 0 := fun h => by simpa using h
  generalize ps.map PutD.put = L at *
  have HP2 := Lib.hid (And.intro hP2 (And.intro hb2w hm2))
  have HL := Lib.hid hmapl
  have HOK := Lib.hid hokL
  clear hb2 hP2 hm2 hb2w hmapl hokL
  cases hmay : mayB L b with
  | false =>
    go_wp2_with fail
    go_ret
    exact ⟨rfl, HP2.out.2.1⟩
  | true =>
    by_cases hL0 : L = []
    · have hl0 := hnil hL0
      have hl0' : ((ps.length : Int) == 0) = true := by rw [beq_iff_eq]; omega
      clear hnil hmay hL0 
      go_wp2_with fail
      go_ret
      exact ⟨rfl, HP2.out.2.1⟩
    · have hl0 : 0 < ps.length := by rw [← HL.out]; exact List.length_pos_iff.2 hL0
      have hl0' : ((ps.length : Int) == 0) = false := by rw [beq_eq_false_iff_ne]; omega
      have hcg := commit_fuse (D := D.setFuse (fu % 40)) (HM.out.good.setFuse _) (by omega) hmay hL0
      have hok := HOK.out hmay
      clear hnil hmay hL0
      have hfz := fuse_k g gl D (fu % 40) w2 HV2.out.disk (by omega)
      have hfmod : ((fu % 40 : Nat) : Int) = (fu : Int) % 40 := by omega
      rw [hfmod] at hfz
      clear hfmod
      rcases hfu2 with ⟨hf0, rfl⟩ | ⟨hf0, rfl⟩
      all_goals
        go_wp2_with fail
        refine hfz.mono ?_
        rintro e w3 ⟨rfl, hD3, hf3⟩
        clear hfz
        obtain ⟨hP2, hb2w, hm2⟩ := HP2.out
        have hfb : Below w.heap.size w w3 := hb2w.trans (hf3.to (fun i hi => hlow i (two_three hi)) hb2w.size)
        have hno : ∀ t, t ≠ 65 → t ≠ 69 → t ≠ 71 → NoT t (two g gl) w2 := fun t a1 a2 a3 k hk => three_no a1 a2 a3 HV2.out k (two_three hk)
        have hV3 : VAt w3 v g gl ⟨D.setFuse (fu % 40), b, n, false⟩ := ⟨hf3.same HV2.out.vol (VolAt.apart HV2.out.vol HV2.out.disk), hD3, by show _ ≤ (D.setFuse (fu % 40)).secs.length; rw [setFuse_secs]; exact HV2.out.len, HV2.out.small⟩
        have hP3 : PutsAt w3 A2 L := hP2.fr hf3 (hno 5 (by decide) (by decide) (by decide)) (hno 30 (by decide) (by decide) (by decide))
        have hm3 := hm2.fr hf3 (hno 5 (by decide) (by decide) (by decide)) (hno 28 (by decide) (by decide) (by decide))
        have hcm := commit_any v g gl ⟨D.setFuse (fu % 40), b, n, false⟩ A2 c2 L w3 hV3 hP3 (by have := HL.out; omega) (hK.below hfb hK0) (fun h => by have := hlow 0 h; omega) (by show n + 1 < 900000; omega)
        rw [HL.out] at hcm
        have H3 := Lib.hid (And.intro hfb (And.intro hV3 (And.intro hP3 hm3)))
        clear hP2 hb2w hm2 hfb hno hV3 hP3 hm3 hf3 hD3
        rcases hcg with ⟨D1, e1, g1, l1⟩ | ⟨D1, e1, rd1, l1, cr1⟩
        all_goals
          rw [e1] at hcm
          dsimp only at hcm
          have HE1 := Lib.hid (And.intro e1 l1)
          clear e1 l1
          go_wp2_with fail
          refine hcm.mono ?_
          rintro e w4 ⟨rfl, hV4, hf4⟩
          clear hcm
          obtain ⟨hfb, hV3, hP3, hm3⟩ := H3.out
          have hm4 := hm3.three hV3 hf4
          have hP4 : PutsAt w4 A2 L := hP3.fr hf4 (three_no (by decide) (by decide) (by decide) hV3) (three_no (by decide) (by decide) (by decide) hV3)
          have hb4 : Below w.heap.size w w4 := hfb.trans (hf4.to hlow hfb.size)
          have haf := after_o m L A A2 c c2 w4 hm4 hP4 (by rw [HML.out]; omega) (by omega) (by rw [HML.out]; exact hok.2)
          rw [HML.out, HL.out] at haf
          have H4 := Lib.hid (And.intro hb4 (And.intro hV4 hm4))
          clear hfb hV3 hP3 hm3 hf4 hm4 hP4 hb4 hV4
          go_wp2_with fail
          refine haf.mono ?_
          rintro e w5 ⟨A5, c5, rfl, hc5, hM5, hb5⟩
          clear haf
          obtain ⟨hb4, hV4, hm4⟩ := H4.out
          have hb5w := hb4.trans (hb5.mono hb4.size)
          have H5 := Lib.hid (And.intro hb5w (And.intro (hV4.below hb5) (And.intro (hm4.below hb5) hM5)))
          clear hb4 hV4 hm4 hM5 hb5 hb5w
        · have HCR : Hid (∀ kf, (Good (D1.crash kf) b n m ∧ (0 : Int) = 48) ∨ Good (D1.crash kf) b (n + 1) (applyM m L)) := Lib.hid (fun kf => .inr (g1.crash kf))
          clear g1
          obtain ⟨hb5w, hV5, hm5, hM5⟩ := H5.out
          have hko := fun all => keeper_o ks all N (by omega) B cb w5 (hB.below hb5w) (by omega)
          clear hb5w hV5 hm5 hM5
          go_wp2_with fail
          refine (hko _).mono ?_
          rintro e w6 ⟨kv, rfl, hkp, hb6⟩
          clear hko
          obtain ⟨hb5w, hV5, hm5, hM5⟩ := H5.out
          have hb6w := hb5w.trans (hb6.mono hb5w.size)
          have hlN : D1.secs.length = N := by rw [HE1.out.2, setFuse_secs]; exact HM.out.len
          have hcro := crash_o g gl D1 kv _ w6 (hV5.disk.below hb6) (by rw [hlN]; omega) (by rw [hlN]; exact hkp)
          have H6 := Lib.hid (And.intro hb6w (And.intro (hm5.below hb6) (hM5.below hb6)))
          have HLN := Lib.hid hlN
          clear hb5w hV5 hm5 hM5 hb6 hb6w hlN hkp
          go_wp2_with fail
          refine hcro.mono ?_
          rintro e w7 ⟨g', gl', rfl, hg', hgl', hD7, hb7⟩
          clear hcro
          obtain ⟨hb6w, hm6, hM6⟩ := H6.out
          have hb7w := hb6w.trans (hb7.mono hb6w.size)
          have hm7 := hm6.below hb7
          have hM7 := hM6.below hb7
          generalize keepF ks _ = kf at hD7
          have hl6 : (D1.crash kf).secs.length = N := by rw [crash_len]; exact HLN.out
          have hf6 := crash_free D1 kf
          have hcase := HCR.out kf
          generalize D1.crash kf = D6 at *
          have HL6 := Lib.hid hl6
          clear hb6w hm6 hM6 hb7 hl6
          rcases hcase with ⟨hg6, h48⟩ | hg6
          · first
            | exact absurd h48 (by decide)
            | (clear h48
               have hmt := mountG g' gl' D6 b (n) (m) w7 hD7 hg6 (free_dead hf6) (hK.below hb7w hK0)
               have H7 := Lib.hid (And.intro hb7w (And.intro hD7 (And.intro hg6 (And.intro hm7 hM7))))
               clear hb7w hD7 hg6 hm7 hM7
               go_wp2_with fail
               refine hmt.mono ?_
               rintro e w8 ⟨v8, rfl, hv8, hG8, hb8⟩
               clear hmt
               obtain ⟨hb7w, hD7, hg6, hm7, hM7⟩ := H7.out
               have hb8w := hb7w.trans (hb8.mono hb7w.size)
               have H8 := Lib.hid (And.intro hb8w (And.intro (hD7.below hb8) (And.intro hG8 (And.intro (hm7.below hb8) (hM7.below hb8)))))
               clear hb7w hD7 hm7 hM7 hb8 hb8w
               have hco := commitsG v8 g' gl' D6 b (n) (m) w8 hG8
               clear hG8
               go_wp2_with fail
               refine hco.mono ?_
               rintro e _ ⟨rfl, rfl⟩
               clear hco
               have his := isG_same v8 g' gl' D6 b n m A c w8 H8.out.2.2.1 H8.out.2.2.2.1
               go_wp2_with fail
               refine his.mono ?_
               rintro e w9 ⟨rfl, hb9⟩
               clear his
               obtain ⟨hb8w, hD8, hG8, hm8, hM8⟩ := H8.out
               have hb9w := hb8w.trans (hb9.mono hb8w.size)
               have his := isG v8 g' gl' D6 b n m (applyM m L) A5 c5 w9 (hG8.below hb9) (hM8.below hb9) ((applyM_len m L).trans HML.out)
               have H9 := Lib.hid (And.intro hb9w (And.intro (hD8.below hb9) (And.intro (hG8.below hb9) (And.intro (hm8.below hb9) (hM8.below hb9)))))
               clear hb8w hD8 hG8 hm8 hM8 hb9 hb9w
               have hne : decide ((n : Int) = n + 1) = false := by simp; omega
               have hne2 : ((n : Int) == n + 1) = false := by rw [beq_eq_false_iff_ne]; omega
               generalize (m == applyM m L) = x at his
               cases x
               all_goals
                 go_wp2_with fail
                 refine his.mono ?_
                 rintro e w10 ⟨rfl, hb10⟩
                 clear his
                 obtain ⟨hb9w, hD9, hG9, hm9, hM9⟩ := H9.out
                 have hb10w := hb9w.trans (hb10.mono hb9w.size)
                 have hko := fun all => keeper_o ks all N (by omega) B cb w10 (hB.below hb10w) (by omega)
                 have H10 := Lib.hid (And.intro hb10w (And.intro (hD9.below hb10) (And.intro (hG9.below hb10) (And.intro (hm9.below hb10) (hM9.below hb10)))))
                 clear hb9w hD9 hG9 hm9 hM9 hb10 hb10w hne hne2
                 go_wp2_with fail
                 refine (hko _).mono ?_
                 rintro e w11 ⟨kv2, rfl, hkp2, hb11⟩
                 clear hko
                 obtain ⟨hb10w, hD10, hG10, hm10, hM10⟩ := H10.out
                 have hb11w := hb10w.trans (hb11.mono hb10w.size)
                 have hcro := crash_o g' gl' D6 kv2 _ w11 (hD10.below hb11) (by rw [HL6.out]; omega) (by rw [HL6.out]; exact hkp2)
                 have H11 := Lib.hid (And.intro hb11w (And.intro (hD10.below hb11) (And.intro (hG10.below hb11) (And.intro (hm10.below hb11) (hM10.below hb11)))))
                 clear hb10w hD10 hG10 hm10 hM10 hb11 hb11w hkp2
                 go_wp2_with fail
                 refine hcro.mono ?_
                 rintro e w12 ⟨g2, gl2, rfl, hg2, hgl2, hD12', hb12⟩
                 clear hcro
                 obtain ⟨hb11w, hD11, hG11, hm11, hM11⟩ := H11.out
                 generalize keepF ks _ = kf2 at hD12'
                 have hgd := hG11.good.crash kf2
                 have hfd := crash_free D6 kf2
                 generalize D6.crash kf2 = D7 at hD12' hgd hfd
                 have hb12w := hb11w.trans (hb12.mono hb11w.size)
                 have hmt := mountG g2 gl2 D7 b (n) (m) w12 hD12' hgd (free_dead hfd) (hK.below hb12w hK0)
                 have H12 := Lib.hid (And.intro hb12w (And.intro (hD11.below hb12) (And.intro (hG11.below hb12) (And.intro (hm11.below hb12) (hM11.below hb12)))))
                 clear hb11w hD11 hG11 hm11 hM11 hb12 hb12w hD12' hgd hfd
                 go_wp2_with fail
                 refine hmt.mono ?_
                 rintro e w13 ⟨v13, rfl, hv13, hY13, hb13⟩
                 clear hmt
                 obtain ⟨hb12w, hD12, hG12, hm12, hM12⟩ := H12.out
                 have hb13w := hb12w.trans (hb13.mono hb12w.size)
                 have hmt := mountG g' gl' D6 b (n) (m) w13 (hD12.below hb13) hG12.good (free_dead hf6) (hK.below hb13w hK0)
                 have H13 := Lib.hid (And.intro hb13w (And.intro hY13 (And.intro (hm12.below hb13) (hM12.below hb13))))
                 clear hb12w hD12 hG12 hm12 hM12 hb13 hb13w hY13
                 go_wp2_with fail
                 refine hmt.mono ?_
                 rintro e w14 ⟨v14, rfl, hv14, hZ14, hb14⟩
                 clear hmt
                 obtain ⟨hb13w, hY13, hm13, hM13⟩ := H13.out
                 have hb14w := hb13w.trans (hb14.mono hb13w.size)
                 have hco1 := commitsG v13 g2 gl2 D7 b (n) (m) w14 (hY13.below hb14)
                 have hco2 := commitsG v14 g' gl' D6 b (n) (m) w14 hZ14
                 have H14 := Lib.hid (And.intro hb14w (And.intro (hY13.below hb14) (And.intro hZ14 (And.intro (hm13.below hb14) (hM13.below hb14)))))
                 clear hb13w hY13 hm13 hM13 hb14 hb14w hZ14
                 go_wp2_with fail
                 refine hco1.mono ?_
                 rintro e _ ⟨rfl, rfl⟩
                 clear hco1
                 go_wp2_with fail
                 refine hco2.mono ?_
                 rintro e _ ⟨rfl, rfl⟩
                 clear hco2
                 obtain ⟨hb14w, hY14, hZ14, hm14, hM14⟩ := H14.out
                 have his := isG_same v13 g2 gl2 D7 b (n) (m) A c w14 hY14 hm14
                 clear hb14w hY14 hZ14 hm14 hM14
                 go_wp2_with fail
                 refine his.mono ?_
                 rintro e w15 ⟨rfl, hb15⟩
                 clear his
                 obtain ⟨hb14w, hY14, hZ14, hm14, hM14⟩ := H14.out
                 have his := isG_same v14 g' gl' D6 b (n) (m) A c w15 (hZ14.below hb15) (hm14.below hb15)
                 have hb15w := hb14w.trans (hb15.mono hb14w.size)
                 have H15 := Lib.hid hb15w
                 clear hb14w hY14 hZ14 hm14 hM14 hb15 hb15w
                 go_wp2_with fail
                 refine his.mono ?_
                 rintro e w16 ⟨rfl, hb16⟩
                 clear his
                 go_wp2_with fail
                 go_ret
                 exact ⟨rfl, H15.out.trans (hb16.mono H15.out.size)⟩)
          · have hmt := mountG g' gl' D6 b (n + 1) (applyM m L) w7 hD7 hg6 (free_dead hf6) (hK.below hb7w hK0)
            have H7 := Lib.hid (And.intro hb7w (And.intro hD7 (And.intro hg6 (And.intro hm7 hM7))))
            clear hb7w hD7 hg6 hm7 hM7
            go_wp2_with fail
            refine hmt.mono ?_
            rintro e w8 ⟨v8, rfl, hv8, hG8, hb8⟩
            clear hmt
            obtain ⟨hb7w, hD7, hg6, hm7, hM7⟩ := H7.out
            have hb8w := hb7w.trans (hb8.mono hb7w.size)
            have H8 := Lib.hid (And.intro hb8w (And.intro (hD7.below hb8) (And.intro hG8 (And.intro (hm7.below hb8) (hM7.below hb8)))))
            clear hb7w hD7 hm7 hM7 hb8 hb8w
            have hco := commitsG v8 g' gl' D6 b (n + 1) (applyM m L) w8 hG8
            clear hG8
            go_wp2_with fail
            refine hco.mono ?_
            rintro e _ ⟨rfl, rfl⟩
            clear hco
            have his := isG v8 g' gl' D6 b (n + 1) (applyM m L) m A c w8 H8.out.2.2.1 H8.out.2.2.2.1 HML.out
            go_wp2_with fail
            refine his.mono ?_
            rintro e w9 ⟨rfl, hb9⟩
            clear his
            generalize (applyM m L == m) = x
            obtain ⟨hb8w, hD8, hG8, hm8, hM8⟩ := H8.out
            have hb9w := hb8w.trans (hb9.mono hb8w.size)
            have his := isG_same v8 g' gl' D6 b (n + 1) (applyM m L) A5 c5 w9 (hG8.below hb9) (hM8.below hb9)
            have H9 := Lib.hid (And.intro hb9w (And.intro (hD8.below hb9) (And.intro (hG8.below hb9) (And.intro (hm8.below hb9) (hM8.below hb9)))))
            clear hb8w hD8 hG8 hm8 hM8 hb9 hb9w
            have hne : decide ((n : Int) + 1 = n) = false := by simp; omega
            have hne2 : (((n : Int) + 1) == n) = false := by rw [beq_eq_false_iff_ne]; omega
            cases x
            all_goals
              go_wp2_with fail
              refine his.mono ?_
              rintro e w10 ⟨rfl, hb10⟩
              clear his
              obtain ⟨hb9w, hD9, hG9, hm9, hM9⟩ := H9.out
              have hb10w := hb9w.trans (hb10.mono hb9w.size)
              have hko := fun all => keeper_o ks all N (by omega) B cb w10 (hB.below hb10w) (by omega)
              have H10 := Lib.hid (And.intro hb10w (And.intro (hD9.below hb10) (And.intro (hG9.below hb10) (And.intro (hm9.below hb10) (hM9.below hb10)))))
              clear hb9w hD9 hG9 hm9 hM9 hb10 hb10w hne hne2
              go_wp2_with fail
              refine (hko _).mono ?_
              rintro e w11 ⟨kv2, rfl, hkp2, hb11⟩
              clear hko
              obtain ⟨hb10w, hD10, hG10, hm10, hM10⟩ := H10.out
              have hb11w := hb10w.trans (hb11.mono hb10w.size)
              have hcro := crash_o g' gl' D6 kv2 _ w11 (hD10.below hb11) (by rw [HL6.out]; omega) (by rw [HL6.out]; exact hkp2)
              have H11 := Lib.hid (And.intro hb11w (And.intro (hD10.below hb11) (And.intro (hG10.below hb11) (And.intro (hm10.below hb11) (hM10.below hb11)))))
              clear hb10w hD10 hG10 hm10 hM10 hb11 hb11w hkp2
              go_wp2_with fail
              refine hcro.mono ?_
              rintro e w12 ⟨g2, gl2, rfl, hg2, hgl2, hD12', hb12⟩
              clear hcro
              obtain ⟨hb11w, hD11, hG11, hm11, hM11⟩ := H11.out
              generalize keepF ks _ = kf2 at hD12'
              have hgd := hG11.good.crash kf2
              have hfd := crash_free D6 kf2
              generalize D6.crash kf2 = D7 at hD12' hgd hfd
              have hb12w := hb11w.trans (hb12.mono hb11w.size)
              have hmt := mountG g2 gl2 D7 b (n + 1) (applyM m L) w12 hD12' hgd (free_dead hfd) (hK.below hb12w hK0)
              have H12 := Lib.hid (And.intro hb12w (And.intro (hD11.below hb12) (And.intro (hG11.below hb12) (And.intro (hm11.below hb12) (hM11.below hb12)))))
              clear hb11w hD11 hG11 hm11 hM11 hb12 hb12w hD12' hgd hfd
              go_wp2_with fail
              refine hmt.mono ?_
              rintro e w13 ⟨v13, rfl, hv13, hY13, hb13⟩
              clear hmt
              obtain ⟨hb12w, hD12, hG12, hm12, hM12⟩ := H12.out
              have hb13w := hb12w.trans (hb13.mono hb12w.size)
              have hmt := mountG g' gl' D6 b (n + 1) (applyM m L) w13 (hD12.below hb13) hG12.good (free_dead hf6) (hK.below hb13w hK0)
              have H13 := Lib.hid (And.intro hb13w (And.intro hY13 (And.intro (hm12.below hb13) (hM12.below hb13))))
              clear hb12w hD12 hG12 hm12 hM12 hb13 hb13w hY13
              go_wp2_with fail
              refine hmt.mono ?_
              rintro e w14 ⟨v14, rfl, hv14, hZ14, hb14⟩
              clear hmt
              obtain ⟨hb13w, hY13, hm13, hM13⟩ := H13.out
              have hb14w := hb13w.trans (hb14.mono hb13w.size)
              have hco1 := commitsG v13 g2 gl2 D7 b (n + 1) (applyM m L) w14 (hY13.below hb14)
              have hco2 := commitsG v14 g' gl' D6 b (n + 1) (applyM m L) w14 hZ14
              have H14 := Lib.hid (And.intro hb14w (And.intro (hY13.below hb14) (And.intro hZ14 (And.intro (hm13.below hb14) (hM13.below hb14)))))
              clear hb13w hY13 hm13 hM13 hb14 hb14w hZ14
              go_wp2_with fail
              refine hco1.mono ?_
              rintro e _ ⟨rfl, rfl⟩
              clear hco1
              go_wp2_with fail
              refine hco2.mono ?_
              rintro e _ ⟨rfl, rfl⟩
              clear hco2
              obtain ⟨hb14w, hY14, hZ14, hm14, hM14⟩ := H14.out
              have his := isG_same v13 g2 gl2 D7 b (n + 1) (applyM m L) A5 c5 w14 hY14 hM14
              clear hb14w hY14 hZ14 hm14 hM14
              go_wp2_with fail
              refine his.mono ?_
              rintro e w15 ⟨rfl, hb15⟩
              clear his
              obtain ⟨hb14w, hY14, hZ14, hm14, hM14⟩ := H14.out
              have his := isG_same v14 g' gl' D6 b (n + 1) (applyM m L) A5 c5 w15 (hZ14.below hb15) (hM14.below hb15)
              have hb15w := hb14w.trans (hb15.mono hb14w.size)
              have H15 := Lib.hid hb15w
              clear hb14w hY14 hZ14 hm14 hM14 hb15 hb15w
              go_wp2_with fail
              refine his.mono ?_
              rintro e w16 ⟨rfl, hb16⟩
              clear his
              go_wp2_with fail
              go_ret
              exact ⟨rfl, H15.out.trans (hb16.mono H15.out.size)⟩
        · have HRD := Lib.hid rd1
          clear rd1
          have HCR : Hid (∀ kf, (Good (D1.crash kf) b n m ∧ (48 : Int) = 48) ∨ Good (D1.crash kf) b (n + 1) (applyM m L)) := Lib.hid (fun kf => (cr1 kf).imp (fun h => ⟨h, rfl⟩) id)
          clear cr1
          obtain ⟨hb5w, hV5, hm5, hM5⟩ := H5.out
          have his := is_o v g gl ⟨D1, b, n, true⟩ m A c w5 hV5 hm5 HML.out
          rw [HRD.out, HML.out] at his
          simp only [beq_self_eq_true] at his
          clear hb5w hV5 hm5 hM5
          go_wp2_with fail
          refine his.mono ?_
          rintro e w5' ⟨rfl, hb5'⟩
          clear his
          have H5 := Lib.hid (And.intro (H5.out.1.trans (hb5'.mono H5.out.1.size)) (And.intro (H5.out.2.1.below hb5') (And.intro (H5.out.2.2.1.below hb5') (H5.out.2.2.2.below hb5'))))
          clear hb5'
          generalize w5' = w5 at *
          obtain ⟨hb5w, hV5, hm5, hM5⟩ := H5.out
          have hko := fun all => keeper_o ks all N (by omega) B cb w5 (hB.below hb5w) (by omega)
          clear hb5w hV5 hm5 hM5
          go_wp2_with fail
          refine (hko _).mono ?_
          rintro e w6 ⟨kv, rfl, hkp, hb6⟩
          clear hko
          obtain ⟨hb5w, hV5, hm5, hM5⟩ := H5.out
          have hb6w := hb5w.trans (hb6.mono hb5w.size)
          have hlN : D1.secs.length = N := by rw [HE1.out.2, setFuse_secs]; exact HM.out.len
          have hcro := crash_o g gl D1 kv _ w6 (hV5.disk.below hb6) (by rw [hlN]; omega) (by rw [hlN]; exact hkp)
          have H6 := Lib.hid (And.intro hb6w (And.intro (hm5.below hb6) (hM5.below hb6)))
          have HLN := Lib.hid hlN
          clear hb5w hV5 hm5 hM5 hb6 hb6w hlN hkp
          go_wp2_with fail
          refine hcro.mono ?_
          rintro e w7 ⟨g', gl', rfl, hg', hgl', hD7, hb7⟩
          clear hcro
          obtain ⟨hb6w, hm6, hM6⟩ := H6.out
          have hb7w := hb6w.trans (hb7.mono hb6w.size)
          have hm7 := hm6.below hb7
          have hM7 := hM6.below hb7
          generalize keepF ks _ = kf at hD7
          have hl6 : (D1.crash kf).secs.length = N := by rw [crash_len]; exact HLN.out
          have hf6 := crash_free D1 kf
          have hcase := HCR.out kf
          generalize D1.crash kf = D6 at *
          have HL6 := Lib.hid hl6
          clear hb6w hm6 hM6 hb7 hl6
          rcases hcase with ⟨hg6, h48⟩ | hg6
          · first
            | exact absurd h48 (by decide)
            | (clear h48
               have hmt := mountG g' gl' D6 b (n) (m) w7 hD7 hg6 (free_dead hf6) (hK.below hb7w hK0)
               have H7 := Lib.hid (And.intro hb7w (And.intro hD7 (And.intro hg6 (And.intro hm7 hM7))))
               clear hb7w hD7 hg6 hm7 hM7
               go_wp2_with fail
               refine hmt.mono ?_
               rintro e w8 ⟨v8, rfl, hv8, hG8, hb8⟩
               clear hmt
               obtain ⟨hb7w, hD7, hg6, hm7, hM7⟩ := H7.out
               have hb8w := hb7w.trans (hb8.mono hb7w.size)
               have H8 := Lib.hid (And.intro hb8w (And.intro (hD7.below hb8) (And.intro hG8 (And.intro (hm7.below hb8) (hM7.below hb8)))))
               clear hb7w hD7 hm7 hM7 hb8 hb8w
               have hco := commitsG v8 g' gl' D6 b (n) (m) w8 hG8
               clear hG8
               go_wp2_with fail
               refine hco.mono ?_
               rintro e _ ⟨rfl, rfl⟩
               clear hco
               have his := isG_same v8 g' gl' D6 b n m A c w8 H8.out.2.2.1 H8.out.2.2.2.1
               go_wp2_with fail
               refine his.mono ?_
               rintro e w9 ⟨rfl, hb9⟩
               clear his
               obtain ⟨hb8w, hD8, hG8, hm8, hM8⟩ := H8.out
               have hb9w := hb8w.trans (hb9.mono hb8w.size)
               have his := isG v8 g' gl' D6 b n m (applyM m L) A5 c5 w9 (hG8.below hb9) (hM8.below hb9) ((applyM_len m L).trans HML.out)
               have H9 := Lib.hid (And.intro hb9w (And.intro (hD8.below hb9) (And.intro (hG8.below hb9) (And.intro (hm8.below hb9) (hM8.below hb9)))))
               clear hb8w hD8 hG8 hm8 hM8 hb9 hb9w
               have hne : decide ((n : Int) = n + 1) = false := by simp; omega
               have hne2 : ((n : Int) == n + 1) = false := by rw [beq_eq_false_iff_ne]; omega
               generalize (m == applyM m L) = x at his
               cases x
               all_goals
                 go_wp2_with fail
                 refine his.mono ?_
                 rintro e w10 ⟨rfl, hb10⟩
                 clear his
                 obtain ⟨hb9w, hD9, hG9, hm9, hM9⟩ := H9.out
                 have hb10w := hb9w.trans (hb10.mono hb9w.size)
                 have hko := fun all => keeper_o ks all N (by omega) B cb w10 (hB.below hb10w) (by omega)
                 have H10 := Lib.hid (And.intro hb10w (And.intro (hD9.below hb10) (And.intro (hG9.below hb10) (And.intro (hm9.below hb10) (hM9.below hb10)))))
                 clear hb9w hD9 hG9 hm9 hM9 hb10 hb10w hne hne2
                 go_wp2_with fail
                 refine (hko _).mono ?_
                 rintro e w11 ⟨kv2, rfl, hkp2, hb11⟩
                 clear hko
                 obtain ⟨hb10w, hD10, hG10, hm10, hM10⟩ := H10.out
                 have hb11w := hb10w.trans (hb11.mono hb10w.size)
                 have hcro := crash_o g' gl' D6 kv2 _ w11 (hD10.below hb11) (by rw [HL6.out]; omega) (by rw [HL6.out]; exact hkp2)
                 have H11 := Lib.hid (And.intro hb11w (And.intro (hD10.below hb11) (And.intro (hG10.below hb11) (And.intro (hm10.below hb11) (hM10.below hb11)))))
                 clear hb10w hD10 hG10 hm10 hM10 hb11 hb11w hkp2
                 go_wp2_with fail
                 refine hcro.mono ?_
                 rintro e w12 ⟨g2, gl2, rfl, hg2, hgl2, hD12', hb12⟩
                 clear hcro
                 obtain ⟨hb11w, hD11, hG11, hm11, hM11⟩ := H11.out
                 generalize keepF ks _ = kf2 at hD12'
                 have hgd := hG11.good.crash kf2
                 have hfd := crash_free D6 kf2
                 generalize D6.crash kf2 = D7 at hD12' hgd hfd
                 have hb12w := hb11w.trans (hb12.mono hb11w.size)
                 have hmt := mountG g2 gl2 D7 b (n) (m) w12 hD12' hgd (free_dead hfd) (hK.below hb12w hK0)
                 have H12 := Lib.hid (And.intro hb12w (And.intro (hD11.below hb12) (And.intro (hG11.below hb12) (And.intro (hm11.below hb12) (hM11.below hb12)))))
                 clear hb11w hD11 hG11 hm11 hM11 hb12 hb12w hD12' hgd hfd
                 go_wp2_with fail
                 refine hmt.mono ?_
                 rintro e w13 ⟨v13, rfl, hv13, hY13, hb13⟩
                 clear hmt
                 obtain ⟨hb12w, hD12, hG12, hm12, hM12⟩ := H12.out
                 have hb13w := hb12w.trans (hb13.mono hb12w.size)
                 have hmt := mountG g' gl' D6 b (n) (m) w13 (hD12.below hb13) hG12.good (free_dead hf6) (hK.below hb13w hK0)
                 have H13 := Lib.hid (And.intro hb13w (And.intro hY13 (And.intro (hm12.below hb13) (hM12.below hb13))))
                 clear hb12w hD12 hG12 hm12 hM12 hb13 hb13w hY13
                 go_wp2_with fail
                 refine hmt.mono ?_
                 rintro e w14 ⟨v14, rfl, hv14, hZ14, hb14⟩
                 clear hmt
                 obtain ⟨hb13w, hY13, hm13, hM13⟩ := H13.out
                 have hb14w := hb13w.trans (hb14.mono hb13w.size)
                 have hco1 := commitsG v13 g2 gl2 D7 b (n) (m) w14 (hY13.below hb14)
                 have hco2 := commitsG v14 g' gl' D6 b (n) (m) w14 hZ14
                 have H14 := Lib.hid (And.intro hb14w (And.intro (hY13.below hb14) (And.intro hZ14 (And.intro (hm13.below hb14) (hM13.below hb14)))))
                 clear hb13w hY13 hm13 hM13 hb14 hb14w hZ14
                 go_wp2_with fail
                 refine hco1.mono ?_
                 rintro e _ ⟨rfl, rfl⟩
                 clear hco1
                 go_wp2_with fail
                 refine hco2.mono ?_
                 rintro e _ ⟨rfl, rfl⟩
                 clear hco2
                 obtain ⟨hb14w, hY14, hZ14, hm14, hM14⟩ := H14.out
                 have his := isG_same v13 g2 gl2 D7 b (n) (m) A c w14 hY14 hm14
                 clear hb14w hY14 hZ14 hm14 hM14
                 go_wp2_with fail
                 refine his.mono ?_
                 rintro e w15 ⟨rfl, hb15⟩
                 clear his
                 obtain ⟨hb14w, hY14, hZ14, hm14, hM14⟩ := H14.out
                 have his := isG_same v14 g' gl' D6 b (n) (m) A c w15 (hZ14.below hb15) (hm14.below hb15)
                 have hb15w := hb14w.trans (hb15.mono hb14w.size)
                 have H15 := Lib.hid hb15w
                 clear hb14w hY14 hZ14 hm14 hM14 hb15 hb15w
                 go_wp2_with fail
                 refine his.mono ?_
                 rintro e w16 ⟨rfl, hb16⟩
                 clear his
                 go_wp2_with fail
                 go_ret
                 exact ⟨rfl, H15.out.trans (hb16.mono H15.out.size)⟩)
          · have hmt := mountG g' gl' D6 b (n + 1) (applyM m L) w7 hD7 hg6 (free_dead hf6) (hK.below hb7w hK0)
            have H7 := Lib.hid (And.intro hb7w (And.intro hD7 (And.intro hg6 (And.intro hm7 hM7))))
            clear hb7w hD7 hg6 hm7 hM7
            go_wp2_with fail
            refine hmt.mono ?_
            rintro e w8 ⟨v8, rfl, hv8, hG8, hb8⟩
            clear hmt
            obtain ⟨hb7w, hD7, hg6, hm7, hM7⟩ := H7.out
            have hb8w := hb7w.trans (hb8.mono hb7w.size)
            have H8 := Lib.hid (And.intro hb8w (And.intro (hD7.below hb8) (And.intro hG8 (And.intro (hm7.below hb8) (hM7.below hb8)))))
            clear hb7w hD7 hm7 hM7 hb8 hb8w
            have hco := commitsG v8 g' gl' D6 b (n + 1) (applyM m L) w8 hG8
            clear hG8
            go_wp2_with fail
            refine hco.mono ?_
            rintro e _ ⟨rfl, rfl⟩
            clear hco
            have his := isG v8 g' gl' D6 b (n + 1) (applyM m L) m A c w8 H8.out.2.2.1 H8.out.2.2.2.1 HML.out
            go_wp2_with fail
            refine his.mono ?_
            rintro e w9 ⟨rfl, hb9⟩
            clear his
            generalize (applyM m L == m) = x
            obtain ⟨hb8w, hD8, hG8, hm8, hM8⟩ := H8.out
            have hb9w := hb8w.trans (hb9.mono hb8w.size)
            have his := isG_same v8 g' gl' D6 b (n + 1) (applyM m L) A5 c5 w9 (hG8.below hb9) (hM8.below hb9)
            have H9 := Lib.hid (And.intro hb9w (And.intro (hD8.below hb9) (And.intro (hG8.below hb9) (And.intro (hm8.below hb9) (hM8.below hb9)))))
            clear hb8w hD8 hG8 hm8 hM8 hb9 hb9w
            have hne : decide ((n : Int) + 1 = n) = false := by simp; omega
            have hne2 : (((n : Int) + 1) == n) = false := by rw [beq_eq_false_iff_ne]; omega
            cases x
            all_goals
              go_wp2_with fail
              refine his.mono ?_
              rintro e w10 ⟨rfl, hb10⟩
              clear his
              obtain ⟨hb9w, hD9, hG9, hm9, hM9⟩ := H9.out
              have hb10w := hb9w.trans (hb10.mono hb9w.size)
              have hko := fun all => keeper_o ks all N (by omega) B cb w10 (hB.below hb10w) (by omega)
              have H10 := Lib.hid (And.intro hb10w (And.intro (hD9.below hb10) (And.intro (hG9.below hb10) (And.intro (hm9.below hb10) (hM9.below hb10)))))
              clear hb9w hD9 hG9 hm9 hM9 hb10 hb10w hne hne2
              go_wp2_with fail
              refine (hko _).mono ?_
              rintro e w11 ⟨kv2, rfl, hkp2, hb11⟩
              clear hko
              obtain ⟨hb10w, hD10, hG10, hm10, hM10⟩ := H10.out
              have hb11w := hb10w.trans (hb11.mono hb10w.size)
              have hcro := crash_o g' gl' D6 kv2 _ w11 (hD10.below hb11) (by rw [HL6.out]; omega) (by rw [HL6.out]; exact hkp2)
              have H11 := Lib.hid (And.intro hb11w (And.intro (hD10.below hb11) (And.intro (hG10.below hb11) (And.intro (hm10.below hb11) (hM10.below hb11)))))
              clear hb10w hD10 hG10 hm10 hM10 hb11 hb11w hkp2
              go_wp2_with fail
              refine hcro.mono ?_
              rintro e w12 ⟨g2, gl2, rfl, hg2, hgl2, hD12', hb12⟩
              clear hcro
              obtain ⟨hb11w, hD11, hG11, hm11, hM11⟩ := H11.out
              generalize keepF ks _ = kf2 at hD12'
              have hgd := hG11.good.crash kf2
              have hfd := crash_free D6 kf2
              generalize D6.crash kf2 = D7 at hD12' hgd hfd
              have hb12w := hb11w.trans (hb12.mono hb11w.size)
              have hmt := mountG g2 gl2 D7 b (n + 1) (applyM m L) w12 hD12' hgd (free_dead hfd) (hK.below hb12w hK0)
              have H12 := Lib.hid (And.intro hb12w (And.intro (hD11.below hb12) (And.intro (hG11.below hb12) (And.intro (hm11.below hb12) (hM11.below hb12)))))
              clear hb11w hD11 hG11 hm11 hM11 hb12 hb12w hD12' hgd hfd
              go_wp2_with fail
              refine hmt.mono ?_
              rintro e w13 ⟨v13, rfl, hv13, hY13, hb13⟩
              clear hmt
              obtain ⟨hb12w, hD12, hG12, hm12, hM12⟩ := H12.out
              have hb13w := hb12w.trans (hb13.mono hb12w.size)
              have hmt := mountG g' gl' D6 b (n + 1) (applyM m L) w13 (hD12.below hb13) hG12.good (free_dead hf6) (hK.below hb13w hK0)
              have H13 := Lib.hid (And.intro hb13w (And.intro hY13 (And.intro (hm12.below hb13) (hM12.below hb13))))
              clear hb12w hD12 hG12 hm12 hM12 hb13 hb13w hY13
              go_wp2_with fail
              refine hmt.mono ?_
              rintro e w14 ⟨v14, rfl, hv14, hZ14, hb14⟩
              clear hmt
              obtain ⟨hb13w, hY13, hm13, hM13⟩ := H13.out
              have hb14w := hb13w.trans (hb14.mono hb13w.size)
              have hco1 := commitsG v13 g2 gl2 D7 b (n + 1) (applyM m L) w14 (hY13.below hb14)
              have hco2 := commitsG v14 g' gl' D6 b (n + 1) (applyM m L) w14 hZ14
              have H14 := Lib.hid (And.intro hb14w (And.intro (hY13.below hb14) (And.intro hZ14 (And.intro (hm13.below hb14) (hM13.below hb14)))))
              clear hb13w hY13 hm13 hM13 hb14 hb14w hZ14
              go_wp2_with fail
              refine hco1.mono ?_
              rintro e _ ⟨rfl, rfl⟩
              clear hco1
              go_wp2_with fail
              refine hco2.mono ?_
              rintro e _ ⟨rfl, rfl⟩
              clear hco2
              obtain ⟨hb14w, hY14, hZ14, hm14, hM14⟩ := H14.out
              have his := isG_same v13 g2 gl2 D7 b (n + 1) (applyM m L) A5 c5 w14 hY14 hM14
              clear hb14w hY14 hZ14 hm14 hM14
              go_wp2_with fail
              refine his.mono ?_
              rintro e w15 ⟨rfl, hb15⟩
              clear his
              obtain ⟨hb14w, hY14, hZ14, hm14, hM14⟩ := H14.out
              have his := isG_same v14 g' gl' D6 b (n + 1) (applyM m L) A5 c5 w15 (hZ14.below hb15) (hM14.below hb15)
              have hb15w := hb14w.trans (hb15.mono hb14w.size)
              have H15 := Lib.hid hb15w
              clear hb14w hY14 hZ14 hm14 hM14 hb15 hb15w
              go_wp2_with fail
              refine his.mono ?_
              rintro e w16 ⟨rfl, hb16⟩
              clear his
              go_wp2_with fail
              go_ret
              exact ⟨rfl, H15.out.trans (hb16.mono H15.out.size)⟩
end Go.Proofs.YtbjbjnbloddioaaDoor
