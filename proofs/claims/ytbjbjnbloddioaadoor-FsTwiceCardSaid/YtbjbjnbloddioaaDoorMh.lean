/- FsFormat walked. -/
import Derived.Test.YtbjbjnbloddioaaDoorMg
set_option linter.unusedVariables false
set_option linter.unusedSimpArgs false
namespace Go.Proofs.YtbjbjnbloddioaaDoor
open Go.RowKit Go.Shelf

def TrueB (w : World) (e : Ending) (w' : World) : Prop := e = .returned (.bool true) ∧ Below w.heap.size w w'
set_option maxRecDepth 100000 in
set_option maxHeartbeats 6400000 in
theorem fsFormat_o (s f : Int) (hs1 : -9223372036854775808 ≤ s) (hs2 : s ≤ 9223372036854775807) (hf1 : -9223372036854775808 ≤ f) (hf2 : f ≤ 9223372036854775807) (ks : List Bool) (B : Option Addr) (cb : Nat) (w : World) (hB : Rd w B (ks.map Value.bool)) (hkl : ks.length ≤ 140737488351232) (hK : Kg w) :
    Calls Tryd.prog 7 #[.int .i64 s, .int .i64 f, .slice B ks.length cb] w (TrueB w) := by
  have hK0 := hK.pos
  by_cases hout : s < 0 ∨ 60 < s ∨ f < 0
  · have htests : s < 0 ∨ (0 ≤ s ∧ 60 < s) ∨ (0 ≤ s ∧ s ≤ 60 ∧ f < 0) := by omega
    clear hout
    rcases htests with h1 | ⟨h0, h1⟩ | ⟨h0, h1, h2⟩
    all_goals
      go_enter Tryd.func7, Tryd.ntmps7
      go_wp2_with fail
      refine (begun_o w hK).mono ?_
      rintro e w0 ⟨rfl, hb0⟩
      go_wp2_with fail
      go_ret
      exact ⟨rfl, hb0⟩
  · obtain ⟨N, rfl⟩ := Int.eq_ofNat_of_zero_le (show 0 ≤ s by omega)
    obtain ⟨fu, rfl⟩ := Int.eq_ofNat_of_zero_le (show 0 ≤ f by omega)
    have hN60 : (N : Int) ≤ 60 := by omega
    have hN60' : N ≤ 60 := by omega
    have hfu : (fu : Int) ≤ 9223372036854775807 := hf2
    clear hout hs1 hs2 hf1 hf2
    by_cases h16 : N < 16
    · by_cases hN0 : N = 0
      · subst hN0
        go_enter Tryd.func7, Tryd.ntmps7
        go_wp2_with fail
        refine (begun_o w hK).mono ?_
        rintro e w0 ⟨rfl, hb0⟩
        go_wp2_with fail
        refine (newd_out 0 (by omega) w0).mono ?_
        rintro e _ ⟨rfl, rfl⟩
        go_wp2_with fail
        refine (mount_nil w0).mono ?_
        rintro e _ ⟨rfl, rfl⟩
        go_wp2_with fail
        refine (format_nil w0).mono ?_
        rintro e _ ⟨rfl, rfl⟩
        go_wp2_with fail
        go_ret
        exact ⟨rfl, hb0⟩
      · have hN1 : (1 : Int) ≤ N := by omega
        have h16' : (N : Int) < 16 := by omega
        have hlen : (DiskD.new N).secs.length < 16 := by rw [new_len]; exact h16
        go_enter Tryd.func7, Tryd.ntmps7
        go_wp2_with fail
        refine (begun_o w hK).mono ?_
        rintro e w0 ⟨rfl, hb0⟩
        have hww := hb0.size
        go_wp2_with fail
        refine (newd_o N (by omega) (by omega) w0).mono ?_
        rintro e w1 ⟨g, gl, rfl, hg, hgl, hD1, hb1⟩
        have hbw1 := hb0.trans (hb1.mono hb0.size)
        have hmt := mount_o g gl _ w1 hD1 (hK.below hbw1 hK0) (new_small N).1 (new_small N).2
        go_wp2_with fail
        refine hmt.mono ?_
        rintro e w2 ⟨hR, hb2⟩
        clear hmt
        obtain rfl := mountR_small hlen hR
        clear hR
        have hbw2 := hbw1.trans (hb2.mono hbw1.size)
        have hfm := format_o g gl _ w2 (hD1.below hb2) (hK.below hbw2 hK0) (by have := hb0.size; rintro (e | e) <;> omega)
        rw [format_small hlen] at hfm
        dsimp only at hfm
        clear hb0 hb1 hb2 hD1
        go_wp2_with fail
        refine hfm.mono ?_
        rintro e w3 ⟨rfl, _, hf3⟩
        go_wp2_with fail
        go_ret
        exact ⟨rfl, hbw2.trans (hf3.to (fun k hk => by rcases hk with rfl | rfl <;> omega) hbw2.size)⟩
    · have h16' : (16 : Int) ≤ N := by omega
      have hlen : (DiskD.new N).secs.length = N := new_len N
      have hz := new_zero N
      have hbound : (N - 8) / 2 ≤ 26 ∧ 4 ≤ (N - 8) / 2 := by omega
      go_enter Tryd.func7, Tryd.ntmps7
      go_wp2_with fail
      refine (begun_o w hK).mono ?_
      rintro e w0 ⟨rfl, hb0⟩
      have hww := hb0.size
      go_wp2_with fail
      refine (newd_o N (by omega) (by omega) w0).mono ?_
      rintro e w1 ⟨g, gl, rfl, hg, hgl, hD1, hb1⟩
      have hbw1 := hb0.trans (hb1.mono hb0.size)
      have hmt := mount_o g gl _ w1 hD1 (hK.below hbw1 hK0) (new_small N).1 (new_small N).2
      go_wp2_with fail
      refine hmt.mono ?_
      rintro e w2 ⟨hR, hb2⟩
      clear hmt
      obtain rfl := mountR_zero hz (by rw [hlen]; omega) (free_dead rfl) hR
      clear hR
      have hbw2 := hbw1.trans (hb2.mono hbw1.size)
      have hD2 := hD1.below hb2
      have hlow : ∀ k, two g gl k → w.heap.size ≤ k := by rintro k (rfl | rfl) <;> omega
      have hfz := fuse_k g gl _ (fu % 50) w2 hD2 (by omega)
      have hfmod : ((fu % 50 : Nat) : Int) = (fu : Int) % 50 := by omega
      rw [hfmod] at hfz
      clear hb0 hb1 hb2 hD1 hD2 hfmod
      have hz3 := setFuse_zero hz (fu % 50)
      have hc3 := setFuse_clean (new_clean N) (fu % 50)
      have hl3 : ((DiskD.new N).setFuse (fu % 50)).secs.length = N := by rw [setFuse_secs]; exact hlen
      generalize (DiskD.new N).setFuse (fu % 50) = D3 at hz3 hc3 hl3 hfz
      have HB2 := Lib.hid hbw2
      have HL3 := Lib.hid hl3
      clear hbw1 hbw2 hlen hl3
      go_wp2_with fail
      refine hfz.mono ?_
      rintro e w3 ⟨rfl, hD3, hf3⟩
      clear hfz
      have hbw3 := HB2.out.trans (hf3.to hlow HB2.out.size)
      have hfm := format_o g gl D3 w3 hD3 (hK.below hbw3 hK0) (fun h => by have := hlow 0 h; omega)
      have hG := fmt_fuse hz3 hc3 (by rw [HL3.out]; omega)
      rw [HL3.out] at hG
      generalize D3.format = r at hfm hG
      obtain ⟨rv, D4⟩ := r
      obtain ⟨hrv, hl4, hcr⟩ := hG
      dsimp only at hfm hrv hl4 hcr
      have HB3 := Lib.hid hbw3
      have HL4 := Lib.hid hl4
      clear hf3 hbw3 hD3 hz3 hc3 hl4
      generalize hb : (N - 8) / 2 = b at hcr hbound
      have HBB := Lib.hid hb
      have hdiv : ((N : Int) - 8) / 2 = (b : Int) := by omega
      have HDV := Lib.hid hdiv
      clear hb hdiv
      have hgo : rv = 0 ∨ rv = 48 := hrv
      clear hrv
      rcases hgo with rfl | rfl
      all_goals
        go_wp2_with fail
        refine hfm.mono ?_
        rintro e w4 ⟨rfl, hD4, hf4⟩
        clear hfm
        have hbw4 := HB3.out.trans (hf4.to hlow HB3.out.size)
        have hko := fun all => keeper_o ks all N (by omega) B cb w4 (hB.below hbw4) (by omega)
        have HB4 := Lib.hid (And.intro hbw4 hD4)
        clear hbw4 hD4 hf4
        go_wp2_with fail
        refine (hko _).mono ?_
        rintro e w5 ⟨kv, rfl, hkp, hb5⟩
        clear hko
        obtain ⟨hbw4, hD4⟩ := HB4.out
        have hbw5 := hbw4.trans (hb5.mono hbw4.size)
        have hcro := crash_o g gl D4 kv _ w5 (hD4.below hb5) (by rw [HL4.out]; omega) (by rw [HL4.out]; exact hkp)
        have HB5 := Lib.hid hbw5
        clear hbw4 hD4 hb5 hbw5 hkp
        go_wp2_with fail
        refine hcro.mono ?_
        rintro e w6 ⟨g', gl', rfl, hg', hgl', hD6, hb6⟩
        clear hcro
        have hbw6 := HB5.out.trans (hb6.mono HB5.out.size)
        have hK6 := hK.below hbw6 hK0
        generalize keepF ks _ = kf at hD6
        have hl6 : (D4.crash kf).secs.length = N := by rw [crash_len]; exact HL4.out
        have hf6 := crash_free D4 kf
        have hcase := hcr kf
        generalize D4.crash kf = D6 at *
        have HL6 := Lib.hid hl6
        clear hl6 hcr
        rcases hcase with ⟨hzc, e48⟩ | hgc
        · first
          | exact absurd e48 (by decide)
          | (have hmt := mount_o g' gl' D6 w6 hD6 hK6 (hzc.mount (by rw [HL6.out]; omega)).2.1 (hzc.mount (by rw [HL6.out]; omega)).2.2
             clear hb6
             have H6 := Lib.hid hbw6
             clear hbw6
             go_wp2_with fail
             refine hmt.mono ?_
             rintro e w7 ⟨hR, hb7⟩
             clear hmt
             obtain rfl := mountR_zero hzc (by rw [HL6.out]; omega) (free_dead hf6) hR
             clear hR
             go_wp2_with fail
             go_ret
             exact ⟨rfl, H6.out.trans (hb7.mono H6.out.size)⟩)
        · have hmt := mount_o g' gl' D6 w6 hD6 hK6 hgc.a.heads.1 hgc.a.heads.2
          have H6 := Lib.hid (And.intro hbw6 (And.intro hD6 (And.intro hgc hf6)))
          clear hbw6 hD6 hgc hf6 hK6 hb6
          go_wp2_with fail
          refine hmt.mono ?_
          rintro e w7 ⟨hR, hb7⟩
          clear hmt
          obtain ⟨hbw6, hD6, hgc, hf6⟩ := H6.out
          obtain ⟨v', rfl, hv', hvol'⟩ := mountR_good hgc (free_dead hf6) hR
          clear hR
          have hbw7 := hbw6.trans (hb7.mono hbw6.size)
          have hV7 := good_vat hgc (hD6.below hb7) hvol'
          have H7 := Lib.hid (And.intro hbw7 hV7)
          clear hbw6 hD6 hgc hf6 hvol' hb7 hbw7 hV7
          have hfr := fresh_o b (by omega) w7
          rw [← HDV.out] at hfr
          go_wp2_with fail
          refine hfr.mono ?_
          rintro e w8 ⟨A8, c8, rfl, hc8, hm8, hb8⟩
          clear hfr
          obtain ⟨hbw7, hV7⟩ := H7.out
          have hV8 := hV7.below hb8
          have hml : (List.replicate b (zs 256)).length = b := by simp
          have his := is_o v' g' gl' ⟨D6, b, 0, false⟩ (List.replicate b (zs 256)) A8 c8 w8 hV8 hm8 hml
          rw [good_reads H6.out.2.2.1.a, hml] at his
          simp only [beq_self_eq_true] at his
          have hbw8 := hbw7.trans (hb8.mono hbw7.size)
          have H8 := Lib.hid (And.intro hbw8 hV8)
          clear hbw7 hV7 hV8 hb8 hbw8 hm8
          go_wp2_with fail
          rw [HDV.out]
          refine his.mono ?_
          rintro e w9 ⟨rfl, hb9⟩
          clear his
          have hco := commits_o v' g' b ((0 : Nat) : Int) false w9 (H8.out.2.below hb9).vol
          go_wp2_with fail
          refine hco.mono ?_
          rintro e _ ⟨rfl, rfl⟩
          go_wp2_with fail
          go_ret
          exact ⟨rfl, H8.out.1.trans (hb9.mono H8.out.1.size)⟩
end Go.Proofs.YtbjbjnbloddioaaDoor
