/- FsTwice(sectors, commits, last, one, two, keep) returns true for every input: the tied card. No condition but the card's own: the table bailey/hashes.k holds what the program's text lays in it. -/
import Derived.Test.YtbjbjnbloddioaaDoorRows
import Derived.Test.YtbjbjnbloddioaaDoorTie
import Derived.Test.YtbjbjnbloddioaaDoorCards
import Derived.Test.YtbjbjnbloddioaaDoorPost
import Derived.Test.YtbjbjnbloddioaaDoorOpen
import Derived.Test.YtbjbjnbloddioaaDoorMk
import Derived.SevenTiedAt
set_option linter.unusedVariables false
set_option linter.unusedSimpArgs false
namespace Go.Proofs.YtbjbjnbloddioaaDoor
open Go.ChangeShapes Go.WideShapes Go.ChangeAt Go.RowKit

set_option maxRecDepth 100000 in
set_option maxHeartbeats 1600000 in
theorem fsTwice_lifted (os : Os) (started : os.Started) (H : Type) (enc : TypeId × Value → H) :
    ReturnsInHanded {} Tryd.checked os 6 .any (fun w args => (Rows.fsTwiceSpec.pre enc Tryd.prog Tryd.f6 [] false w args ∧ laidMetH Tryd.prog Post.laidK w) ∧ sizedMet enc Tryd.prog Tryd.f6 (OpenSpec.ofChange Rows.fsTwiceSpec) false w args)
      (Rows.fsTwiceSpec.post enc Tryd.prog Tryd.f6 false true false false) := by
  refine returnsInHanded_of_change_and (C := Tryd.checked) (X := fun w _ => laidMetH Tryd.prog Post.laidK w) (fun _ _ _ hh h => h.of_heap hh) Post.ownKnob_ started (by kernel_rfl) Tryd.func6
    (ChangeSpec.witness_shaped (enc := enc) (C := Tryd.checked) (os := os) (X := fun w _ => laidMetH Tryd.prog Post.laidK w) false (World.doorLaid Tryd.prog 14 os) #[.int .i64 0, .slice none 0 0, .slice none 0 0, .int .i64 0, .int .i64 0, .slice none 0 0] 8 rfl (World.shaped_of_RefB (by kernel_rfl) (by kernel_rfl)) (by kernel_rfl) (by kernel_rfl) (by kernel_rfl) (Post.door_met os _)) ?_
  intro W base args ds gs before hval0 hW _ hsz0 hL _
  have hW' := hW
  have hval : ∀ (j : Nat) t v, Tryd.f6.params[j]? = some t → args[j]? = some v → Value.okWide Tryd.prog W .any base t v := hval0
  have hlt : ∀ x ∈ before, x.block < W.heap.size := fun x hx => hW.lt x hx
  have hsz : (DataW.weightsEach Tryd.prog (Tryd.f6.params.toList ++ Rows.fsTwiceSpec.plain.varTypes Tryd.prog) (ds ++ gs)).all (· ≤ reachBytes) = true := hsz0
  obtain ⟨p, q, hA0, hV, rfl, hfz, hnd⟩ := hW
  have hA : DataW.TrodAll enc Tryd.prog W 0 (fun _ => true) true Tryd.f6.params.toList args.toList ds p := hA0
  rw [Tryd.params6] at hA hval hsz
  obtain ⟨v0, vs0, d0, ds0, p0, q0, ha, rfl, rfl, hT0, hR0⟩ := trodAll_cons hA
  obtain ⟨v1, vs1, d1, ds1, p1, q1, rfl, rfl, rfl, hT1, hR1⟩ := trodAll_cons hR0
  obtain ⟨v2, vs2, d2, ds2, p2, q2, rfl, rfl, rfl, hT2, hR2⟩ := trodAll_cons hR1
  obtain ⟨v3, vs3, d3, ds3, p3, q3, rfl, rfl, rfl, hT3, hR3⟩ := trodAll_cons hR2
  obtain ⟨v4, vs4, d4, ds4, p4, q4, rfl, rfl, rfl, hT4, hR4⟩ := trodAll_cons hR3
  obtain ⟨v5, vs5, d5, ds5, p5, q5, rfl, rfl, rfl, hT5, hR5⟩ := trodAll_cons hR4
  obtain ⟨rfl, rfl, rfl⟩ := trodAll_nil hR5
  obtain rfl : args = #[v0, v1, v2, v3, v4, v5] := by cases args; simp_all
  obtain ⟨rfl, rfl⟩ := trodVars_none hV
  clear hA0 hval0 hsz0 ha
  simp only [List.append_nil] at hW' hlt hsz
  obtain ⟨n0, e0, _, _, hw0⟩ := open_int Tryd.underlying3 (hval 0 3 _ rfl rfl) hT0
  subst e0
  obtain ⟨hi0, hj0⟩ := int_bd hw0
  obtain ⟨fu1, hf1⟩ := id hT1
  obtain ⟨a1, l1, k1, e1⟩ := okWide_slice Tryd.underlying46 (hval 1 46 _ rfl rfl)
  subst e1
  obtain ⟨A1, L1, c1, e1, hc1, hb1, hU1⟩ := commits_open (y := (d1, p1)) (by simpa [Value.cells] using hf1) (Wt.of hsz (j := 1) rfl rfl)
  injection e1 with e1a e1b e1c
  subst e1a e1b e1c
  obtain ⟨fu2, hf2⟩ := id hT2
  obtain ⟨a2, l2, k2, e2⟩ := okWide_slice Tryd.underlying47 (hval 2 47 _ rfl rfl)
  subst e2
  obtain ⟨A2, L2, c2, e2, hc2, hb2, hU2⟩ := puts_open (y := (d2, p2)) (by simpa [Value.cells] using hf2) (Wt.of hsz (j := 2) rfl rfl)
  injection e2 with e2a e2b e2c
  subst e2a e2b e2c
  obtain ⟨n3, e3, _, _, hw3⟩ := open_int Tryd.underlying3 (hval 3 3 _ rfl rfl) hT3
  subst e3
  obtain ⟨hi3, hj3⟩ := int_bd hw3
  obtain ⟨n4, e4, _, _, hw4⟩ := open_int Tryd.underlying3 (hval 4 3 _ rfl rfl) hT4
  subst e4
  obtain ⟨hi4, hj4⟩ := int_bd hw4
  obtain ⟨fu5, hf5⟩ := id hT5
  obtain ⟨a5, l5, k5, e5⟩ := okWide_slice Tryd.underlying48 (hval 5 48 _ rfl rfl)
  subst e5
  obtain ⟨A5, L5, c5, e5, hc5, hb5, hU5⟩ := bools_open (y := (d5, p5)) (by simpa [Value.cells] using hf5) (Wt.of hsz (j := 5) rfl rfl)
  injection e5 with e5a e5b e5c
  subst e5a e5b e5c
  refine (fsTwice_o n0 n3 n4 hi0 hj0 hj3 hj4 L1 a1 k1 L2 a2 k2 L5 a5 k5 W hU1 hb1 hU2 hb2 hU5 hb5 (Post.of_laid hL)).mono fun e W' ⟨he, hb⟩ => ?_
  subst he
  refine ⟨_, rfl, Post.post_of_below_ (pa := p0 ++ (p1 ++ (p2 ++ (p3 ++ (p4 ++ (p5)))))) (pv := []) hW' (fun _ _ _ => (trodAll_cons_mk (shut_bool Tryd.underlying4 _) trodAll_mk0)) (fun sp hs => ?_) (fun _ _ => rfl) (by simp) hb (ok_one (by kernel_rfl) rfl (okWide_bool_mk Tryd.underlying4 _))⟩
  have := (trodAll_cons_mk (arg_again Post.laidOut_ (by kernel_rfl) (of_decide_eq_true (by kernel_rfl)) hT0 (fun x hx => hlt x (by simp [hx])) hb sp (fun x hx => hs x (by simp [hx]))) (trodAll_cons_mk (arg_again Post.laidOut_ (by kernel_rfl) (of_decide_eq_true (by kernel_rfl)) hT1 (fun x hx => hlt x (by simp [hx])) hb sp (fun x hx => hs x (by simp [hx]))) (trodAll_cons_mk (arg_again Post.laidOut_ (by kernel_rfl) (of_decide_eq_true (by kernel_rfl)) hT2 (fun x hx => hlt x (by simp [hx])) hb sp (fun x hx => hs x (by simp [hx]))) (trodAll_cons_mk (arg_again Post.laidOut_ (by kernel_rfl) (of_decide_eq_true (by kernel_rfl)) hT3 (fun x hx => hlt x (by simp [hx])) hb sp (fun x hx => hs x (by simp [hx]))) (trodAll_cons_mk (arg_again Post.laidOut_ (by kernel_rfl) (of_decide_eq_true (by kernel_rfl)) hT4 (fun x hx => hlt x (by simp [hx])) hb sp (fun x hx => hs x (by simp [hx]))) (trodAll_cons_mk (arg_again Post.laidOut_ (by kernel_rfl) (of_decide_eq_true (by kernel_rfl)) hT5 (fun x hx => hlt x (by simp [hx])) hb sp (fun x hx => hs x (by simp [hx]))) (trodAll_mk0 (enc := enc) (P := Tryd.prog) (w := W') (base := 0) (spare := sp) (held := true))))))))
  simp only [List.append_nil] at this
  exact this

theorem fsTwice_holds : Rows.FsTwiceSaid :=
  OpenClaim.holds_of_wide 6 Tryd.f6 rfl rfl rfl rfl rfl rfl rfl ⟨rfl, rfl, rfl, rfl, rfl⟩ rfl rfl rfl rfl rfl (by kernel_rfl) Tryd.func6 (by kernel_rfl)
    (of_decide_eq_true (by kernel_rfl)) (by unfold Func.isWrapper; first | (rw [if_pos (by decide +kernel)]; kernel_rfl) | (rw [if_neg (by decide +kernel)]; exact ⟨rfl, rfl⟩))
    (fun os started H enc _ => fsTwice_lifted os started H enc)

theorem fsTwice_proved : Rows.FsTwiceCardSaid :=
  Claim7.holds_tied_plain_at .later [] [.data] true (true, "ee2971141607ed4101ed2bc5231c48a2251e073ae2a1a1a4f15003c18b712756") false
    fsTwice_holds (fun _ h => by cases h) (by kernel_rfl) (fun _ h => by cases h) fsTwice_row_tie rfl ⟨rfl, rfl⟩ (by kernel_rfl) rfl
    (fun f fn hf hfn => by
      obtain rfl : f = 6 := Option.some.inj ((show Tryd.prog.funcNamed "bailey/baileylaw14.FsTwice" = some 6 by kernel_rfl).symm.trans hf) |>.symm
      obtain rfl : fn = Tryd.f6 := (Option.some.inj (Tryd.func6.symm.trans hfn)).symm
      exact ⟨by kernel_rfl, fun j t ht => by
        rw [Tryd.params6] at ht
        have hm : t ∈ [3, 46, 47, 3, 3, 48] := by simpa using Array.mem_of_getElem? ht
        have hall : ([3, 46, 47, 3, 3, 48].all fun u => !Tryd.prog.wantsStandIn u) = true := by kernel_rfl
        exact (show Tryd.prog.wantsStandIn t = false by simpa using List.all_eq_true.1 hall t hm)⟩)
    (by kernel_rfl)
#print axioms fsTwice_proved
end Go.Proofs.YtbjbjnbloddioaaDoor
