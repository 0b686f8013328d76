/- FsFormat(sectors, fuse, keep) returns true for every input: the tied card. No condition but the card's own: the table bailey/hashes.k holds what the program's text lays in it. -/
import Derived.Test.YtbjbjnbloddioaaDoorRows
import Derived.Test.YtbjbjnbloddioaaDoorTie
import Derived.Test.YtbjbjnbloddioaaDoorCards
import Derived.Test.YtbjbjnbloddioaaDoorPost
import Derived.Test.YtbjbjnbloddioaaDoorOpen
import Derived.Test.YtbjbjnbloddioaaDoorMh
import Derived.SevenTiedAt
set_option linter.unusedVariables false
set_option linter.unusedSimpArgs false
namespace Go.Proofs.YtbjbjnbloddioaaDoor
open Go.ChangeShapes Go.WideShapes Go.ChangeAt Go.RowKit

set_option maxRecDepth 100000 in
set_option maxHeartbeats 1600000 in
theorem fsFormat_lifted (os : Os) (started : os.Started) (H : Type) (enc : TypeId × Value → H) :
    ReturnsInHanded {} Tryd.checked os 7 .any (fun w args => (Rows.fsFormatSpec.pre enc Tryd.prog Tryd.f7 [] false w args ∧ laidMetH Tryd.prog Post.laidK w) ∧ sizedMet enc Tryd.prog Tryd.f7 (OpenSpec.ofChange Rows.fsFormatSpec) false w args)
      (Rows.fsFormatSpec.post enc Tryd.prog Tryd.f7 false true false false) := by
  refine returnsInHanded_of_change_and (C := Tryd.checked) (X := fun w _ => laidMetH Tryd.prog Post.laidK w) (fun _ _ _ hh h => h.of_heap hh) Post.ownKnob_ started (by kernel_rfl) Tryd.func7
    (ChangeSpec.witness_shaped (enc := enc) (C := Tryd.checked) (os := os) (X := fun w _ => laidMetH Tryd.prog Post.laidK w) false (World.doorLaid Tryd.prog 14 os) #[.int .i64 0, .int .i64 0, .slice none 0 0] 8 rfl (World.shaped_of_RefB (by kernel_rfl) (by kernel_rfl)) (by kernel_rfl) (by kernel_rfl) (by kernel_rfl) (Post.door_met os _)) ?_
  intro W base args ds gs before hval0 hW _ hsz0 hL _
  have hW' := hW
  have hval : ∀ (j : Nat) t v, Tryd.f7.params[j]? = some t → args[j]? = some v → Value.okWide Tryd.prog W .any base t v := hval0
  have hlt : ∀ x ∈ before, x.block < W.heap.size := fun x hx => hW.lt x hx
  have hsz : (DataW.weightsEach Tryd.prog (Tryd.f7.params.toList ++ Rows.fsFormatSpec.plain.varTypes Tryd.prog) (ds ++ gs)).all (· ≤ reachBytes) = true := hsz0
  obtain ⟨p, q, hA0, hV, rfl, hfz, hnd⟩ := hW
  have hA : DataW.TrodAll enc Tryd.prog W 0 (fun _ => true) true Tryd.f7.params.toList args.toList ds p := hA0
  rw [Tryd.params7] at hA hval hsz
  obtain ⟨v0, vs0, d0, ds0, p0, q0, ha, rfl, rfl, hT0, hR0⟩ := trodAll_cons hA
  obtain ⟨v1, vs1, d1, ds1, p1, q1, rfl, rfl, rfl, hT1, hR1⟩ := trodAll_cons hR0
  obtain ⟨v2, vs2, d2, ds2, p2, q2, rfl, rfl, rfl, hT2, hR2⟩ := trodAll_cons hR1
  obtain ⟨rfl, rfl, rfl⟩ := trodAll_nil hR2
  obtain rfl : args = #[v0, v1, v2] := by cases args; simp_all
  obtain ⟨rfl, rfl⟩ := trodVars_none hV
  clear hA0 hval0 hsz0 ha
  simp only [List.append_nil] at hW' hlt hsz
  obtain ⟨n0, e0, _, _, hw0⟩ := open_int Tryd.underlying3 (hval 0 3 _ rfl rfl) hT0
  subst e0
  obtain ⟨hi0, hj0⟩ := int_bd hw0
  obtain ⟨n1, e1, _, _, hw1⟩ := open_int Tryd.underlying3 (hval 1 3 _ rfl rfl) hT1
  subst e1
  obtain ⟨hi1, hj1⟩ := int_bd hw1
  obtain ⟨fu2, hf2⟩ := id hT2
  obtain ⟨a2, l2, k2, e2⟩ := okWide_slice Tryd.underlying48 (hval 2 48 _ rfl rfl)
  subst e2
  obtain ⟨A2, L2, c2, e2, hc2, hb2, hU2⟩ := bools_open (y := (d2, p2)) (by simpa [Value.cells] using hf2) (Wt.of hsz (j := 2) rfl rfl)
  injection e2 with e2a e2b e2c
  subst e2a e2b e2c
  refine (fsFormat_o n0 n1 hi0 hj0 hi1 hj1 L2 a2 k2 W hU2 hb2 (Post.of_laid hL)).mono fun e W' ⟨he, hb⟩ => ?_
  subst he
  refine ⟨_, rfl, Post.post_of_below_ (pa := p0 ++ (p1 ++ (p2))) (pv := []) hW' (fun _ _ _ => (trodAll_cons_mk (shut_bool Tryd.underlying4 _) trodAll_mk0)) (fun sp hs => ?_) (fun _ _ => rfl) (by simp) hb (ok_one (by kernel_rfl) rfl (okWide_bool_mk Tryd.underlying4 _))⟩
  have := (trodAll_cons_mk (arg_again Post.laidOut_ (by kernel_rfl) (of_decide_eq_true (by kernel_rfl)) hT0 (fun x hx => hlt x (by simp [hx])) hb sp (fun x hx => hs x (by simp [hx]))) (trodAll_cons_mk (arg_again Post.laidOut_ (by kernel_rfl) (of_decide_eq_true (by kernel_rfl)) hT1 (fun x hx => hlt x (by simp [hx])) hb sp (fun x hx => hs x (by simp [hx]))) (trodAll_cons_mk (arg_again Post.laidOut_ (by kernel_rfl) (of_decide_eq_true (by kernel_rfl)) hT2 (fun x hx => hlt x (by simp [hx])) hb sp (fun x hx => hs x (by simp [hx]))) (trodAll_mk0 (enc := enc) (P := Tryd.prog) (w := W') (base := 0) (spare := sp) (held := true)))))
  simp only [List.append_nil] at this
  exact this

theorem fsFormat_holds : Rows.FsFormatSaid :=
  OpenClaim.holds_of_wide 7 Tryd.f7 rfl rfl rfl rfl rfl rfl rfl ⟨rfl, rfl, rfl, rfl, rfl⟩ rfl rfl rfl rfl rfl (by kernel_rfl) Tryd.func7 (by kernel_rfl)
    (of_decide_eq_true (by kernel_rfl)) (by unfold Func.isWrapper; first | (rw [if_pos (by decide +kernel)]; kernel_rfl) | (rw [if_neg (by decide +kernel)]; exact ⟨rfl, rfl⟩))
    (fun os started H enc _ => fsFormat_lifted os started H enc)

theorem fsFormat_proved : Rows.FsFormatCardSaid :=
  Claim7.holds_tied_plain_at .later [] [.data] true (true, "ee2971141607ed4101ed2bc5231c48a2251e073ae2a1a1a4f15003c18b712756") false
    fsFormat_holds (fun _ h => by cases h) (by kernel_rfl) (fun _ h => by cases h) fsFormat_row_tie rfl ⟨rfl, rfl⟩ (by kernel_rfl) rfl
    (fun f fn hf hfn => by
      obtain rfl : f = 7 := Option.some.inj ((show Tryd.prog.funcNamed "bailey/baileylaw14.FsFormat" = some 7 by kernel_rfl).symm.trans hf) |>.symm
      obtain rfl : fn = Tryd.f7 := (Option.some.inj (Tryd.func7.symm.trans hfn)).symm
      exact ⟨by kernel_rfl, fun j t ht => by
        rw [Tryd.params7] at ht
        have hm : t ∈ [3, 3, 48] := by simpa using Array.mem_of_getElem? ht
        have hall : ([3, 3, 48].all fun u => !Tryd.prog.wantsStandIn u) = true := by kernel_rfl
        exact (show Tryd.prog.wantsStandIn t = false by simpa using List.all_eq_true.1 hall t hm)⟩)
    (by kernel_rfl)
#print axioms fsFormat_proved
end Go.Proofs.YtbjbjnbloddioaaDoor
