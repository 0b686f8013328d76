/- For every list of calls, every bytes and every number that may come in, RpcNext(calls, more, most) returns true, and each argument reads behind the call as it read before it. No condition. -/
import Derived.Test.YtekblnaogncplaaRows
import Derived.Test.YtekblnaogncplaaPost
import Derived.Test.YtekblnaogncplaaOpenN
import Derived.Test.YtekblnaogncplaaNe
import Derived.WalkKit
import Derived.ProofKit
import Derived.OpenShut
set_option linter.unusedVariables false
set_option linter.unusedSimpArgs false
namespace Go.Proofs.Ytekblnaogncplaa
open Go.ChangeShapes Go.WideShapes Go.ChangeAt Go.RowKit

set_option maxRecDepth 100000 in
theorem rpcNext_lifted (os : Os) (started : os.Started) (H : Type) (enc : TypeId × Value → H) :
    ReturnsInHanded {} Try.checked os 4 .any (Rows.rpcNextSpec.pre6 enc Try.prog Try.f4 Rows.rpcNextRow.domain false) (Rows.rpcNextSpec.post enc Try.prog Try.f4 false true false false) := by
  refine returnsInHanded_of_change (C := Try.checked) Post.ownKnob_ started (by kernel_rfl) Try.func4
    (ChangeSpec.witness6 (enc := enc) (C := Try.checked) false ⟨#[], #[.slice none 0 0, .slice none 0 0, .int .i64 0], []⟩ 8 (by kernel_rfl) (by kernel_rfl) (by kernel_rfl) (by kernel_rfl)) ?_
  intro W base args ds gs before hval0 hW hcnd _
  have hval : ∀ (j : Nat) t v, Try.f4.params[j]? = some t → args[j]? = some v → Value.okWide Try.prog W .any base t v := hval0
  have hW' := hW
  have hlt : ∀ x ∈ before, x.block < W.heap.size := fun x hx => hW.lt x hx
  obtain ⟨p, q, hA0, hV, rfl, hfz, hnd⟩ := hW
  have hA : DataW.TrodAll enc Try.prog W 0 (fun _ => true) true Try.f4.params.toList args.toList ds p := hA0
  rw [Try.params4] at hA hval
  obtain ⟨v1, v2, v3, d1, d2, d3, p1, p2, p3, rfl, rfl, rfl, hT1, hT2, hT3⟩ := trodAll_three hA
  obtain ⟨rfl, rfl⟩ := trodVars_none hV
  clear hA0 hval0
  obtain ⟨a1, n1, c1, rfl⟩ := okWide_slice Try.underlying36 (hval 0 36 v1 rfl rfl)
  obtain ⟨a2, n2, c2, rfl⟩ := okWide_slice Try.underlying22 (hval 1 22 v2 rfl rfl)
  obtain ⟨n3, rfl⟩ := okWide_int Try.underlying3 (hval 2 3 v3 rfl rfl)
  have hT1c := hT1
  have hT2c := hT2
  obtain ⟨fu1, hf1⟩ := hT1c
  obtain ⟨fu2, hf2⟩ := hT2c
  obtain ⟨Ac, L, cc, e1, hL1, hL2, hCU⟩ := calls_open hf1
  obtain ⟨Am, mo, cm, e2, hm1, hm2, hRU⟩ := bytes_open hf2
  rw [e1] at hT1 hW' hval
  rw [e2] at hT2 hW' hval
  rw [e1, e2]
  simp only [List.append_nil] at hW' hlt
  have hl1 : ∀ x ∈ p1, x.block < W.heap.size := fun x hx => hlt x (by simp [hx])
  have hl2 : ∀ x ∈ p2, x.block < W.heap.size := fun x hx => hlt x (by simp [hx])
  have hl3 : ∀ x ∈ p3, x.block < W.heap.size := fun x hx => hlt x (by simp [hx])
  refine (rpcNext_o L Ac cc mo Am cm n3 W hCU hRU hm1 (Nat.le_trans (Nat.le_trans hL1 hL2) (by decide))).mono fun e W' ⟨he, hb⟩ => ?_
  subst he
  refine ⟨_, rfl, Post.post_of_below_ (pa := p1 ++ (p2 ++ p3)) (pv := []) hW' (fun _ _ _ => (trodAll_cons_mk (shut_bool Try.underlying4 _) trodAll_mk0))
    (fun sp hs => ?_) (fun _ _ => rfl) (by simp) hb (ok_one (by kernel_rfl) rfl (okWide_bool_mk Try.underlying4 _))⟩
  exact trodAll_mk3 (arg_again Post.laidOut_ (by kernel_rfl) (of_decide_eq_true (by kernel_rfl)) hT1 hl1 hb sp (fun x hx => hs x (by simp [hx])))
    (arg_again Post.laidOut_ (by kernel_rfl) (of_decide_eq_true (by kernel_rfl)) hT2 hl2 hb sp (fun x hx => hs x (by simp [hx])))
    (arg_again Post.laidOut_ (by kernel_rfl) (of_decide_eq_true (by kernel_rfl)) hT3 hl3 hb sp (fun x hx => hs x (by simp [hx])))

theorem rpcNext_over : Rows.rpcNextRow.holds Try.pinned (OpenSpec.ofChange Rows.rpcNextSpec) :=
  OpenClaim.holds_of_wide 4 Try.f4 rfl rfl rfl rfl rfl rfl rfl ⟨rfl, rfl, rfl, rfl, rfl⟩ rfl rfl rfl rfl rfl (by kernel_rfl) Try.func4 (by kernel_rfl)
    (of_decide_eq_true (by kernel_rfl)) (by unfold Func.isWrapper; first | (rw [if_pos (by decide +kernel)]; kernel_rfl) | (rw [if_neg (by decide +kernel)]; exact ⟨rfl, rfl⟩))
    (fun os started H enc _ => rpcNext_lifted os started H enc)

theorem rpcNext_proved : Rows.RpcNextSaid := rpcNext_over
#print axioms rpcNext_proved
end Go.Proofs.Ytekblnaogncplaa
