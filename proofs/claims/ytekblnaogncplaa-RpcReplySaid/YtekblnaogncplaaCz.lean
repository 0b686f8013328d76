/- For every reply r that may come in, RpcReply(r) returns true, and r reads behind the call as it read before it. No condition. -/
import Derived.Test.YtekblnaogncplaaRows
import Derived.Test.YtekblnaogncplaaPost
import Derived.Test.YtekblnaogncplaaOpenR
import Derived.Test.YtekblnaogncplaaCe
import Derived.WalkKit
import Derived.ProofKit
import Derived.OpenShut
set_option linter.unusedVariables false
set_option linter.unusedSimpArgs false
namespace Go.Proofs.Ytekblnaogncplaa
open Go.ChangeShapes Go.WideShapes Go.ChangeAt Go.RowKit

set_option maxRecDepth 100000 in
theorem rpcReply_lifted (os : Os) (started : os.Started) (H : Type) (enc : TypeId × Value → H) :
    ReturnsInHanded {} Try.checked os 6 .any (Rows.rpcReplySpec.pre6 enc Try.prog Try.f6 Rows.rpcReplyRow.domain false) (Rows.rpcReplySpec.post enc Try.prog Try.f6 false true false false) := by
  refine returnsInHanded_of_change (C := Try.checked) Post.ownKnob_ started (by kernel_rfl) Try.func6
    (ChangeSpec.witness6 (enc := enc) (C := Try.checked) false ⟨#[], #[.agg #[.int .i64 0, .int .i64 0, .int .i64 0, .slice none 0 0, .slice none 0 0, .slice none 0 0]], []⟩ 8 (by kernel_rfl) (by kernel_rfl) (by kernel_rfl) (by kernel_rfl)) ?_
  intro W base args ds gs before hval0 hW hcnd _
  have hval : ∀ (j : Nat) t v, Try.f6.params[j]? = some t → args[j]? = some v → Value.okWide Try.prog W .any base t v := hval0
  have hW' := hW
  have hlt : ∀ x ∈ before, x.block < W.heap.size := fun x hx => hW.lt x hx
  obtain ⟨p, q, hA0, hV, rfl, hfz, hnd⟩ := hW
  have hA : DataW.TrodAll enc Try.prog W 0 (fun _ => true) true Try.f6.params.toList args.toList ds p := hA0
  rw [Try.params6] at hA hval
  obtain ⟨v, d, rfl, rfl, hT⟩ := trodAll_one hA
  obtain ⟨rfl, rfl⟩ := trodVars_none hV
  clear hA0 hval0
  obtain ⟨x, cp, rfl, hU, hl1, hl2⟩ := reply_open (hval 0 48 v rfl rfl) hT
  simp only [List.append_nil] at hW' hlt
  refine (rpcReply_o x cp W hU ⟨Nat.le_trans hl1 (by decide), Nat.le_trans hl2 (by decide)⟩).mono fun e W' ⟨he, hb⟩ => ?_
  subst he
  exact ⟨_, rfl, Post.post_of_below_ (pa := p) (pv := []) hW' (fun _ _ _ => (trodAll_cons_mk (shut_bool Try.underlying4 _) trodAll_mk0))
    (fun sp hs => by
      have := trodAll_cons_mk (arg_again Post.laidOut_ (by kernel_rfl) (of_decide_eq_true (by kernel_rfl)) hT hlt hb sp hs) (trodAll_mk0 (enc := enc) (P := Try.prog) (w := W') (base := 0) (spare := sp) (held := true))
      rw [List.append_nil] at this
      exact this)
    (fun _ _ => rfl) (by simp) hb (ok_one (by kernel_rfl) rfl (okWide_bool_mk Try.underlying4 _))⟩

theorem rpcReply_over : Rows.rpcReplyRow.holds Try.pinned (OpenSpec.ofChange Rows.rpcReplySpec) :=
  OpenClaim.holds_of_wide 6 Try.f6 rfl rfl rfl rfl rfl rfl rfl ⟨rfl, rfl, rfl, rfl, rfl⟩ rfl rfl rfl rfl rfl (by kernel_rfl) Try.func6 (by kernel_rfl)
    (of_decide_eq_true (by kernel_rfl)) (by unfold Func.isWrapper; first | (rw [if_pos (by decide +kernel)]; kernel_rfl) | (rw [if_neg (by decide +kernel)]; exact ⟨rfl, rfl⟩))
    (fun os started H enc _ => rpcReply_lifted os started H enc)

theorem rpcReply_proved : Rows.RpcReplySaid := rpcReply_over
#print axioms rpcReply_proved
end Go.Proofs.Ytekblnaogncplaa
