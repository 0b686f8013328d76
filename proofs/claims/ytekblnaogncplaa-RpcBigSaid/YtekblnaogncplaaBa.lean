/- What is too long is no frame: plain laws. -/
import Derived.Test.YtekblnaogncplaaXb
set_option linter.unusedVariables false
set_option linter.unusedSimpArgs false
namespace Go.Proofs.Ytekblnaogncplaa

theorem none_of {α : Type} {o : Option α} (h : ∀ x, o = some x → False) : o = none := by
  cases o with
  | none => rfl
  | some x => exact (h x rfl).elim
def dataCall (d : List UInt8) : CallD := ⟨0, 0, 0, 0, 0, 0, [], d, [], [], []⟩
def moreCall (d : List UInt8) : CallD := ⟨0, 0, 0, 0, 0, 0, [], [], d, [], []⟩
def attrCall (L : List AttrD) : CallD := ⟨0, 0, 0, 0, 0, 0, [], [], [], L, []⟩
theorem data_none (d : List UInt8) (h : 65536 < d.length) : encCall (dataCall d) = none := none_of fun f hf => by
  have : d.length ≤ 65536 := (enc_made hf).d
  omega
theorem more_none (d : List UInt8) (h : 65535 < d.length) : encCall (moreCall d) = none := none_of fun f hf => by
  have : d.length ≤ 65535 := (enc_made hf).m
  omega
theorem attr_none (L : List AttrD) (h : 64 < L.length) : encCall (attrCall L) = none := none_of fun f hf => by
  obtain ⟨t1, t2, h1, _⟩ := (enc_made hf).body
  have : L.length ≤ 64 := (oattrs_list h1).2.1
  omega
theorem encL_ge (n : Nat) : ∀ L : List AttrD, (∀ a ∈ L, n ≤ a.2.length) → L.length * (n + 4) ≤ (encL L).length
  | [], _ => by simp
  | a :: L, h => by
    have h1 := encL_ge n L (fun b hb => h b (List.mem_cons_of_mem _ hb))
    have h2 := h a List.mem_cons_self
    rw [encL_cons, List.length_cons, Nat.add_mul]
    simp [be_length]
    omega
theorem many_none (L : List AttrD) (hl : L.length = 17) (h : ∀ a ∈ L, 16384 ≤ a.2.length) : encCall (attrCall L) = none := none_of fun f hf => by
  obtain ⟨t1, t2, h1, _, body, _, hb, e⟩ := (enc_made hf).body
  have ht := (oattrs_list h1).1
  have hg := encL_ge 16384 L h
  rw [hl] at hg
  have : (encL L).length ≤ body.length := by
    rw [e, ht]
    simp [be_length, attrCall]
    omega
  omega
theorem data_some (d : List UInt8) (h : d.length = 65536) : (encCall (dataCall d)).isSome = true := by
  rw [enc_same]
  have hok : refOk (dataCall d) = true := by
    unfold refOk dataCall
    simp [fit, h]
  have ha : oattrs (some []) [] = some (be 0 1) := by decide
  unfold encRef
  rw [if_pos hok]
  show (match oattrs (some []) [], oattrs (some []) [] with | some a, some b => oframe (some (refBody (dataCall d) a b)) | _, _ => none).isSome = true
  rw [ha]
  show (oframe (some (refBody (dataCall d) (be 0 1) (be 0 1)))).isSome = true
  have hlen : (refBody (dataCall d) (be 0 1) (be 0 1)).length ≤ 262144 := by
    unfold refBody refHead dataCall
    simp [be_length, h]
  unfold oframe
  rw [Option.bind_some, if_neg (by omega)]
  rfl

/-! ### replies -/
theorem foldl_oput_none (l : List Int) : oputs none l = none := by
  unfold oputs
  induction l with
  | nil => rfl
  | cons a l ih => exact ih
theorem oputs_inv {o : Option (List UInt8)} {l : List Int} {r : List UInt8} (h : oputs o l = some r) : ∃ l0, o = some l0 := by
  cases o with
  | none => rw [foldl_oput_none] at h; cases h
  | some l0 => exact ⟨l0, rfl⟩
theorem reply_inv {x : ReplyD} {f : List UInt8} (h : encReply x = some f) : x.list.length ≤ 1024 ∧ ∃ t, oattrs (some []) x.attrs = some t := by
  obtain ⟨l0, h0, _, _⟩ := oframe_inv h
  obtain ⟨l1, t, h1, ht, _⟩ := oattrs_inv h0
  obtain ⟨l2, h2⟩ := oputs_inv h1
  obtain ⟨l3, h3, _, hm, _⟩ := oput_inv h2
  exact ⟨by omega, t, ht⟩
theorem list_none (x : ReplyD) (h : 1024 < x.list.length) : encReply x = none := none_of fun f hf => by
  have := (reply_inv hf).1
  omega
theorem value_none (x : ReplyD) (a : AttrD) (ha : a ∈ x.attrs) (h : 16384 < a.2.length) : encReply x = none := none_of fun f hf => by
  obtain ⟨_, t, ht⟩ := reply_inv hf
  have := ((oattrs_list ht).2.2 a ha).2.2
  omega
end Go.Proofs.Ytekblnaogncplaa
