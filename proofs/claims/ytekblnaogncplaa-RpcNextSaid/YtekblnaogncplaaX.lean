/- Calls as frames: plain laws. -/
import Derived.Test.YtekblnaogncplaaM
import Derived.Test.YtekblnaogncplaaQ
set_option linter.unusedVariables false
set_option linter.unusedSimpArgs false
namespace Go.Proofs.Ytekblnaogncplaa

theorem oput_some (l : List UInt8) (n : Int) (k : Nat) (most : Int) : oput (some l) n k most = if 0 ≤ n ∧ n ≤ most then some (l ++ be n.toNat k) else none := by
  unfold oput
  rw [Option.bind_some]
  by_cases h : 0 ≤ n ∧ n ≤ most
  · rw [if_pos h, if_neg (by omega)]
  · rw [if_neg h, if_pos (by omega)]
theorem oput_none (n : Int) (k : Nat) (most : Int) : oput none n k most = none := rfl
theorem obytes_none (b : List UInt8) (k : Nat) (most : Int) : obytes none b k most = none := rfl
theorem obytes_some (l b : List UInt8) (k : Nat) (most : Int) : obytes (some l) b k most = if (b.length : Int) ≤ most then some (l ++ be b.length k ++ b) else none := by
  unfold obytes
  rw [oput_some]
  by_cases h : (b.length : Int) ≤ most
  · rw [if_pos (by omega), if_pos h]; simp
  · rw [if_neg (by omega), if_neg h]; rfl
theorem oattrs_none (L : List AttrD) : oattrs none L = none := foldl_none L
/-- What is written stands behind what was there. -/
theorem foldl_at (l : List UInt8) : ∀ (L : List AttrD) (o : Option (List UInt8)), L.foldl oattr (o.map (l ++ ·)) = (L.foldl oattr o).map (l ++ ·)
  | [], o => rfl
  | a :: L, o => by
    have : oattr (o.map (l ++ ·)) a = (oattr o a).map (l ++ ·) := by
      cases o with
      | none => rfl
      | some q =>
        rw [Option.map_some, oattr_some, oattr_some]
        by_cases h : a.1 < 0 ∨ 65535 < a.1 ∨ 16384 < a.2.length
        · rw [if_pos h, if_pos h]; rfl
        · rw [if_neg h, if_neg h]; simp
    show L.foldl oattr (oattr (o.map (l ++ ·)) a) = _
    rw [this, foldl_at l L]
    rfl
theorem oattrs_at (l : List UInt8) (L : List AttrD) : oattrs (some l) L = (oattrs (some []) L).map (l ++ ·) := by
  unfold oattrs
  rw [← foldl_at]
  congr 1
  rw [oput_some, oput_some]
  split <;> simp
theorem fit_iff (n : Int) : fit n = true ↔ 0 ≤ n ∧ n ≤ 2147483647 := by simp [fit]

theorem oput_inv {o : Option (List UInt8)} {n most : Int} {k : Nat} {l : List UInt8} (h : oput o n k most = some l) : ∃ l0, o = some l0 ∧ 0 ≤ n ∧ n ≤ most ∧ l = l0 ++ be n.toNat k := by
  cases o with
  | none => cases h
  | some l0 =>
    rw [oput_some] at h
    split at h
    · injection h with h
      rename_i hc
      exact ⟨l0, rfl, hc.1, hc.2, h.symm⟩
    · cases h
theorem obytes_inv {o : Option (List UInt8)} {b : List UInt8} {most : Int} {k : Nat} {l : List UInt8} (h : obytes o b k most = some l) : ∃ l0, o = some l0 ∧ (b.length : Int) ≤ most ∧ l = l0 ++ be b.length k ++ b := by
  cases o with
  | none => cases h
  | some l0 =>
    rw [obytes_some] at h
    split at h
    · injection h with h
      rename_i hc
      exact ⟨l0, rfl, hc, h.symm⟩
    · cases h
theorem oattrs_inv {o : Option (List UInt8)} {L : List AttrD} {l : List UInt8} (h : oattrs o L = some l) : ∃ l0 a, o = some l0 ∧ oattrs (some []) L = some a ∧ l = l0 ++ a := by
  cases o with
  | none => rw [oattrs_none] at h; cases h
  | some l0 =>
    rw [oattrs_at] at h
    cases ha : oattrs (some []) L with
    | none => rw [ha] at h; cases h
    | some a =>
      rw [ha] at h
      injection h with h
      exact ⟨l0, a, rfl, rfl, h.symm⟩
theorem oframe_inv {o : Option (List UInt8)} {l : List UInt8} (h : oframe o = some l) : ∃ l0, o = some l0 ∧ l0.length ≤ 262144 ∧ l = be l0.length 4 ++ l0 := by
  cases o with
  | none => cases h
  | some l0 =>
    unfold oframe at h
    rw [Option.bind_some] at h
    split at h
    · cases h
    · injection h with h
      exact ⟨l0, rfl, by omega, h.symm⟩

/-- What a call's frame is made of. -/
structure Made (x : CallD) (f : List UInt8) : Prop where
  fn : 0 ≤ x.fn ∧ x.fn ≤ 255
  s : 0 ≤ x.session ∧ x.session ≤ 2147483647
  a : 0 ≤ x.a ∧ x.a ≤ 2147483647
  b : 0 ≤ x.b ∧ x.b ≤ 2147483647
  n : 0 ≤ x.n ∧ x.n ≤ 2147483647
  k : 0 ≤ x.kind ∧ x.kind ≤ 2147483647
  p : x.param.length ≤ 65535
  d : x.data.length ≤ 65536
  m : x.more.length ≤ 65535
  body : ∃ t1 t2, oattrs (some []) x.t1 = some t1 ∧ oattrs (some []) x.t2 = some t2 ∧ ∃ body, f = be body.length 4 ++ body ∧ body.length ≤ 262144 ∧
    body = be x.fn.toNat 1 ++ (be x.session.toNat 4 ++ (be x.a.toNat 4 ++ (be x.b.toNat 4 ++ (be x.n.toNat 4 ++ (be x.kind.toNat 4 ++ (be x.param.length 2 ++ (x.param ++ (be x.data.length 4 ++ (x.data ++ (be x.more.length 2 ++ (x.more ++ (t1 ++ t2))))))))))))
theorem enc_made {x : CallD} {f : List UInt8} (h : encCall x = some f) : Made x f := by
  obtain ⟨l0, h0, hl, hf⟩ := oframe_inv h
  obtain ⟨l1, t2, h1, ht2, e1⟩ := oattrs_inv h0
  obtain ⟨l2, t1, h2, ht1, e2⟩ := oattrs_inv h1
  obtain ⟨l3, h3, hm, e3⟩ := obytes_inv h2
  obtain ⟨l4, h4, hd, e4⟩ := obytes_inv h3
  obtain ⟨l5, h5, hp, e5⟩ := obytes_inv h4
  obtain ⟨l6, h6, hk1, hk2, e6⟩ := oput_inv h5
  obtain ⟨l7, h7, hn1, hn2, e7⟩ := oput_inv h6
  obtain ⟨l8, h8, hb1, hb2, e8⟩ := oput_inv h7
  obtain ⟨l9, h9, ha1, ha2, e9⟩ := oput_inv h8
  obtain ⟨l10, h10, hs1, hs2, e10⟩ := oput_inv h9
  obtain ⟨l11, h11, hf1, hf2, e11⟩ := oput_inv h10
  injection h11 with h11
  refine ⟨⟨hf1, hf2⟩, ⟨hs1, hs2⟩, ⟨ha1, ha2⟩, ⟨hb1, hb2⟩, ⟨hn1, hn2⟩, ⟨hk1, hk2⟩, by omega, by omega, by omega, t1, t2, ht1, ht2, l0, hf, hl, ?_⟩
  rw [e1, e2, e3, e4, e5, e6, e7, e8, e9, e10, e11, ← h11]
  simp

theorem enc_same (x : CallD) : encCall x = encRef x := by
  unfold encCall encRef
  by_cases hok : refOk x = true
  · rw [if_pos hok]
    have h := hok
    unfold refOk at h
    simp only [Bool.and_eq_true, decide_eq_true_eq, List.all_cons, List.all_nil, fit_iff, Bool.and_true] at h
    obtain ⟨⟨⟨⟨⟨h1, h2⟩, h3, h4, h5, h6, h7⟩, h8⟩, h9⟩, h10⟩ := h
    simp only [oput_some, obytes_some]
    rw [if_pos ⟨h1, h2⟩]
    simp only [oput_some, obytes_some]
    rw [if_pos h3]
    simp only [oput_some, obytes_some]
    rw [if_pos h4]
    simp only [oput_some, obytes_some]
    rw [if_pos h5]
    simp only [oput_some, obytes_some]
    rw [if_pos h6]
    simp only [oput_some, obytes_some]
    rw [if_pos h7]
    simp only [oput_some, obytes_some]
    rw [if_pos (by omega)]
    simp only [oput_some, obytes_some]
    rw [if_pos (by omega)]
    simp only [oput_some, obytes_some]
    rw [if_pos (by omega)]
    rw [oattrs_at]
    cases oattrs (some []) x.t1 with
    | none => rw [Option.map_none, oattrs_none]; rfl
    | some a =>
      rw [Option.map_some, oattrs_at]
      cases oattrs (some []) x.t2 with
      | none => rfl
      | some b => rfl
  · rw [if_neg hok]
    show encCall x = none
    cases he : encCall x with
    | none => rfl
    | some f =>
      exfalso
      apply hok
      have h := enc_made he
      unfold refOk
      simp only [Bool.and_eq_true, decide_eq_true_eq, List.all_cons, List.all_nil, fit_iff, Bool.and_true]
      exact ⟨⟨⟨⟨h.fn, h.s, h.a, h.b, h.n, h.k⟩, h.p⟩, h.m⟩, h.d⟩

/-! ### and back -/
theorem rtake_at (u v : List UInt8) (b : Bool) : rtake (u ++ v, b) u.length = (u, (v, b)) := by
  unfold rtake
  rw [if_neg (by simp)]
  simp
theorem rget_at (n k : Nat) (v : List UInt8) (b : Bool) (hn : n < 256 ^ k) : rget (be n k ++ v, b) k = (n, (v, b)) := by
  have h := rtake_at (be n k) v b
  rw [be_length] at h
  unfold rget
  rw [h]
  exact Prod.ext (beV_be k n hn) rfl
theorem rbytes_at (u v : List UInt8) (k : Nat) (b : Bool) (hn : u.length < 256 ^ k) : rbytes (be u.length k ++ (u ++ v), b) k = (u, (v, b)) := by
  unfold rbytes
  rw [rget_at _ _ _ _ hn]
  exact rtake_at u v b
end Go.Proofs.Ytekblnaogncplaa
