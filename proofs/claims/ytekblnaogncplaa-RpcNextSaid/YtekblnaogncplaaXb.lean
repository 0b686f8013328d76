/- A frame read back: plain laws. -/
import Derived.Test.YtekblnaogncplaaX
set_option linter.unusedVariables false
set_option linter.unusedSimpArgs false
namespace Go.Proofs.Ytekblnaogncplaa

def encL (L : List AttrD) : List UInt8 := (L.map fun a => be a.1.toNat 2 ++ (be a.2.length 2 ++ a.2)).flatten
theorem encL_cons (a : AttrD) (L : List AttrD) : encL (a :: L) = be a.1.toNat 2 ++ (be a.2.length 2 ++ (a.2 ++ encL L)) := by simp [encL]
theorem foldl_inv : ∀ (L : List AttrD) (l t : List UInt8), L.foldl oattr (some l) = some t → t = l ++ encL L ∧ ∀ a ∈ L, 0 ≤ a.1 ∧ a.1 ≤ 65535 ∧ a.2.length ≤ 16384
  | [], l, t, h => by
    injection h with h
    exact ⟨by simp [encL, h], by simp⟩
  | a :: L, l, t, h => by
    have h : L.foldl oattr (oattr (some l) a) = some t := h
    rw [oattr_some] at h
    by_cases hc : a.1 < 0 ∨ 65535 < a.1 ∨ 16384 < a.2.length
    · rw [if_pos hc, foldl_none] at h
      cases h
    · rw [if_neg hc] at h
      obtain ⟨h1, h2⟩ := foldl_inv L _ t h
      refine ⟨by rw [h1]; simp [encL], fun b hb => ?_⟩
      rcases List.mem_cons.1 hb with rfl | hb
      · omega
      · exact h2 b hb
theorem oattrs_list {L : List AttrD} {t : List UInt8} (h : oattrs (some []) L = some t) : t = be L.length 1 ++ encL L ∧ L.length ≤ 64 ∧ ∀ a ∈ L, 0 ≤ a.1 ∧ a.1 ≤ 65535 ∧ a.2.length ≤ 16384 := by
  unfold oattrs at h
  rw [oput_some] at h
  by_cases hc : 0 ≤ (L.length : Int) ∧ (L.length : Int) ≤ 64
  · rw [if_pos hc] at h
    obtain ⟨h1, h2⟩ := foldl_inv L _ t h
    exact ⟨by simpa using h1, by omega, h2⟩
  · rw [if_neg hc, foldl_none] at h
    cases h
theorem rattrN_at (L : List AttrD) (hL : ∀ a ∈ L, 0 ≤ a.1 ∧ a.1 ≤ 65535 ∧ a.2.length ≤ 16384) (v : List UInt8) (b : Bool) : ∀ k, k ≤ L.length → rattrN k ([], (encL L ++ v, b)) = (L.take k, (encL (L.drop k) ++ v, b))
  | 0, _ => by simp [rattrN]
  | k + 1, hk => by
    have ih := rattrN_at L hL v b k (by omega)
    have hlt : k < L.length := by omega
    obtain ⟨h1, h2, h3⟩ := hL L[k] (List.getElem_mem hlt)
    have hd : L.drop k = L[k] :: L.drop (k + 1) := List.drop_eq_getElem_cons hlt
    have he : encL (L.drop k) ++ v = be L[k].1.toNat 2 ++ (be L[k].2.length 2 ++ (L[k].2 ++ (encL (L.drop (k + 1)) ++ v))) := by
      rw [hd, encL_cons]
      simp only [List.append_assoc]
    show (let q := rattrN k ([], (encL L ++ v, b)); (q.1 ++ [(((rget q.2 2).1 : Int), (rbytes (rget q.2 2).2 2).1)], (rbytes (rget q.2 2).2 2).2)) = _
    rw [ih]
    dsimp only
    rw [he, rget_at _ _ _ _ (by omega)]
    dsimp only
    rw [rbytes_at _ _ _ _ (by omega), List.take_succ_eq_append_getElem hlt]
    refine Prod.ext ?_ rfl
    show L.take k ++ [_] = L.take k ++ [_]
    rw [Int.toNat_of_nonneg h1]
theorem rattrs_at {L : List AttrD} {t : List UInt8} (h : oattrs (some []) L = some t) (v : List UInt8) (b : Bool) : rattrs (t ++ v, b) = (L, (v, b)) := by
  obtain ⟨ht, hl, hL⟩ := oattrs_list h
  subst ht
  unfold rattrs
  rw [List.append_assoc, rget_at _ _ _ _ (by omega)]
  dsimp only
  rw [rattrN_at L hL v b L.length (Nat.le_refl _)]
  simp [encL]
theorem rint_at (n : Int) (h : 0 ≤ n ∧ n ≤ 2147483647) (v : List UInt8) (b : Bool) : rget (be n.toNat 4 ++ v, b) 4 = (n.toNat, (v, b)) := rget_at _ _ _ _ (by omega)

theorem parse_back {x : CallD} {f : List UInt8} (h : Made x f) : parseCall (f.drop 4) = (x, ([], false)) ∧ ∃ body, f.drop 4 = body ∧ f = be body.length 4 ++ body ∧ body.length ≤ 262144 := by
  obtain ⟨t1, t2, ht1, ht2, body, hf, hbl, hbody⟩ := h.body
  have hd : f.drop 4 = body := by rw [hf, List.drop_append_of_le_length (by simp [be_length]), List.drop_eq_nil_of_le (by simp [be_length])]; simp
  refine ⟨?_, body, hd, hf, hbl⟩
  rw [hd]
  have hfn := h.fn
  have e1 := rget_at x.fn.toNat 1 (be x.session.toNat 4 ++ (be x.a.toNat 4 ++ (be x.b.toNat 4 ++ (be x.n.toNat 4 ++ (be x.kind.toNat 4 ++ (be x.param.length 2 ++ (x.param ++ (be x.data.length 4 ++ (x.data ++ (be x.more.length 2 ++ (x.more ++ (t1 ++ t2)))))))))))) false (by omega)
  rw [← hbody] at e1
  have e2 : rints 5 (rget (body, false) 1).2 = ([x.session, x.a, x.b, x.n, x.kind], (be x.param.length 2 ++ (x.param ++ (be x.data.length 4 ++ (x.data ++ (be x.more.length 2 ++ (x.more ++ (t1 ++ t2)))))), false)) := by
    rw [e1]
    simp only [rints, rint_at _ h.s, rint_at _ h.a, rint_at _ h.b, rint_at _ h.n, rint_at _ h.k, Int.toNat_of_nonneg h.s.1, Int.toNat_of_nonneg h.a.1, Int.toNat_of_nonneg h.b.1, Int.toNat_of_nonneg h.n.1, Int.toNat_of_nonneg h.k.1, List.nil_append, List.cons_append]
  have e3 := rbytes_at x.param (be x.data.length 4 ++ (x.data ++ (be x.more.length 2 ++ (x.more ++ (t1 ++ t2))))) 2 false (by have := h.p; omega)
  have e4 := rbytes_at x.data (be x.more.length 2 ++ (x.more ++ (t1 ++ t2))) 4 false (by have := h.d; omega)
  have e5 := rbytes_at x.more (t1 ++ t2) 2 false (by have := h.m; omega)
  have e6 := rattrs_at ht1 t2 false
  have e7 := rattrs_at ht2 [] false
  rw [List.append_nil] at e7
  unfold parseCall
  simp only [e2, e3, e4, e5, e6, e7]
  rw [e1]
  refine Prod.ext ?_ rfl
  simp [numCall, Int.toNat_of_nonneg hfn.1]

theorem read_back {x : CallD} {f : List UInt8} (h : encCall x = some f) : readCall (f.drop 4) = (x, true) ∧ 4 ≤ f.length ∧ f.length ≤ 262148 := by
  obtain ⟨hp, body, hd, hf, hl⟩ := parse_back (enc_made h)
  refine ⟨?_, by rw [hf]; simp [be_length], by rw [hf]; simp [be_length]; omega⟩
  have hok : okCall (f.drop 4) = true := by
    unfold okCall
    rw [hp]
    simp [h]
  unfold readCall
  rw [if_pos hok, hp]
end Go.Proofs.Ytekblnaogncplaa
