/- Replies as frames: plain laws. -/
import Derived.Test.YtekblnaogncplaaXb
set_option linter.unusedVariables false
set_option linter.unusedSimpArgs false
namespace Go.Proofs.Ytekblnaogncplaa

def addInts (l : List UInt8) (ns : List Int) : List UInt8 := ns.foldl (fun l n => l ++ be n.toNat 4) l
def encI (ns : List Int) : List UInt8 := (ns.map fun n => be n.toNat 4).flatten
theorem encI_cons (n : Int) (ns : List Int) : encI (n :: ns) = be n.toNat 4 ++ encI ns := by simp [encI]
theorem addInts_eq : ∀ (ns : List Int) (l : List UInt8), addInts l ns = l ++ encI ns
  | [], l => by simp [addInts, encI]
  | n :: ns, l => by
    show addInts (l ++ be n.toNat 4) ns = _
    rw [addInts_eq ns, encI_cons, List.append_assoc]
theorem encI_len : ∀ ns : List Int, (encI ns).length = ns.length * 4
  | [] => rfl
  | n :: ns => by
    rw [encI_cons, List.length_append, be_length, encI_len ns, List.length_cons]
    omega
theorem addInts_len (l : List UInt8) (ns : List Int) : (addInts l ns).length = l.length + ns.length * 4 := by rw [addInts_eq, List.length_append, encI_len]
def refOkR (x : ReplyD) : Bool := [x.rv, x.a, x.b].all fit && decide (x.data.length ≤ 65536) && decide (x.list.length ≤ 1024) && x.list.all fit
def refBodyR (x : ReplyD) (t : List UInt8) : List UInt8 := addInts (addInts [] [x.rv, x.a, x.b, (x.data.length : Int)] ++ x.data ++ be x.list.length 2) x.list ++ t
def encRefR (x : ReplyD) : Option (List UInt8) :=
  if refOkR x then match oattrs (some []) x.attrs with
    | some t => oframe (some (refBodyR x t))
    | none => none
  else none

theorem oputs_none (ns : List Int) : oputs none ns = none := by
  unfold oputs
  induction ns with
  | nil => rfl
  | cons a l ih => exact ih
theorem oputs_some : ∀ (ns : List Int) (l : List UInt8), oputs (some l) ns = if ns.all fit then some (addInts l ns) else none
  | [], l => rfl
  | n :: ns, l => by
    show oputs (oput (some l) n 4 2147483647) ns = _
    rw [oput_some]
    by_cases h : 0 ≤ n ∧ n ≤ 2147483647
    · rw [if_pos h, oputs_some ns, List.all_cons, (fit_iff n).2 h]; rfl
    · have h2 : fit n = false := by rw [← Bool.not_eq_true, fit_iff]; exact h
      rw [if_neg h, oputs_none, List.all_cons, h2]; rfl
theorem encReply_same (x : ReplyD) : encReply x = encRefR x := by
  unfold encReply encRefR refOkR
  rw [oputs_some]
  by_cases h1 : [x.rv, x.a, x.b].all fit = true
  · rw [if_pos h1, h1, obytes_some]
    by_cases h2 : (x.data.length : Int) ≤ 65536
    · rw [if_pos h2, oput_some]
      by_cases h3 : (x.list.length : Int) ≤ 1024
      · rw [if_pos ⟨by omega, h3⟩, List.take_of_length_le (by omega), oputs_some]
        by_cases h4 : x.list.all fit = true
        · rw [if_pos h4, h4, oattrs_at, decide_eq_true (by omega), decide_eq_true (by omega)]
          show oframe (Option.map _ (oattrs (some []) x.attrs)) = match oattrs (some []) x.attrs with | some t => oframe (some (refBodyR x t)) | none => none
          cases oattrs (some []) x.attrs with
          | none => rfl
          | some t =>
            show oframe (some _) = oframe (some _)
            congr 2
        · rw [if_neg h4, oattrs_none]
          simp [h4, oframe]
      · rw [if_neg (by omega), oputs_none, oattrs_none]
        have : decide (x.list.length ≤ 1024) = false := decide_eq_false (by omega)
        rw [this]
        simp [oframe]
    · rw [if_neg h2, oput_none, oputs_none, oattrs_none]
      have : decide (x.data.length ≤ 65536) = false := decide_eq_false (by omega)
      rw [this]
      simp [oframe]
  · rw [if_neg h1, obytes_none, oput_none, oputs_none, oattrs_none]
    have h1' : [x.rv, x.a, x.b].all fit = false := by simpa using h1
    rw [h1']
    rfl

/-- What a reply's frame is made of. -/
structure MadeR (x : ReplyD) (f : List UInt8) : Prop where
  rv : 0 ≤ x.rv ∧ x.rv ≤ 2147483647
  a : 0 ≤ x.a ∧ x.a ≤ 2147483647
  b : 0 ≤ x.b ∧ x.b ≤ 2147483647
  d : x.data.length ≤ 65536
  l : x.list.length ≤ 1024
  li : ∀ n ∈ x.list, 0 ≤ n ∧ n ≤ 2147483647
  body : ∃ t, oattrs (some []) x.attrs = some t ∧ ∃ body, f = be body.length 4 ++ body ∧ body.length ≤ 262144 ∧
    body = be x.rv.toNat 4 ++ (be x.a.toNat 4 ++ (be x.b.toNat 4 ++ (be x.data.length 4 ++ (x.data ++ (be x.list.length 2 ++ (encI x.list ++ t))))))
theorem encR_made {x : ReplyD} {f : List UInt8} (h : encReply x = some f) : MadeR x f := by
  rw [encReply_same] at h
  unfold encRefR at h
  by_cases hok : refOkR x = true
  · rw [if_pos hok] at h
    unfold refOkR at hok
    simp only [Bool.and_eq_true, decide_eq_true_eq, List.all_cons, List.all_nil, fit_iff, Bool.and_true] at hok
    obtain ⟨⟨⟨⟨h1, h2, h3⟩, h4⟩, h5⟩, h6⟩ := hok
    cases ht : oattrs (some []) x.attrs with
    | none => rw [ht] at h; cases h
    | some t =>
      rw [ht] at h
      have h : oframe (some (refBodyR x t)) = some f := h
      obtain ⟨l0, h0, hl, hf⟩ := oframe_inv h
      injection h0 with h0
      refine ⟨h1, h2, h3, h4, h5, fun n hn => (fit_iff n).1 (List.all_eq_true.1 h6 n hn), t, ht, l0, hf, hl, ?_⟩
      rw [← h0]
      unfold refBodyR
      rw [addInts_eq, addInts_eq]
      simp [encI]
  · rw [if_neg hok] at h
    cases h

theorem rints_at (L : List Int) (hL : ∀ n ∈ L, 0 ≤ n ∧ n ≤ 2147483647) (v : List UInt8) (b : Bool) : ∀ k, k ≤ L.length → rints k (encI L ++ v, b) = (L.take k, (encI (L.drop k) ++ v, b))
  | 0, _ => by simp [rints]
  | k + 1, hk => by
    have ih := rints_at L hL v b k (by omega)
    have hlt : k < L.length := by omega
    have h1 := hL L[k] (List.getElem_mem hlt)
    have hd : L.drop k = L[k] :: L.drop (k + 1) := List.drop_eq_getElem_cons hlt
    have he : encI (L.drop k) ++ v = be L[k].toNat 4 ++ (encI (L.drop (k + 1)) ++ v) := by
      rw [hd, encI_cons]
      simp only [List.append_assoc]
    show (let q := rints k (encI L ++ v, b); (q.1 ++ [((rget q.2 4).1 : Int)], (rget q.2 4).2)) = _
    rw [ih]
    dsimp only
    rw [he, rint_at _ h1, List.take_succ_eq_append_getElem hlt]
    refine Prod.ext ?_ rfl
    show L.take k ++ [_] = L.take k ++ [_]
    rw [Int.toNat_of_nonneg h1.1]

def zeroReply : ReplyD := ⟨0, 0, 0, [], [], []⟩
def zeroRP : ReplyP := ⟨none, 0, none, 0, none, 0⟩
def parseReply (body : List UInt8) : ReplyD × (List UInt8 × Bool) :=
  let f := rget (body, false) 4
  let g := rget f.2 4
  let h := rget g.2 4
  let d := rbytes h.2 4
  let k := rget d.2 2
  let v := rints (min k.1 1025) k.2
  let a := rattrs v.2
  (⟨f.1, g.1, h.1, d.1, v.1, a.1⟩, a.2)
def okReply (body : List UInt8) : Bool := !(parseReply body).2.2 && (match encReply (parseReply body).1 with | some f => f.drop 4 == body | none => false)
def readReply (body : List UInt8) : ReplyD × Bool := if okReply body then ((parseReply body).1, true) else (zeroReply, false)
theorem parseReply_val {body : List UInt8} {f g h k : Nat × (List UInt8 × Bool)} {d : List UInt8 × (List UInt8 × Bool)} {v : List Int × (List UInt8 × Bool)} {a : List AttrD × (List UInt8 × Bool)}
    (hf : rget (body, false) 4 = f) (hg : rget f.2 4 = g) (hh : rget g.2 4 = h) (hd : rbytes h.2 4 = d) (hk : rget d.2 2 = k) (hv : rints (min k.1 1025) k.2 = v) (ha : rattrs v.2 = a) :
    parseReply body = (⟨f.1, g.1, h.1, d.1, v.1, a.1⟩, a.2) := by
  subst hf hg hh hd hk hv ha
  rfl

theorem parseR_back {x : ReplyD} {f : List UInt8} (h : MadeR x f) : parseReply (f.drop 4) = (x, ([], false)) ∧ ∃ body, f.drop 4 = body ∧ f = be body.length 4 ++ body ∧ body.length ≤ 262144 := by
  obtain ⟨t, ht, body, hf, hbl, hbody⟩ := h.body
  have hd : f.drop 4 = body := by rw [hf, List.drop_append_of_le_length (by simp [be_length]), List.drop_eq_nil_of_le (by simp [be_length])]; simp
  refine ⟨?_, body, hd, hf, hbl⟩
  rw [hd]
  have e1 := rint_at x.rv h.rv (be x.a.toNat 4 ++ (be x.b.toNat 4 ++ (be x.data.length 4 ++ (x.data ++ (be x.list.length 2 ++ (encI x.list ++ t)))))) false
  rw [← hbody] at e1
  have e2 := rint_at x.a h.a (be x.b.toNat 4 ++ (be x.data.length 4 ++ (x.data ++ (be x.list.length 2 ++ (encI x.list ++ t))))) false
  have e3 := rint_at x.b h.b (be x.data.length 4 ++ (x.data ++ (be x.list.length 2 ++ (encI x.list ++ t)))) false
  have e4 := rbytes_at x.data (be x.list.length 2 ++ (encI x.list ++ t)) 4 false (by have := h.d; omega)
  have e5 := rget_at x.list.length 2 (encI x.list ++ t) false (by have := h.l; omega)
  have e6 := rints_at x.list h.li t false x.list.length (Nat.le_refl _)
  have e7 := rattrs_at ht [] false
  rw [List.append_nil] at e7
  rw [List.take_length, List.drop_length] at e6
  have e6' : rints x.list.length (encI x.list ++ t, false) = (x.list, (t, false)) := by rw [e6]; simp [encI]
  have hm : min x.list.length 1025 = x.list.length := Nat.min_eq_left (by have := h.l; omega)
  refine (parseReply_val e1 e2 e3 e4 e5 (v := (x.list, (t, false))) (by dsimp only; rw [hm]; exact e6') e7).trans ?_
  refine Prod.ext ?_ rfl
  simp [Int.toNat_of_nonneg h.rv.1, Int.toNat_of_nonneg h.a.1, Int.toNat_of_nonneg h.b.1]

theorem readR_back {x : ReplyD} {f : List UInt8} (h : encReply x = some f) : readReply (f.drop 4) = (x, true) ∧ 4 < f.length ∧ f.length ≤ 262148 := by
  have hm := encR_made h
  obtain ⟨hp, body, hd, hf, hl⟩ := parseR_back hm
  obtain ⟨t, _, body', hf', _, hb⟩ := hm.body
  have hpos : 0 < body'.length := by rw [hb]; simp [be_length]; omega
  refine ⟨?_, by rw [hf']; simp [be_length]; omega, by rw [hf]; simp [be_length]; omega⟩
  have hok : okReply (f.drop 4) = true := by
    unfold okReply
    rw [hp]
    simp [h]
  unfold readReply
  rw [if_pos hok, hp]
theorem frameR_small {x : ReplyD} {f : List UInt8} (h : encReply x = some f) (hd : x.data.length ≤ 300) (h1 : (oattrs (some []) x.attrs).all (fun t => decide (t.length ≤ 5000)) = true) : f.length ≤ 100000 := by
  have hm := encR_made h
  obtain ⟨t, ht, body, hf, _, hb⟩ := hm.body
  rw [ht] at h1
  have h2 : t.length ≤ 5000 := by simpa using h1
  have h3 := hm.l
  have : body.length ≤ 12000 := by rw [hb]; simp [be_length, encI_len]; omega
  rw [hf]
  simp [be_length]
  omega
end Go.Proofs.Ytekblnaogncplaa
