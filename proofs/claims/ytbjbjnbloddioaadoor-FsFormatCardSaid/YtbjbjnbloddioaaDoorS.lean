/- A region that draws its order, walked in one order: plain theorems over any program. -/
import Derived.Test.YtbjbjnbloddioaaDoorR
import Derived.Deep.DrawnRows
set_option linter.unusedVariables false
set_option linter.unusedSimpArgs false
namespace Go.Proofs.YtbjbjnbloddioaaDoor
open Go.RowKit

section
variable {P : Program} {ops : Array Oper} {Q : Exit → Act → World → Prop} {md : Region.Mode} {T : Nat → Bool}

/-- Whatever order is picked; behind each operation but those of T what was there is as it was. -/
def wpO (P : Program) (md : Region.Mode) (ops : Array Oper) (Q : Exit → Act → World → Prop) (T : Nat → Bool) : Nat → Array Bool → Act → World → Prop
  | 0, listed, a, w => Region.ready md ops listed = [] ∧ Q .normal a w
  | f + 1, listed, a, w => (Region.ready md ops listed = [] → Q .normal a w) ∧
    ∀ i ∈ Region.ready md ops listed, wpOp P ops Q i (fun a' w' => (T i = false → Old w w') ∧ wpO P md ops Q T f (listed.setIfInBounds i true) a' w') a w

theorem wpAny_of_O : ∀ (f : Nat) (listed : Array Bool) (a : Act) (w : World), wpO P md ops Q T f listed a w → wpAny P md ops Q f listed a w
  | 0, _, _, _, h => h
  | f + 1, _, _, _, h => ⟨h.1, fun i hi => wpOp_mono (fun a' w' h' => wpAny_of_O f _ a' w' h'.2) (h.2 i hi)⟩

/-- The walk stands still here. -/
structure Stop (p : Prop) : Prop where mk :: (out : p)

/-- In every later world. -/
def Later (b : Bool) (w : World) : World → Prop := fun w' => b = true → Old w w'

/-- What has come up has come up behind all that it waits for. -/
def Closed (md : Region.Mode) (ops : Array Oper) (listed : Array Bool) : Prop :=
  ∀ j oj, ops[j]? = some oj → listed.getD j false = true → ∀ e ∈ oj.after, Region.binds md e = true → listed.getD e.on false = true
theorem Closed.start (n : Nat) : Closed md ops (Array.replicate n false) := fun j oj hj h => by
  exfalso
  rcases Nat.lt_or_ge j n with h' | h'
  · simp [h'] at h
  · simp [h'] at h
theorem Closed.step {listed : Array Bool} {j : Nat} (h : Closed md ops listed) (hj : j ∈ Region.ready md ops listed) : Closed md ops (listed.setIfInBounds j true) := fun k ok hk hl e he hb => by
  obtain ⟨_, oj, hoj, hall⟩ := mem_ready.1 hj
  by_cases hjk : j = k
  · subst hjk
    have : ok = oj := Option.some.inj (hk.symm.trans hoj)
    subst this
    exact getD_set_true (hall e he hb)
  · rw [getD_set_ne false hjk] at hl
    exact getD_set_true (h k ok hk hl e he hb)
/-- t waits for i, in so many steps. -/
def reaches (md : Region.Mode) (ops : Array Oper) : Nat → Nat → Nat → Bool
  | 0, _, _ => false
  | f + 1, t, i => match ops[t]? with
    | none => false
    | some ot => ot.after.any fun e => Region.binds md e && (e.on == i || reaches md ops f e.on i)
theorem reaches_listed {listed : Array Bool} (hc : Closed md ops listed) : ∀ (f t i : Nat), reaches md ops f t i = true → (∀ ot, ops[t]? = some ot → ∀ e ∈ ot.after, Region.binds md e = true → listed.getD e.on false = true) → listed.getD i false = true
  | 0, _, _, h, _ => by simp [reaches] at h
  | f + 1, t, i, h, hall => by
    unfold reaches at h
    cases ht : ops[t]? with
    | none => simp [ht] at h
    | some ot =>
      simp only [ht] at h
      obtain ⟨e, he, hb⟩ := Array.any_eq_true'.1 h
      simp only [Bool.and_eq_true, Bool.or_eq_true, beq_iff_eq] at hb
      have hl := hall ot ht e he hb.1
      rcases hb.2 with h2 | h2
      · rw [← h2]; exact hl
      · exact reaches_listed hc f e.on i h2 (fun o2 ho2 e2 he2 hb2 => hc _ _ ho2 hl e2 he2 hb2)

theorem wpO_first {i : Nat} {oi : Oper} {v : Value} (hi : ops[i]? = some oi) (hsel : ∀ (j : Nat) (o : Oper) cs b, ops[j]? = some o → o.op ≠ .select cs b)
    (hQ : ∀ c a w, Q (.panic c) (a.put oi.dst v) w → Q (.panic c) a w) :
    ∀ (f : Nat) (listed : Array Bool) (a : Act) (w : World),
      (isLoad oi = true → ∀ (t : Nat) (ot : Oper), T t = true → listed.getD t true = false → ops[t]? = some ot → reaches md ops ops.size t i = true) → Closed md ops listed →
      (∀ j oj, ops[j]? = some oj → j ≠ i → listed.getD j true = false → (∀ e ∈ oj.after, Region.binds md e = true → e.on ≠ i) → oi.apart ops oj = true) →
      i ∈ Region.ready md ops listed → YieldsIf P ops (Later (isLoad oi) w) oi v a →
      wpO P md ops Q T f (listed.setIfInBounds i true) (a.put oi.dst v) w → wpO P md ops Q T (f + 1) listed a w := by
  intro f
  induction f with
  | zero =>
    intro listed a w hT hcl _ hr hy H
    refine ⟨fun h => (by rw [h] at hr; cases hr), fun j hj => ?_⟩
    by_cases hji : j = i
    · subst hji; exact hy.wpOp hi (fun _ => Old.refl w) ⟨fun _ => Old.refl w, H⟩
    · have := ready_mono hj hji
      rw [H.1] at this
      cases this
  | succ f ih =>
    intro listed a w hT hcl hfree hr hy H
    refine ⟨fun h => (by rw [h] at hr; cases hr), fun j hj => ?_⟩
    by_cases hji : j = i
    · subst hji; exact hy.wpOp hi (fun _ => Old.refl w) ⟨fun _ => Old.refl w, H⟩
    · have h1 := H.2 j (ready_mono hj hji)
      obtain ⟨hjun, oj, hoj, hall⟩ := mem_ready.1 hj
      have hnot : ∀ e ∈ oj.after, Region.binds md e = true → e.on ≠ i := fun e he hb heq => by
        have h1 := hall e he hb
        have h0 := (mem_ready.1 hr).1
        rw [heq] at h1
        rcases Nat.lt_or_ge i listed.size with h' | h'
        · simp [h'] at h0 h1; rw [h0] at h1; cases h1
        · simp [Array.getElem?_eq_none h'] at h1
      have hTj : isLoad oi = true → T j = false := fun hl => by
        cases ht : T j with
        | false => rfl
        | true =>
          have h5 := reaches_listed hcl _ _ _ (hT hl j oj ht hjun hoj) (fun ot hot e he hb => by
            have : ot = oj := Option.some.inj (hot.symm.trans hoj)
            subst this
            exact hall e he hb)
          have h0 := (mem_ready.1 hr).1
          rcases Nat.lt_or_ge i listed.size with h' | h'
          · simp [h'] at h0 h5; rw [h0] at h5; cases h5
          · simp [Array.getElem?_eq_none h'] at h5
      have h2 := wpOp_putIf hoj (hfree j oj hoj hji hjun hnot) (fun cs b => hsel i oi cs b hi) (fun cs b => hsel j oj cs b hoj) hQ hy h1
      have hfree' : ∀ k ok, ops[k]? = some ok → k ≠ i → (listed.setIfInBounds j true).getD k true = false →
          (∀ e ∈ ok.after, Region.binds md e = true → e.on ≠ i) → oi.apart ops ok = true := fun k ok hk hki hun hno => by
        refine hfree k ok hk hki ?_ hno
        by_cases hjk : j = k
        · subst hjk; exact hjun
        · rw [getD_set_ne true hjk] at hun; exact hun
      have hT' : isLoad oi = true → ∀ (t : Nat) (ot : Oper), T t = true → (listed.setIfInBounds j true).getD t true = false → ops[t]? = some ot → reaches md ops ops.size t i = true := fun hl t ot ht hun hot => by
        refine hT hl t ot ht ?_ hot
        by_cases hjt : j = t
        · subst hjt; exact hjun
        · rw [getD_set_ne true hjt] at hun; exact hun
      refine wpOp_mono (fun a' w' h3 => ⟨h3.2.1, ih (listed.setIfInBounds j true) a' w' hT' (hcl.step hj) hfree' (ready_mono hr (Ne.symm hji)) ?_ ?_⟩) h2
      · rcases h3.1 with ⟨hw, hv⟩ | h
        · exact .inl ⟨hw, fun w2 h4 => hv w2 fun hl => (h3.2.1 (hTj hl)).trans (h4 hl)⟩
        · exact .inr h
      · rw [Array.setIfInBounds_comm _ _ hji]
        exact h3.2.2

/-! ### what a list of operations comes to -/
/-- Behind a list: nothing but its end. -/
def Fin (K : Act → World → Prop) : Exit → Act → World → Prop
  | .normal, a, w => K a w
  | _, _, _ => False
theorem Fin.intro {K : Act → World → Prop} {a : Act} {w : World} (h : K a w) : Fin K .normal a w := h
theorem Fin.out (K : Act → World → Prop) : ¬ LetsOut (Fin K) := fun ⟨_, _, h⟩ => h

theorem wpList_end {K : Act → World → Prop} : ∀ (l : List Oper) (a : Act) (w : World), wpList P ops (Fin K) l a w →
    ∃ a' w', K a' w' ∧ ∀ t, (∀ o ∈ l, o.dst ≠ some t) → a'.tmps[t]? = a.tmps[t]?
  | [], a, w, h => ⟨a, w, h, fun _ _ => rfl⟩
  | o :: l, a, w, h => by
    have put : ∀ (v : Value) (a1 : Act), a1.tmps = a.tmps → ∀ w', wpList P ops (Fin K) l (a1.put o.dst v) w' →
        ∃ a' w', K a' w' ∧ ∀ t, (∀ o' ∈ o :: l, o'.dst ≠ some t) → a'.tmps[t]? = a.tmps[t]? := fun v a1 ha1 w' h' => by
      obtain ⟨a', w2, hk, hp⟩ := wpList_end l _ _ h'
      refine ⟨a', w2, hk, fun t ht => (hp t fun o' ho' => ht o' (List.mem_cons_of_mem _ ho')).trans ?_⟩
      have hd := ht o List.mem_cons_self
      cases hdst : o.dst with
      | none => simp [Act.put, ha1]
      | some d =>
        have : d ≠ t := fun e => hd (by rw [hdst, e])
        simp [Act.put, ha1, Array.getElem?_setIfInBounds_ne this]
    unfold wpList at h
    split at h
    · rcases h with h | ⟨_, h⟩
      · unfold Oper.wp at h
        generalize (execOp a.eval o).run P w = r at h
        cases r with
        | halt x w' => cases x <;> exact absurd h (by simp [Oper.upon, Fin])
        | ok n w' =>
          cases n <;> simp only [Oper.upon] at h
          case value v => exact put v a rfl _ h
          case skip => exact put undef a rfl _ h
          case defer d => exact put undef { a with defers := d :: a.defers } rfl _ h
          case enter f args =>
            obtain ⟨e, w2, fr, hR, _⟩ := h []
            cases e with
            | returned v => exact put v a rfl _ hR
            | panicked c => exact absurd hR (by simp [Fin])
            | outgrown => exact absurd hR (Fin.out K)
          case row row args =>
            obtain ⟨v, w2, hR, _⟩ := h default []
            exact put v a rfl _ hR
      · exact absurd h (Fin.out K)
    · exact put undef a rfl _ h

theorem Oper.wp_fin {o : Oper} {a : Act} {w : World} {K K' K2 : Act → World → Prop} (h : ∀ a w, K a w → K2 a w) (hh : o.wp P a w K (Fin K')) : o.wp P a w K2 Q := by
  unfold Oper.wp at *
  generalize (execOp a.eval o).run P w = r at *
  cases r with
  | ok n w' =>
    cases n <;> simp only [Oper.upon] at hh ⊢
    case value v => exact h _ _ hh
    case skip => exact h _ _ hh
    case defer d => exact h _ _ hh
    case enter f args => exact Calls.mono hh (fun e w'' he => by
      cases e with
      | returned v => exact h _ _ he
      | panicked c => exact absurd he (by simp [Fin])
      | outgrown => exact absurd he (Fin.out K'))
    case row row args => exact Rows.mono hh (fun _ _ he => h _ _ he)
  | halt x w' => cases x <;> first | exact absurd hh (by simp [Oper.upon, Fin]) | exact hh

theorem wpList_fin_mono {K K' : Act → World → Prop} (hk : ∀ a w, K a w → K' a w) : ∀ (l : List Oper) (a : Act) (w : World), wpList P ops (Fin K) l a w → wpList P ops (Fin K') l a w
  | [], a, w, h => hk a w h
  | o :: l, a, w, h => by
    unfold wpList at h ⊢
    split at h
    · rename_i hw
      rw [if_pos hw]
      exact .inl (Oper.wp_fin (fun a w h => wpList_fin_mono hk l a w h) (h.resolve_right fun h => Fin.out _ h.2))
    · rename_i hw
      rw [if_neg hw]
      exact wpList_fin_mono hk l _ _ h

/-! ### the segments -/
theorem val_of {e : Sem Value} {w w1 : World} {n : Next} (h : (e >>= fun a => Pure.pure (Next.value a)).run P w = .ok n w1) : ∃ v, n = .value v := by
  simp only [Sem.run_bind] at h
  cases hr : e.run P w with
  | halt x w2 => simp [hr, Result.andThen] at h
  | ok a w2 =>
    simp only [hr, Result.andThen_ok, Sem.run_pure, Result.ok.injEq] at h
    exact ⟨a, h.1.symm⟩
theorem calm_value {ρ : Operand → Value} {o : Oper} {w w1 : World} {n : Next} (h : calm P ρ o = true) (hr : (execOp ρ o).run P w = .ok n w1) : ∃ v, n = .value v := by
  obtain ⟨dst, op, type, pos, after, guard⟩ := o
  unfold execOp at hr
  unfold calm at h
  cases op <;> dsimp only at h hr <;> first
    | (cases h; done)
    | exact val_of hr
    | (simp only [Sem.run_pure, Result.ok.injEq] at hr; exact ⟨_, hr.1.symm⟩)
    | skip
  case pick c a b =>
    cases hc : ρ c <;> simp only [hc] at h hr <;> try (cases h; done)
    injection hr with h1 h2
    exact ⟨_, h1.symm⟩
  case nilCheck x =>
    cases hc : ρ x <;> simp only [hc] at h hr <;> try (cases h; done)
    rename_i a
    cases a
    · cases h
    · injection hr with h1 h2
      exact ⟨_, h1.symm⟩
  case call c =>
    obtain ⟨callee, args, argTypes⟩ := c
    cases callee <;> dsimp only at h <;> try (cases h; done)
    rename_i b
    cases b <;> try (cases h; done)
    exact val_of (e := Builtin.len_ argTypes type (args.map ρ)) hr

theorem calm_congr {ρ ρ' : Operand → Value} {o : Oper} (h : ∀ x ∈ o.op.operands, ρ x = ρ' x) : calm P ρ o = calm P ρ' o := by
  obtain ⟨dst, op, type, pos, after, guard⟩ := o
  unfold calm
  cases op <;> simp only [Op.operands] at h <;> dsimp only <;> try rfl
  case pick c a b => rw [h c (by simp)]
  case nilCheck x => rw [h x (by simp)]
  case binOp op t x y yt => rw [h x (by simp), h y (by simp)]
  case unOp op t x => rw [h x (by simp)]
  case convert s d x => rw [h x (by simp)]
  case call c =>
    have e : c.args.toList.map ρ = c.args.toList.map ρ' := List.map_congr_left fun x hx => h x (by simp [Call.operands]; exact .inr (Array.mem_toList_iff.1 hx))
    rw [e]

/-- Operations that may be quiet. -/
def quiet (o : Oper) : Bool :=
  match o.op with
  | .move _ | .assign _ | .extract _ _ | .load _ _ | .indexAddr _ _ _ | .index _ _ _ | .field _ _ _ | .slice _ _ _ _ _ | .makeInterface _ _ => true
  | .pick _ _ _ | .nilCheck _ | .fieldAddr _ _ _ | .binOp _ _ _ _ _ | .unOp _ _ _ | .convert _ _ _ => true
  | .call c => match c.callee with | .builtin .len => true | _ => false
  | _ => false

/-- Were they, the frame being this? -/
def calmAll (P : Program) (ops : Array Oper) (s : List Nat) (a : Act) : Bool :=
  s.all fun i => match ops[i]? with
    | some o => !quiet o || !Region.wanted o (yielded ops a.tmps) || calm P a.eval o
    | none => true

def pick (ops : Array Oper) (s : List Nat) : List Oper := s.filterMap (ops[·]?)

theorem pick_nil {ops : Array Oper} : pick ops [] = [] := rfl
theorem pick_cons {ops : Array Oper} (i : Nat) (s : List Nat) : pick ops (i :: s) = (ops[i]?).toList ++ pick ops s := by
  unfold pick
  rw [List.filterMap_cons]
  cases ops[i]? <;> rfl

/-- One order, cut behind each operation that makes memory while others may yet come up. -/
def Seg (P : Program) (ops : Array Oper) (Q : Exit → Act → World → Prop) : List (List Nat) → Act → World → Prop
  | [], a, w => Q .normal a w
  | [s], a, w => wpList P ops (Fin fun a' w' => calmAll P ops s a' = true ∧ Q .normal a' w') (pick ops s) a w
  | s :: t :: rest, a, w => wpList P ops (Fin fun a' w' => calmAll P ops s a' = true ∧ Old w w' ∧ Seg P ops Q (t :: rest) a' w') (pick ops s) a w

/-- May this order be walked for all? -/
def chk (md : Region.Mode) (ops : Array Oper) (T : List Nat) (last : Bool) : List Nat → Array Bool → Bool
  | [], _ => true
  | i :: s, listed => (match ops[i]? with
    | none => false
    | some o =>
      (if quiet o then
        (Region.ready md ops listed).contains i && Region.free md ops listed i &&
        (!isLoad o || T.all fun t => listed.getD t true || reaches md ops ops.size t i) &&
        (o.looksAt ops).all fun t => ((o :: pick ops s).all fun o' => o'.dst != some t)
      else
        (Region.ready md ops listed == [i]) && (if last then T.contains i else (s.isEmpty && !T.contains i)))) && chk md ops T last s (listed.setIfInBounds i true)

def listAll (s : List Nat) (listed : Array Bool) : Array Bool := s.foldl (fun l i => l.setIfInBounds i true) listed

theorem eval_same {a a' : Act} {o : Oper} (h : ∀ t ∈ o.looksAt ops, a'.tmps[t]? = a.tmps[t]?) : ∀ x ∈ o.op.operands, a'.eval x = a.eval x := by
  intro x hx
  cases x with
  | tmp t =>
    have ht : t ∈ o.looksAt ops := List.mem_append_left _ (List.mem_filterMap.2 ⟨.tmp t, by simpa using hx, rfl⟩)
    simp [Act.eval, Array.getD_eq_getD_getElem?, h t ht]
  | const v => rfl
  | global g => rfl
  | func f => rfl
theorem wanted_same {a a' : Act} {o : Oper} (h : ∀ t ∈ o.looksAt ops, a'.tmps[t]? = a.tmps[t]?) : Region.wanted o (yielded ops a'.tmps) = Region.wanted o (yielded ops a.tmps) := by
  unfold Region.wanted
  cases hg : o.guard with
  | none => rfl
  | some gw =>
    obtain ⟨g, want⟩ := gw
    have hy : yielded ops a'.tmps g = yielded ops a.tmps g := by
      unfold yielded
      cases ht : (ops[g]?).bind (·.dst) with
      | none => rfl
      | some t =>
        have := h t (by simp [Oper.looksAt, hg, ht])
        simp [Array.getD_eq_getD_getElem?, this]
    simp only [hy]

theorem walk_seg (hs : Region.noSelect ops = true) (hQ : ∀ c a d v w, Q (.panic c) (Act.put a d v) w → Q (.panic c) a w) {Tl : List Nat} {last : Bool} {sAll : List Nat} {C : Act → World → Prop} {f : Nat} :
    ∀ (s : List Nat) (listed : Array Bool) (a : Act) (w : World), chk md ops Tl last s listed = true → Closed md ops listed → (∀ i ∈ s, i ∈ sAll) →
      wpList P ops (Fin fun a' w' => calmAll P ops sAll a' = true ∧ C a' w') (pick ops s) a w →
      (∀ a' w', C a' w' → (last = false → Old w w') ∧ wpO P md ops Q (fun i => Tl.contains i) f (listAll s listed) a' w') →
      wpO P md ops Q (fun i => Tl.contains i) (s.length + f) listed a w := by
  intro s
  induction s with
  | nil =>
    intro listed a w _ _ _ h hC
    simp only [List.length_nil, Nat.zero_add]
    exact (hC a w h.2).2
  | cons i s ih =>
    intro listed a w hc hcl hin h hC
    unfold chk at hc
    cases ho : ops[i]? with
    | none => simp [ho] at hc
    | some o =>
      simp only [ho, Bool.and_eq_true] at hc
      obtain ⟨hc1, hc2⟩ := hc
      have hp : pick ops (i :: s) = o :: pick ops s := by simp [pick, ho]
      rw [hp] at h
      have hfuel : (i :: s).length + f = (s.length + f) + 1 := by simp; omega
      rw [hfuel]
      have hin' : ∀ j ∈ s, j ∈ sAll := fun j hj => hin j (List.mem_cons_of_mem _ hj)
      by_cases hq : quiet o = true
      · rw [if_pos hq] at hc1
        simp only [Bool.and_eq_true] at hc1
        obtain ⟨⟨⟨hr, hfr⟩, hl⟩, hdst⟩ := hc1
        obtain ⟨a', w', hk, hpres⟩ := wpList_end _ _ _ h
        have hlook : ∀ t ∈ o.looksAt ops, a'.tmps[t]? = a.tmps[t]? := fun t ht => hpres t fun o' ho' => by
          have := List.all_eq_true.1 (List.all_eq_true.1 hdst t ht) o' ho'
          simpa using this
        have hcalm := List.all_eq_true.1 hk.1 i (hin i List.mem_cons_self)
        simp only [ho, hq, Bool.not_true, Bool.false_or] at hcalm
        rw [wanted_same hlook, calm_congr (eval_same hlook)] at hcalm
        have hT : isLoad o = true → ∀ (t : Nat) (ot : Oper), Tl.contains t = true → listed.getD t true = false → ops[t]? = some ot → reaches md ops ops.size t i = true := fun hlo t ot ht hun hot => by
          simp only [hlo, Bool.not_true, Bool.false_or] at hl
          have := List.all_eq_true.1 hl t (by simpa using ht)
          simpa only [hun, Bool.false_or] using this
        by_cases hw : Region.wanted o (yielded ops a.tmps) = true
        · simp only [hw, Bool.not_true, Bool.false_or] at hcalm
          unfold wpList at h
          rw [if_pos hw] at h
          have h := h.resolve_right fun h => Fin.out _ h.2
          unfold Oper.wp at h
          have hst : ∀ v w1, (execOp a.eval o).run P w = .ok v w1 → w1 = w ∧ ∀ w', Later (isLoad o) w w' → (execOp a.eval o).run P w' = .ok v w' :=
            Stab.calm (R := fun w w' => Later (isLoad o) w w') (fun hlo w w' h => h hlo) hcalm w
          cases hrun : (execOp a.eval o).run P w with
          | halt x w1 => rw [hrun] at h; cases x <;> exact absurd h (by simp [Oper.upon, Fin])
          | ok n w1 =>
            obtain ⟨v, rfl⟩ := calm_value hcalm hrun
            obtain ⟨rfl, hlater⟩ := hst _ _ hrun
            rw [hrun] at h
            simp only [Oper.upon] at h
            refine wpO_first ho (Region.noSelect_spec hs) (fun c a' w' => hQ c a' o.dst v w') _ _ _ _ hT hcl (Region.free_spec ho hfr) (by simpa using hr) (.inl ⟨hw, hlater⟩) ?_
            exact ih _ _ _ hc2 (hcl.step (by simpa using hr)) hin' h hC
        · have hw : Region.wanted o (yielded ops a.tmps) = false := by simpa using hw
          unfold wpList at h
          rw [if_neg (by simp [hw])] at h
          refine wpO_first ho (Region.noSelect_spec hs) (fun c a' w' => hQ c a' o.dst undef w') _ _ _ _ hT hcl (Region.free_spec ho hfr) (by simpa using hr) (.inr ⟨hw, rfl⟩) ?_
          exact ih _ _ _ hc2 (hcl.step (by simpa using hr)) hin' h hC
      · rw [if_neg hq] at hc1
        simp only [Bool.and_eq_true, beq_iff_eq] at hc1
        obtain ⟨hr, hlast⟩ := hc1
        refine ⟨fun h0 => (by rw [h0] at hr; cases hr), fun j hj => ?_⟩
        rw [hr] at hj
        obtain rfl : j = i := by simpa using hj
        have key : ∀ a' w', wpList P ops (Fin fun a' w' => calmAll P ops sAll a' = true ∧ C a' w') (pick ops s) a' w' →
            (Tl.contains j = false → Old w w') ∧ wpO P md ops Q (fun i => Tl.contains i) (s.length + f) (listed.setIfInBounds j true) a' w' := fun a' w' h' => by
          cases last with
          | true =>
            simp only [if_true] at hlast
            refine ⟨fun h0 => ?_, ih _ _ _ hc2 (hcl.step (by rw [hr]; simp)) hin' h' (fun a2 w2 hC2 => ⟨fun h => ?_, (hC a2 w2 hC2).2⟩)⟩
            · rw [hlast] at h0; cases h0
            · cases h
          | false =>
            simp only [Bool.false_eq_true, if_false, Bool.and_eq_true, List.isEmpty_iff] at hlast
            obtain ⟨rfl, _⟩ := hlast
            have hk : C a' w' := h'.2
            exact ⟨fun _ => (hC a' w' hk).1 rfl, by simpa [listAll] using (hC a' w' hk).2⟩
        unfold wpList at h
        unfold wpOp
        simp only [ho]
        split at h
        · rename_i hw
          rw [if_pos hw]
          exact .inl (Oper.wp_fin key (h.resolve_right fun h => Fin.out _ h.2))
        · rename_i hw
          rw [if_neg hw]
          exact key _ _ h

/-- The static side of an order: kernel's work. -/
def chkAll (md : Region.Mode) (ops : Array Oper) (T : List Nat) : List (List Nat) → Array Bool → Bool
  | [], listed => (Region.ready md ops listed).isEmpty
  | [s], listed => chk md ops T true s listed && (Region.ready md ops (listAll s listed)).isEmpty
  | s :: t :: rest, listed => chk md ops T false s listed && chkAll md ops T (t :: rest) (listAll s listed)
def chkRegion (ops : Array Oper) (T : List Nat) (segs : List (List Nat)) : Bool :=
  Region.noSelect ops && chkAll .any ops T segs (Array.replicate ops.size false) && (segs.flatten.length == ops.size)

theorem chk_closed {Tl : List Nat} {last : Bool} : ∀ (s : List Nat) (listed : Array Bool), chk md ops Tl last s listed = true → Closed md ops listed → Closed md ops (listAll s listed)
  | [], _, _, h => h
  | i :: s, listed, hc, h => by
    unfold chk at hc
    cases ho : ops[i]? with
    | none => simp [ho] at hc
    | some o =>
      simp only [ho, Bool.and_eq_true] at hc
      have hr : i ∈ Region.ready md ops listed := by
        by_cases hq : quiet o = true
        · rw [if_pos hq] at hc
          simp only [Bool.and_eq_true] at hc
          simpa using hc.1.1.1.1
        · rw [if_neg hq] at hc
          simp only [Bool.and_eq_true, beq_iff_eq] at hc
          rw [hc.1.1]; simp
      exact chk_closed s _ hc.2 (h.step hr)

theorem walk_segs (hs : Region.noSelect ops = true) (hQ : ∀ c a d v w, Q (.panic c) (Act.put a d v) w → Q (.panic c) a w) {Tl : List Nat} :
    ∀ (segs : List (List Nat)) (listed : Array Bool) (a : Act) (w : World), chkAll md ops Tl segs listed = true → Closed md ops listed → Seg P ops Q segs a w →
      wpO P md ops Q (fun i => Tl.contains i) segs.flatten.length listed a w
  | [], listed, a, w, hc, hcl, h => by
    refine ⟨?_, h⟩
    simpa [chkAll] using hc
  | [s], listed, a, w, hc, hcl, h => by
    unfold chkAll at hc
    simp only [Bool.and_eq_true, List.isEmpty_iff] at hc
    have := walk_seg hs hQ (f := 0) s listed a w hc.1 hcl (fun _ h => h) h (fun a' w' hC => ⟨fun h => (by cases h), hc.2, hC⟩)
    simpa using this
  | s :: t :: rest, listed, a, w, hc, hcl, h => by
    unfold chkAll at hc
    simp only [Bool.and_eq_true] at hc
    have := walk_seg hs hQ (f := (t :: rest).flatten.length) s listed a w hc.1 hcl (fun _ h => h) h (fun a' w' hC => ⟨fun _ => hC.1, walk_segs hs hQ (t :: rest) _ a' w' hc.2 (chk_closed s listed hc.1 hcl) hC.2⟩)
    simpa using this

theorem Seg.fin : ∀ (segs : List (List Nat)) (a : Act) (w : World), Seg P ops Q segs a w → Seg P ops (Fin fun a w => Q .normal a w) segs a w
  | [], _, _, h => h
  | [s], _, _, h => h
  | s :: t :: rest, a, w, h => by
    unfold Seg at h ⊢
    refine wpList_fin_mono (fun a' w' h' => ⟨h'.1, h'.2.1, Seg.fin (t :: rest) a' w' h'.2.2⟩) _ _ _ h

/-- **A region that draws its order, walked in one order.** T: the operations that write what the others read, all in the last segment. -/
theorem wp_region_seg {id : Nat} {a : Act} {w : World} (T : List Nat) (segs : List (List Nat)) (hm : P.follows .mixedOrders = true)
    (hc : chkRegion ops T segs = true) (h : Seg P ops Q segs a w.drew) : (Code.region id ops true).wp P Q a w := by
  unfold chkRegion at hc
  simp only [Bool.and_eq_true, beq_iff_eq] at hc
  refine Code.wp_mono (Q := Fin fun a w => Q .normal a w) (fun e a w h => by cases e <;> first | exact h | exact (h : False).elim) ?_
  refine wp_region_any hm (wpAny_of_O (T := fun i => T.contains i) _ _ _ _ ?_)
  have := walk_segs (P := P) hc.1.1 (fun _ _ _ _ _ h => (h : False).elim) segs _ a _ hc.1.2 (Closed.start _) (Seg.fin segs a _ h)
  rw [hc.2] at this
  exact this
end
#print axioms wp_region_seg
end Go.Proofs.YtbjbjnbloddioaaDoor
