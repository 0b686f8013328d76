/- A region that draws its order, walked in one order, where what is written meanwhile is apart from what is read. -/
import Derived.Test.YtbjbjnbloddioaaDoorS
set_option linter.unusedVariables false
set_option linter.unusedSimpArgs false
namespace Go.Proofs.YtbjbjnbloddioaaDoor.KK
open Go.RowKit

/-- A relation that stands at rest, and goes on. -/
structure Rel (O : World → World → Prop) : Prop where
  refl : ∀ w, O w w
  trans : ∀ {a b c}, O a b → O b c → O a c

section
variable {P : Program} {ops : Array Oper} {Q : Exit → Act → World → Prop} {md : Region.Mode} {T : Nat → Bool} {O : World → World → Prop}

def Later (O : World → World → Prop) (b : Bool) (w : World) : World → Prop := fun w' => b = true → O w w'
/-- The loads tell the same. -/
def loadsOK (O : World → World → Prop) (P : Program) (ops : Array Oper) (s : List Nat) (a : Act) : Prop :=
  ∀ i ∈ s, ∀ o, ops[i]? = some o → isLoad o = true → Stab O P (execOp a.eval o)
/-- One order, cut behind each operation that makes memory while others may yet come up. -/
def Seg (O : World → World → Prop) (P : Program) (ops : Array Oper) (Q : Exit → Act → World → Prop) : List (List Nat) → Act → World → Prop
  | [], a, w => Q .normal a w
  | [s], a, w => wpList P ops (Fin fun a' w' => (calmAll P ops s a' = true ∧ loadsOK O P ops s a') ∧ Q .normal a' w') (pick ops s) a w
  | s :: t :: rest, a, w => wpList P ops (Fin fun a' w' => (calmAll P ops s a' = true ∧ loadsOK O P ops s a') ∧ O w w' ∧ Seg O P ops Q (t :: rest) a' w') (pick ops s) a w
theorem load_congr {ρ ρ' : Operand → Value} {o : Oper} (hl : isLoad o = true) (h : ∀ x ∈ o.op.operands, ρ x = ρ' x) : execOp ρ o = execOp ρ' o := by
  obtain ⟨dst, op, type, pos, after, guard⟩ := o
  cases op <;> simp [isLoad] at hl
  rename_i t x
  have := h x (by simp [Op.operands])
  simp [execOp, this]
/-- Whatever order is picked; behind each operation but those of T what was there is as it was. -/
def wpO (O : World → World → Prop) (P : Program) (md : Region.Mode) (ops : Array Oper) (Q : Exit → Act → World → Prop) (T : Nat → Bool) : Nat → Array Bool → Act → World → Prop
  | 0, listed, a, w => Region.ready md ops listed = [] ∧ Q .normal a w
  | f + 1, listed, a, w => (Region.ready md ops listed = [] → Q .normal a w) ∧
    ∀ i ∈ Region.ready md ops listed, wpOp P ops Q i (fun a' w' => (T i = false → O w w') ∧ wpO O P md ops Q T f (listed.setIfInBounds i true) a' w') a w

theorem wpAny_of_O : ∀ (f : Nat) (listed : Array Bool) (a : Act) (w : World), wpO O P md ops Q T f listed a w → wpAny P md ops Q f listed a w
  | 0, _, _, _, h => h
  | f + 1, _, _, _, h => ⟨h.1, fun i hi => wpOp_mono (fun a' w' h' => wpAny_of_O f _ a' w' h'.2) (h.2 i hi)⟩

theorem wpO_first (hO : Rel O) {i : Nat} {oi : Oper} {v : Value} (hi : ops[i]? = some oi) (hsel : ∀ (j : Nat) (o : Oper) cs b, ops[j]? = some o → o.op ≠ .select cs b)
    (hQ : ∀ c a w, Q (.panic c) (a.put oi.dst v) w → Q (.panic c) a w) :
    ∀ (f : Nat) (listed : Array Bool) (a : Act) (w : World),
      (isLoad oi = true → ∀ (t : Nat) (ot : Oper), T t = true → listed.getD t true = false → ops[t]? = some ot → reaches md ops ops.size t i = true) → Closed md ops listed →
      (∀ j oj, ops[j]? = some oj → j ≠ i → listed.getD j true = false → (∀ e ∈ oj.after, Region.binds md e = true → e.on ≠ i) → oi.apart ops oj = true) →
      i ∈ Region.ready md ops listed → YieldsIf P ops (Later O (isLoad oi) w) oi v a →
      wpO O P md ops Q T f (listed.setIfInBounds i true) (a.put oi.dst v) w → wpO O P md ops Q T (f + 1) listed a w := by
  intro f
  induction f with
  | zero =>
    intro listed a w hT hcl _ hr hy H
    refine ⟨fun h => (by rw [h] at hr; cases hr), fun j hj => ?_⟩
    by_cases hji : j = i
    · subst hji; exact hy.wpOp hi (fun _ => hO.refl w) ⟨fun _ => hO.refl w, H⟩
    · have := ready_mono hj hji
      rw [H.1] at this
      cases this
  | succ f ih =>
    intro listed a w hT hcl hfree hr hy H
    refine ⟨fun h => (by rw [h] at hr; cases hr), fun j hj => ?_⟩
    by_cases hji : j = i
    · subst hji; exact hy.wpOp hi (fun _ => hO.refl w) ⟨fun _ => hO.refl w, H⟩
    · have h1 := H.2 j (ready_mono hj hji)
      obtain ⟨hjun, oj, hoj, hall⟩ := mem_ready.1 hj
      have hnot : ∀ e ∈ oj.after, Region.binds md e = true → e.on ≠ i := fun e he hb heq => by
        have h1 := hall e he hb
        have h0 := (mem_ready.1 hr).1
        rw [heq] at h1
        rcases Nat.lt_or_ge i listed.size with h' | h'
        · simp [h'] at h0 h1; rw [h0] at h1; cases h1
        · simp [Array.getElem?_eq_none h'] at h1
      have hTj : isLoad oi = true → T j = false := fun hl => by
        cases ht : T j with
        | false => rfl
        | true =>
          have h5 := reaches_listed hcl _ _ _ (hT hl j oj ht hjun hoj) (fun ot hot e he hb => by
            have : ot = oj := Option.some.inj (hot.symm.trans hoj)
            subst this
            exact hall e he hb)
          have h0 := (mem_ready.1 hr).1
          rcases Nat.lt_or_ge i listed.size with h' | h'
          · simp [h'] at h0 h5; rw [h0] at h5; cases h5
          · simp [Array.getElem?_eq_none h'] at h5
      have h2 := wpOp_putIf hoj (hfree j oj hoj hji hjun hnot) (fun cs b => hsel i oi cs b hi) (fun cs b => hsel j oj cs b hoj) hQ hy h1
      have hfree' : ∀ k ok, ops[k]? = some ok → k ≠ i → (listed.setIfInBounds j true).getD k true = false →
          (∀ e ∈ ok.after, Region.binds md e = true → e.on ≠ i) → oi.apart ops ok = true := fun k ok hk hki hun hno => by
        refine hfree k ok hk hki ?_ hno
        by_cases hjk : j = k
        · subst hjk; exact hjun
        · rw [getD_set_ne true hjk] at hun; exact hun
      have hT' : isLoad oi = true → ∀ (t : Nat) (ot : Oper), T t = true → (listed.setIfInBounds j true).getD t true = false → ops[t]? = some ot → reaches md ops ops.size t i = true := fun hl t ot ht hun hot => by
        refine hT hl t ot ht ?_ hot
        by_cases hjt : j = t
        · subst hjt; exact hjun
        · rw [getD_set_ne true hjt] at hun; exact hun
      refine wpOp_mono (fun a' w' h3 => ⟨h3.2.1, ih (listed.setIfInBounds j true) a' w' hT' (hcl.step hj) hfree' (ready_mono hr (Ne.symm hji)) ?_ ?_⟩) h2
      · rcases h3.1 with ⟨hw, hv⟩ | h
        · exact .inl ⟨hw, fun w2 h4 => hv w2 fun hl => hO.trans (h3.2.1 (hTj hl)) (h4 hl)⟩
        · exact .inr h
      · rw [Array.setIfInBounds_comm _ _ hji]
        exact h3.2.2

theorem walk_seg (hO : Rel O) (hs : Region.noSelect ops = true) (hQ : ∀ c a d v w, Q (.panic c) (Act.put a d v) w → Q (.panic c) a w) {Tl : List Nat} {last : Bool} {sAll : List Nat} {C : Act → World → Prop} {f : Nat} :
    ∀ (s : List Nat) (listed : Array Bool) (a : Act) (w : World), chk md ops Tl last s listed = true → Closed md ops listed → (∀ i ∈ s, i ∈ sAll) →
      wpList P ops (Fin fun a' w' => (calmAll P ops sAll a' = true ∧ loadsOK O P ops sAll a') ∧ C a' w') (pick ops s) a w →
      (∀ a' w', C a' w' → (last = false → O w w') ∧ wpO O P md ops Q (fun i => Tl.contains i) f (listAll s listed) a' w') →
      wpO O P md ops Q (fun i => Tl.contains i) (s.length + f) listed a w := by
  intro s
  induction s with
  | nil =>
    intro listed a w _ _ _ h hC
    simp only [List.length_nil, Nat.zero_add]
    exact (hC a w h.2).2
  | cons i s ih =>
    intro listed a w hc hcl hin h hC
    unfold chk at hc
    cases ho : ops[i]? with
    | none => simp [ho] at hc
    | some o =>
      simp only [ho, Bool.and_eq_true] at hc
      obtain ⟨hc1, hc2⟩ := hc
      have hp : pick ops (i :: s) = o :: pick ops s := by simp [pick, ho]
      rw [hp] at h
      have hfuel : (i :: s).length + f = (s.length + f) + 1 := by simp; omega
      rw [hfuel]
      have hin' : ∀ j ∈ s, j ∈ sAll := fun j hj => hin j (List.mem_cons_of_mem _ hj)
      by_cases hq : quiet o = true
      · rw [if_pos hq] at hc1
        simp only [Bool.and_eq_true] at hc1
        obtain ⟨⟨⟨hr, hfr⟩, hl⟩, hdst⟩ := hc1
        obtain ⟨a', w', hk, hpres⟩ := wpList_end _ _ _ h
        have hlook : ∀ t ∈ o.looksAt ops, a'.tmps[t]? = a.tmps[t]? := fun t ht => hpres t fun o' ho' => by
          have := List.all_eq_true.1 (List.all_eq_true.1 hdst t ht) o' ho'
          simpa using this
        have hcalm := List.all_eq_true.1 hk.1.1 i (hin i List.mem_cons_self)
        simp only [ho, hq, Bool.not_true, Bool.false_or] at hcalm
        rw [wanted_same hlook, calm_congr (eval_same hlook)] at hcalm
        have hT : isLoad o = true → ∀ (t : Nat) (ot : Oper), Tl.contains t = true → listed.getD t true = false → ops[t]? = some ot → reaches md ops ops.size t i = true := fun hlo t ot ht hun hot => by
          simp only [hlo, Bool.not_true, Bool.false_or] at hl
          have := List.all_eq_true.1 hl t (by simpa using ht)
          simpa only [hun, Bool.false_or] using this
        by_cases hw : Region.wanted o (yielded ops a.tmps) = true
        · simp only [hw, Bool.not_true, Bool.false_or] at hcalm
          unfold wpList at h
          rw [if_pos hw] at h
          have h := h.resolve_right fun h => Fin.out _ h.2
          unfold Oper.wp at h
          have hst : ∀ v w1, (execOp a.eval o).run P w = .ok v w1 → w1 = w ∧ ∀ w', Later O (isLoad o) w w' → (execOp a.eval o).run P w' = .ok v w' := by
            by_cases hlo : isLoad o = true
            · have h5 := hk.1.2 i (hin i List.mem_cons_self) o ho hlo
              rw [load_congr hlo (eval_same hlook)] at h5
              intro v w1 hr2
              obtain ⟨e1, e2⟩ := h5 w v w1 hr2
              exact ⟨e1, fun w' h => e2 w' (h hlo)⟩
            · exact Stab.calm (R := fun w w' => Later O (isLoad o) w w') (fun h => absurd h hlo) hcalm w
          cases hrun : (execOp a.eval o).run P w with
          | halt x w1 => rw [hrun] at h; cases x <;> exact absurd h (by simp [Oper.upon, Fin])
          | ok n w1 =>
            obtain ⟨v, rfl⟩ := calm_value hcalm hrun
            obtain ⟨rfl, hlater⟩ := hst _ _ hrun
            rw [hrun] at h
            simp only [Oper.upon] at h
            refine wpO_first hO ho (Region.noSelect_spec hs) (fun c a' w' => hQ c a' o.dst v w') _ _ _ _ hT hcl (Region.free_spec ho hfr) (by simpa using hr) (.inl ⟨hw, hlater⟩) ?_
            exact ih _ _ _ hc2 (hcl.step (by simpa using hr)) hin' h hC
        · have hw : Region.wanted o (yielded ops a.tmps) = false := by simpa using hw
          unfold wpList at h
          rw [if_neg (by simp [hw])] at h
          refine wpO_first hO ho (Region.noSelect_spec hs) (fun c a' w' => hQ c a' o.dst undef w') _ _ _ _ hT hcl (Region.free_spec ho hfr) (by simpa using hr) (.inr ⟨hw, rfl⟩) ?_
          exact ih _ _ _ hc2 (hcl.step (by simpa using hr)) hin' h hC
      · rw [if_neg hq] at hc1
        simp only [Bool.and_eq_true, beq_iff_eq] at hc1
        obtain ⟨hr, hlast⟩ := hc1
        refine ⟨fun h0 => (by rw [h0] at hr; cases hr), fun j hj => ?_⟩
        rw [hr] at hj
        obtain rfl : j = i := by simpa using hj
        have key : ∀ a' w', wpList P ops (Fin fun a' w' => (calmAll P ops sAll a' = true ∧ loadsOK O P ops sAll a') ∧ C a' w') (pick ops s) a' w' →
            (Tl.contains j = false → O w w') ∧ wpO O P md ops Q (fun i => Tl.contains i) (s.length + f) (listed.setIfInBounds j true) a' w' := fun a' w' h' => by
          cases last with
          | true =>
            simp only [if_true] at hlast
            refine ⟨fun h0 => ?_, ih _ _ _ hc2 (hcl.step (by rw [hr]; simp)) hin' h' (fun a2 w2 hC2 => ⟨fun h => ?_, (hC a2 w2 hC2).2⟩)⟩
            · rw [hlast] at h0; cases h0
            · cases h
          | false =>
            simp only [Bool.false_eq_true, if_false, Bool.and_eq_true, List.isEmpty_iff] at hlast
            obtain ⟨rfl, _⟩ := hlast
            have hk : C a' w' := h'.2
            exact ⟨fun _ => (hC a' w' hk).1 rfl, by simpa [listAll] using (hC a' w' hk).2⟩
        unfold wpList at h
        unfold wpOp
        simp only [ho]
        split at h
        · rename_i hw
          rw [if_pos hw]
          exact .inl (Oper.wp_fin key (h.resolve_right fun h => Fin.out _ h.2))
        · rename_i hw
          rw [if_neg hw]
          exact key _ _ h

theorem walk_segs (hO : Rel O) (hs : Region.noSelect ops = true) (hQ : ∀ c a d v w, Q (.panic c) (Act.put a d v) w → Q (.panic c) a w) {Tl : List Nat} :
    ∀ (segs : List (List Nat)) (listed : Array Bool) (a : Act) (w : World), chkAll md ops Tl segs listed = true → Closed md ops listed → Seg O P ops Q segs a w →
      wpO O P md ops Q (fun i => Tl.contains i) segs.flatten.length listed a w
  | [], listed, a, w, hc, hcl, h => by
    refine ⟨?_, h⟩
    simpa [chkAll] using hc
  | [s], listed, a, w, hc, hcl, h => by
    unfold chkAll at hc
    simp only [Bool.and_eq_true, List.isEmpty_iff] at hc
    have := walk_seg hO hs hQ (f := 0) s listed a w hc.1 hcl (fun _ h => h) h (fun a' w' hC => ⟨fun h => (by cases h), hc.2, hC⟩)
    simpa using this
  | s :: t :: rest, listed, a, w, hc, hcl, h => by
    unfold chkAll at hc
    simp only [Bool.and_eq_true] at hc
    have := walk_seg hO hs hQ (f := (t :: rest).flatten.length) s listed a w hc.1 hcl (fun _ h => h) h (fun a' w' hC => ⟨fun _ => hC.1, walk_segs hO hs hQ (t :: rest) _ a' w' hc.2 (chk_closed s listed hc.1 hcl) hC.2⟩)
    simpa using this

theorem Seg.fin : ∀ (segs : List (List Nat)) (a : Act) (w : World), Seg O P ops Q segs a w → Seg O P ops (Fin fun a w => Q .normal a w) segs a w
  | [], _, _, h => h
  | [s], _, _, h => h
  | s :: t :: rest, a, w, h => by
    unfold Seg at h ⊢
    refine wpList_fin_mono (fun a' w' h' => ⟨h'.1, h'.2.1, Seg.fin (t :: rest) a' w' h'.2.2⟩) _ _ _ h

/-- **A region that draws its order, walked in one order.** T: the operations that write what the others read, all in the last segment. -/
theorem wp_region_segK (O : World → World → Prop) (hO : Rel O) {id : Nat} {a : Act} {w : World} (T : List Nat) (segs : List (List Nat)) (hm : P.follows .mixedOrders = true)
    (hc : chkRegion ops T segs = true) (h : Seg O P ops Q segs a w.drew) : (Code.region id ops true).wp P Q a w := by
  unfold chkRegion at hc
  simp only [Bool.and_eq_true, beq_iff_eq] at hc
  refine Code.wp_mono (Q := Fin fun a w => Q .normal a w) (fun e a w h => by cases e <;> first | exact h | exact (h : False).elim) ?_
  refine wp_region_any hm (wpAny_of_O (O := O) (T := fun i => T.contains i) _ _ _ _ ?_)
  have := walk_segs (P := P) hO hc.1.1 (fun _ _ _ _ _ h => (h : False).elim) segs _ a _ hc.1.2 (Closed.start _) (Seg.fin segs a _ h)
  rw [hc.2] at this
  exact this

/-- These cells are as they were. -/
def Kp (L : List Addr) (w w' : World) : Prop := ∀ ad ∈ L, w'.cell? ad = w.cell? ad ∧ (w.cell? ad = none → Old w w')
theorem Kp.rel (L : List Addr) : Rel (Kp L) := ⟨fun w ad _ => ⟨rfl, fun _ => Old.refl w⟩, fun h k ad hd => ⟨(k ad hd).1.trans (h ad hd).1, fun e => ((h ad hd).2 e).trans ((k ad hd).2 ((h ad hd).1.trans e))⟩⟩
theorem Kp.one {ad : Addr} {w w' : World} {u : Value} (h : w.cell? ad = some u) (h' : w'.cell? ad = some u) : Kp [ad] w w' := fun x hx => by
  obtain rfl : x = ad := by simpa using hx
  exact ⟨h'.trans h.symm, fun e => by rw [h] at e; cases e⟩
theorem Kp.nil (w w' : World) : Kp [] w w' := fun x hx => by cases hx
theorem stab_load {L : List Addr} {ad : Addr} (h : ad ∈ L) (m : Mode) : Stab (Kp L) P (Go.load ad m) := fun w v w1 hr => by
  have h1 := Stab.load (R := Old) (fun _ _ h => h) ad m w v w1 hr
  refine ⟨h1.1, fun w' ho => ?_⟩
  obtain ⟨e1, e2⟩ := ho ad h
  cases hc : w.cell? ad with
  | none => exact h1.2 w' (e2 hc)
  | some u =>
    unfold Go.load at hr ⊢
    simp only [Sem.run] at hr ⊢
    simp only [hc, Result.ok.injEq] at hr
    obtain ⟨rfl, rfl⟩ := hr
    rw [e1, hc]
/-- A type of one cell. -/
def plain (P : Program) (t : TypeId) : Bool := match P.underlying t with
  | some (.struct _) | some (.array _ _) | none => false
  | _ => true
theorem stab_loadOp {L : List Addr} {ad : Addr} (h : ad ∈ L) {o : Oper} {t : TypeId} {x : Operand} {ρ : Operand → Value} (ho : o.op = .load t x) (hx : ρ x = .pointer (some ad)) (hp : plain P t = true) : Stab (Kp L) P (execOp ρ o) := by
  have e : execOp ρ o = (do return .value (← Instr.loadAt t (ρ x))) := by unfold execOp; rw [ho]
  rw [e, hx]
  refine Stab.bind ?_ fun _ => Stab.pure _
  have hrun : ∀ w, (Instr.loadAt t (.pointer (some ad))).run P w = (Go.load ad).run P w := fun w => by
    unfold plain at hp
    cases hu : P.underlying t with
    | none => rw [hu] at hp; cases hp
    | some d =>
      rw [hu] at hp
      have hagg : (isAgg t).run P w = .ok false w := by
        unfold isAgg
        rw [Sem.run_bind, run_underlying hu w]
        cases d <;> simp_all
      simp only [Instr.loadAt, Instr.sureAddr, loadVar, Sem.run_bind, Sem.run_pure, Result.andThen_ok, hagg]
      simp
  intro w v w1 hr
  rw [hrun] at hr
  obtain ⟨h1, h2⟩ := stab_load h _ w v w1 hr
  exact ⟨h1, fun w' ho => by rw [hrun]; exact h2 w' ho⟩
def loadIx (ops : Array Oper) (s : List Nat) : List Nat := s.filter fun i => (ops[i]?).any isLoad
theorem loads_none {s : List Nat} {a : Act} (h : loadIx ops s = []) : loadsOK O P ops s a := fun i hi o ho hl => by
  have : i ∈ loadIx ops s := List.mem_filter.2 ⟨hi, by simp [ho, hl]⟩
  rw [h] at this
  cases this
theorem loads_one {s : List Nat} {a : Act} {j : Nat} {oj : Oper} (h : loadIx ops s = [j]) (hj : ops[j]? = some oj) (hs : Stab O P (execOp a.eval oj)) : loadsOK O P ops s a := fun i hi o ho hl => by
  have : i ∈ loadIx ops s := List.mem_filter.2 ⟨hi, by simp [ho, hl]⟩
  rw [h] at this
  obtain rfl : i = j := by simpa using this
  obtain rfl : oj = o := Option.some.inj (hj.symm.trans ho)
  exact hs
end
end Go.Proofs.YtbjbjnbloddioaaDoor.KK
