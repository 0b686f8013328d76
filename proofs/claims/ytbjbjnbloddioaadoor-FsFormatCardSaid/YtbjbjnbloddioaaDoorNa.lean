/- A range over a function whose rounds are told what holds of what they are handed. -/
import Derived.RangeFuncNested
import Derived.RangeFuncBound
import Derived.RangeFuncCalls
import Derived.RangeFuncLeaves
import Derived.RangeFuncFrom
set_option linter.unusedVariables false
namespace Go.Proofs.YtbjbjnbloddioaaDoor
open Go.RowKit

section
variable {F : Fence} {n : Nat} {P : Program} {α : Type}

/-- What an iterator's function does: it calls yield at values of which G holds where they are handed over; it goes on as long as yield says true. Ow: what it writes itself between two rounds. -/
def SeqG (F : Fence) (n : Nat) (P : Program) (g : Nat) (lb : Array Value) (encs : α → Array Value) (Kp : World → World → Prop) (Ow : World → World → Prop) (G : List α → α → World → Prop) (S : List α → Prop) (w : World) : Prop :=
  ∀ (l : Nat) (J Jx : List α → World → Prop) (W : World), Below w.heap.size w W → AbidesFrom W.heap.size J → (∀ s A B, J s A → Ow A B → J s B) →
    (∀ pre x W1, J pre W1 → G pre x W1 → YieldAt F (n - 1) P l (encs x) W1 fun e W' =>
      (e = .returned (.bool true) ∧ J (pre ++ [x]) W' ∧ Kp W1 W') ∨ (e = .returned (.bool false) ∧ Jx (pre ++ [x]) W')) →
    J [] W →
    CallsIn F n P g (#[.func (.yield l) #[] #[]] ++ lb) W fun e W' => (∃ v, e = .returned v) ∧ ((∃ xs, S xs ∧ J xs W') ∨ (∃ pre, Jx pre W'))

/-- How a round may be left: off its end, or by a return. -/
def roundLeft (Kp : World → World → Prop) (I Ix : List α → World → Prop) (xs : List α) (W : World) : Exit → Act → World → Prop
  | .normal, _, W' => KeepsOthers W W' ∧ Kp W W' ∧ I xs W'
  | .ret, _, W' => KeepsOthers W W' ∧ Ix xs W'
  | _, _, _ => False

/-- The loop's record, and the block of its rounds' deferred calls. -/
structure Held (W : World) (l D : Nat) (r : Loop) : Prop where
  rec_ : W.heap[l]? = some (.loop r)
  coll : W.heap[D]? = some (.deferred (some []))
theorem Held.turn {W W' : World} {l D : Nat} {r : Loop} {row : Option Nat} (h : Held W l D r) (hg : W.grownBy W' row) (hr : ∀ k, row = some k → ∃ o : Obj, W.heap[k]? = some o ∧ o.isWalk = true) : Held W' l D r :=
  ⟨(grownBy_keeps hg hr h.rec_ rfl).trans h.rec_, (grownBy_keeps hg hr h.coll rfl).trans h.coll⟩
theorem Held.put {W : World} {l D : Nat} {r : Loop} (h : Held W l D r) (r' : Loop) (hne : D ≠ l) : Held (W.putObj l (.loop r')) l D r' :=
  ⟨World.putObj_heap_same (Array.getElem?_eq_some_iff.1 h.rec_).1, (World.putObj_heap_other hne).trans h.coll⟩
theorem Held.others {W W' : World} {l D : Nat} {r : Loop} (h : Held W l D r) (hk : KeepsOthers W W') : Held W' l D r :=
  ⟨hk.same _ _ h.rec_ rfl, hk.same _ _ h.coll rfl⟩

/-- One round. -/
theorem yield_round {l D B : Nat} {r : Loop} {args : Array Value} {W : World} {a₁ : Act} {xs : List α} {Kp : World → World → Prop} {I Ix : List α → World → Prop}
    (hF : F.fn r.fn) (hst : r.state = .ready) (hpe : r.pending = none) (hne : D ≠ l) (hBl : B ≤ l) (h : Held W l D r) (hps : args.size = r.params.size)
    (hKt : ∀ {A B C : World}, Kp A B → Kp B C → Kp A C) (hKb : ∀ (W : World) (o : Obj) (o' : Obj), W.heap[l]? = some o → o.isCells = false → o.isWalk = false → Kp W (W.putObj l o'))
    (hI : OwnFrom B I) (hIx : OwnFrom B Ix)
    (hassign : ∀ K : Act → World → Prop, K a₁ W → r.assign.wpIn (F.inRound l) n P (Exit.then K (fun _ _ _ => False)) { tmps := (r.params.zip args).foldl (fun t (p, v) => t.setIfInBounds p v) r.tmps, defers := [] } W)
    (hbody : r.body.wpIn (F.inRound l) n P (roundLeft Kp I Ix xs (W.putObj l (.loop { r with state := .busy }))) a₁ (W.putObj l (.loop { r with state := .busy }))) :
    YieldAt F n P l args W fun e W' => (e = .returned (.bool true) ∧ (I xs W' ∧ Held W' l D r) ∧ Kp W W') ∨ (e = .returned (.bool false) ∧ Ix xs W' ∧ Held W' l D { r with state := .done, pending := some .ret }) := by
  refine ⟨r.fn, _, r.assign, r.body, run_yield h.rec_ hps, roundIn_of_wpIn hF (hassign _ ⟨_, run_beginRound h.rec_ hst, ?_⟩)⟩
  have hbusy := h.put { r with state := .busy } hne
  refine wpIn_mono hbody ?_
  rintro e a3 W3 hp
  cases e with
  | normal =>
    obtain ⟨hk, hkp, hi⟩ := hp
    have h3 := hbusy.others hk
    have e1 : ({ r with state := .busy } : Loop) = { r with state := .busy } := rfl
    have hr : ({ ({ r with state := .busy } : Loop) with state := if (none : Option Code).isNone then .ready else .done, pending := none } : Loop) = r := by
      cases r; simp at hst hpe; simp [hst, hpe]
    refine ⟨_, _, run_endRound none h3.rec_, .inl ⟨rfl, ⟨hI.putObj _ hi hBl h3.rec_ rfl, ?_⟩, hKt (hKt (hKb W _ _ h.rec_ rfl rfl) hkp) (hKb W3 _ _ h3.rec_ rfl rfl)⟩⟩
    have := h3.put { ({ r with state := .busy } : Loop) with state := if (none : Option Code).isNone then .ready else .done, pending := none } hne
    rwa [hr] at this ⊢
  | ret =>
    obtain ⟨hk, hi⟩ := hp
    have h3 := hbusy.others hk
    exact ⟨_, _, run_endRound (some .ret) h3.rec_, .inr ⟨rfl, hIx.putObj _ hi hBl h3.rec_ rfl, h3.put _ hne⟩⟩
  | exit id => exact hp.elim
  | goto t => exact hp.elim
  | panic ch => exact hp.elim
  | outgrown => exact hp.elim

/-- **The statement**: a round is told G of what it is handed. -/
theorem wpIn_range_told {g : Operand} {ps : Array Tmp} {assign body : Code} {Q : Exit → Act → World → Prop} {a : Act} {w : World}
    (hro : F.round = none) (h1 : 1 ≤ n) {gf : Nat} {lb : Array Value} (hg : a.eval g = .func (.func gf) #[] lb) (hFg : F.fn gf) (eg : ∀ args w, (callFunc gf args).run P w = .ok (.enter gf args) w)
    {encs : α → Array Value} {Kp Ow : World → World → Prop} {G : List α → α → World → Prop} {S : List α → Prop} {w0 : World} (hseq : SeqG F (n - 1) P gf lb encs Kp Ow G S w0) (hOw : ∀ A B, Ow A B → KeepsOthers A B)
    (hKt : ∀ {A B C : World}, Kp A B → Kp B C → Kp A C) (hKb : ∀ (W : World) (l : Nat) (o o' : Obj), w.heap.size ≤ l → W.heap[l]? = some o → o.isCells = false → o.isWalk = false → Kp W (W.putObj l o'))
    (hb0 : Below w0.heap.size w0 w) (hps : ∀ x, (encs x).size = ps.size) (hG : ∀ pre x (W : World) (l : Nat) (o o' : Obj), G pre x W → W.heap[l]? = some o → o.isCells = false → G pre x (W.putObj l o'))
    (I Ix : List α → World → Prop) (hIo : ∀ s A B, I s A → Ow A B → I s B) (hI : OwnFrom w.heap.size I) (hIx : OwnFrom w.heap.size Ix) (h0 : I [] w) (a₁ : α → Act)
    (hassign : ∀ (l : Nat) (x : α) (W : World) (K : Act → World → Prop), K (a₁ x) W →
      assign.wpIn (F.inRound l) (n - 1 - 1) P (Exit.then K (fun _ _ _ => False)) { tmps := (ps.zip (encs x)).foldl (fun t (p, v) => t.setIfInBounds p v) a.tmps, defers := [] } W)
    (hbody : ∀ (l : Nat) (pre : List α) (x : α) (W : World), I pre W → G pre x W → body.wpIn (F.inRound l) (n - 1 - 1) P (roundLeft Kp I Ix (pre ++ [x]) W) (a₁ x) W)
    (hdone : ∀ (D : Nat) (xs : List α) (W : World), w.heap.size ≤ D → S xs → I xs W → W.heap[D]? = some (.deferred (some [])) → Q .normal { a with defers := { target := .collected D, args := #[] } :: a.defers } W)
    (hstop : ∀ (D : Nat) (pre : List α) (W : World), w.heap.size ≤ D → Ix pre W → W.heap[D]? = some (.deferred (some [])) → Code.ret.wpIn F n P Q { a with defers := { target := .collected D, args := #[] } :: a.defers } W) :
    (Code.rangeFunc g ps assign body).wpIn F n P Q a w := by
  refine wpIn_rangeFunc fun fn hfn => ?_
  rw [hro]
  obtain ⟨r, hr⟩ : ∃ r : Loop, r = { state := .ready, pending := none, fn, tmps := a.tmps, params := ps, assign, body, defers := w.heap.size } := ⟨_, rfl⟩
  obtain ⟨W1, hW1⟩ : ∃ W1, W1 = (w.alloc (.deferred (some []))).alloc (.loop r) := ⟨_, rfl⟩
  have hH : Held W1 (w.heap.size + 1) w.heap.size r := by
    rw [hW1]
    exact ⟨by have := World.alloc_heap_new (w.alloc (.deferred (some []))) (.loop r); rwa [World.size_alloc] at this, (Below.heap_alloc _ _ _ (by simp)).trans (World.alloc_heap_new w _)⟩
  have hI1 : I [] W1 := by rw [hW1]; exact hI.alloc _ (hI.alloc _ h0)
  have hb1 : Below w0.heap.size w0 W1 := by rw [hW1]; exact hb0.trans ((((Below.refl _ w).alloc (Nat.le_refl _) _).alloc (by simp) _).mono hb0.size)
  have hsz : w.heap.size ≤ W1.heap.size := by rw [hW1]; simp; omega
  refine ⟨w.heap.size + 1, [{ target := .collected w.heap.size, args := #[] }], W1, { target := .fn (.func gf) lb, args := #[.func (.yield (w.heap.size + 1)) #[] #[]] }, W1, gf,
    #[.func (.yield (w.heap.size + 1)) #[] #[]] ++ lb, W1, ?_, ?_, ?_, ?_, fun _ => h1, ?_⟩
  · rw [hW1, hr]; exact run_enterLoop_outer _ _ _ _ _
  · simp only [resolve, hg]
    simp [go_sem]
  · intro f' hf'; simp [Target.leads] at hf'; subst hf'; exact hFg
  · simp [invoke, go_sem, eg]
  · refine (hseq (w.heap.size + 1) (fun pre W => I pre W ∧ Held W (w.heap.size + 1) w.heap.size r) (fun pre W => Ix pre W ∧ Held W (w.heap.size + 1) w.heap.size { r with state := .done, pending := some .ret }) W1 hb1 ?_ (fun s A B hs ho => ⟨hIo s A B hs.1 ho, hs.2.others (hOw A B ho)⟩) ?_ ⟨hI1, hH⟩).mono ?_
    · intro s A B row hs hg' hr'
      exact ⟨hI s A B row hs.1 hg' (fun k e => by obtain ⟨hB, o, ho, hw⟩ := hr' k e; exact ⟨Nat.le_trans hsz hB, o, ho, Obj.not_cells_of_walk hw⟩), hs.2.turn hg' (fun k e => (hr' k e).2)⟩
    · rintro pre x W ⟨hi, hh⟩ hgx
      have hbusy := hI.putObj (.loop { r with state := .busy }) hi (Nat.le_succ _) hh.rec_ rfl
      have hgb := hG pre x W _ _ (.loop { r with state := .busy }) hgx hh.rec_ rfl
      clear hW1 hH hI1 hb1 hsz
      subst hr
      exact yield_round (B := w.heap.size) hfn rfl rfl (by omega) (Nat.le_succ _) hh (hps x) (fun h k => hKt h k) (fun W o o' ho hc hw => hKb W _ o o' (Nat.le_succ _) ho hc hw) hI hIx
        (fun K hK => hassign _ x W K hK) (hbody _ pre x _ hbusy hgb)
    · rintro e W2 ⟨⟨v, rfl⟩, (⟨xs, hS, hi, hh⟩ | ⟨pre, hi, hh⟩)⟩
      · refine ⟨none, _, by have := run_endLoop (P := P) hh.rec_ (by rw [hr]; simp); rw [hr] at this; exact this, hdone _ xs _ (Nat.le_refl _) hS ?_ ?_⟩
        · exact hI.putObj _ hi (Nat.le_succ _) hh.rec_ rfl
        · exact (World.putObj_heap_other (by omega)).trans hh.coll
      · refine ⟨some .ret, _, by have := run_endLoop (P := P) hh.rec_ (by simp); exact this, hstop _ pre _ (Nat.le_refl _) ?_ ?_⟩
        · exact hIx.putObj _ hi (Nat.le_succ _) hh.rec_ rfl
        · exact (World.putObj_heap_other (by omega)).trans hh.coll
end
#print axioms wpIn_range_told
end Go.Proofs.YtbjbjnbloddioaaDoor
