/- A region that draws its order, walked in one order: plain theorems over any program. -/
import Derived.Test.YtbjbjnbloddioaaDoorA
import Derived.OrdersHeld
import Derived.Laws.Panics
set_option linter.unusedVariables false
set_option linter.unusedSimpArgs false
namespace Go.Proofs.YtbjbjnbloddioaaDoor
open Go.RowKit

/-- What was there is as it was. -/
def Old (w w' : World) : Prop := ∀ k, k < w.heap.size → w'.heap[k]? = w.heap[k]?
theorem Old.refl (w : World) : Old w w := fun _ _ => rfl
theorem Old.lt {w w' : World} (h : Old w w') : w.heap.size ≤ w'.heap.size := by
  rcases Nat.eq_zero_or_pos w.heap.size with h0 | h0
  · omega
  · have e := (h (w.heap.size - 1) (by omega)).trans (Array.getElem?_eq_getElem (by omega))
    have := (Array.getElem?_eq_some_iff.1 e).1
    omega
theorem Old.trans {a b c : World} (h : Old a b) (k : Old b c) : Old a c := fun i hi => (k i (Nat.lt_of_lt_of_le hi h.lt)).trans (h i hi)
theorem Old.of_below {w w' : World} (h : Below w.heap.size w w') : Old w w' := h.block

/-- It changes nothing, and tells the same in every world that stands so to this one. -/
def Stab (R : World → World → Prop) (P : Program) {α : Type} (e : Sem α) : Prop := ∀ w v w1, e.run P w = .ok v w1 → w1 = w ∧ ∀ w', R w w' → e.run P w' = .ok v w'

section
variable {R : World → World → Prop} {P : Program} {α β : Type}
theorem Stab.pure (a : α) : Stab R P (Pure.pure a : Sem α) := fun w v w1 h => by
  simp only [Sem.run_pure, Result.ok.injEq] at h
  exact ⟨h.2.symm, fun w' _ => by simp [h.1]⟩
theorem Stab.pure' (a : α) : Stab R P (Sem.pure a : Sem α) := Stab.pure a
theorem Stab.bind {e : Sem α} {f : α → Sem β} (he : Stab R P e) (hf : ∀ a, Stab R P (f a)) : Stab R P (e >>= f) := fun w v w1 h => by
  simp only [Sem.run_bind] at h ⊢
  cases hr : e.run P w with
  | halt x w2 => simp [hr, Result.andThen] at h
  | ok a w2 =>
    simp only [hr, Result.andThen_ok] at h
    obtain ⟨rfl, h2⟩ := he _ _ _ hr
    obtain ⟨rfl, h3⟩ := hf a _ _ _ h
    exact ⟨rfl, fun w' ho => by simp only [h2 w' ho, Result.andThen_ok]; exact h3 w' ho⟩
theorem Stab.of_halt {e : Sem α} (h : ∀ w, ∃ x w', e.run P w = .halt x w') : Stab R P e := fun w v w1 hr => by
  obtain ⟨x, w', hx⟩ := h w
  rw [hx] at hr
  cases hr
theorem Stab.stuck (s : String) : Stab R P (Go.stuck s : Sem α) := Stab.of_halt fun w => ⟨_, _, rfl⟩
theorem Stab.unsupported (s : Unsupported) : Stab R P (Go.unsupported s : Sem α) := Stab.of_halt fun w => ⟨_, _, rfl⟩
theorem Stab.prog : Stab R P Go.program := fun w v w1 h => by
  simp only [run_program, Result.ok.injEq] at h
  exact ⟨h.2.symm, fun w' _ => by simp [h.1]⟩
theorem Stab.bounds (k : IntKind) (x y : Int) (c : BoundsCode) : Stab R P (boundsPanic k x y c : Sem α) := Stab.of_halt fun w => by
  obtain ⟨s, w', h⟩ := run_boundsPanic (α := α) (P := P) (w := w) k x y c
  exact ⟨_, _, h⟩
theorem Stab.info (t : TypeId) : Stab R P (typeInfo t) := Stab.bind Stab.prog fun p => by
  split
  · exact Stab.pure _
  · exact Stab.stuck _
theorem Stab.under (t : TypeId) : Stab R P (underlying t) := Stab.bind Stab.prog fun p => by
  split
  · exact Stab.pure _
  · exact Stab.stuck _
theorem Stab.sizeOf (t : TypeId) : Stab R P (sizeOf t) := Stab.bind (Stab.info t) fun _ => Stab.pure _
theorem Stab.isAgg (t : TypeId) : Stab R P (isAgg t) := Stab.bind (Stab.under t) fun d => by
  split <;> exact Stab.pure _
theorem Stab.asIntOf (v : Value) : Stab R P (asIntOf v) := by
  unfold Go.asIntOf
  split
  · exact Stab.pure _
  · exact Stab.unsupported _
  · exact Stab.stuck _
theorem Stab.sureAddr (v : Value) : Stab R P (Instr.sureAddr v) := by
  unfold Instr.sureAddr
  split
  · exact Stab.pure _
  · exact Stab.stuck _
theorem Stab.asAgg (v : Value) : Stab R P (asAgg v) := by
  unfold Go.asAgg
  split
  · exact Stab.pure _
  · exact Stab.stuck _
theorem Stab.goPanic (v : Value) : Stab R P (goPanic v : Sem α) := Stab.of_halt fun w => ⟨_, _, rfl⟩
theorem Stab.asAddr (v : Value) : Stab R P (asAddr v) := by
  unfold Go.asAddr
  split
  · exact Stab.pure _
  · exact Stab.bind Stab.prog fun _ => Stab.goPanic _
  · exact Stab.stuck _
theorem Stab.part (t : TypeId) (cs : Array Value) (off : Nat) : Stab R P (part t cs off) := Stab.bind (Stab.isAgg t) fun b => by
  split
  · exact Stab.bind (Stab.sizeOf t) fun _ => Stab.pure _
  · split
    · exact Stab.pure _
    · exact Stab.stuck _

theorem seen_same {w w' : World} {at_ k : Addr} {u : TypeId} {b : Bool} (h : w'.heap[at_.block]? = w.heap[at_.block]?) : w'.seen P at_ u k b = w.seen P at_ u k b := by
  unfold World.seen
  rw [h]
theorem seen_none {w : World} {at_ k : Addr} {u : TypeId} {b : Bool} (h : w.heap[at_.block]? = none) : ∀ r, w.seen P at_ u k b ≠ .ok r := by
  intro r
  unfold World.seen
  rw [h]
  by_cases h1 : (k.spot.isSome || at_.spot.isSome) = true
  · simp [h1, bind, Except.bind, throw, throwThe, MonadExceptOf.throw]
  · simp only [h1]
    cases plainCell P P.depth u k.off with
    | none => simp [bind, Except.bind, throw, throwThe, MonadExceptOf.throw]
    | some like =>
      cases hb : like.bytes? with
      | none => simp [hb, bind, Except.bind, throw, throwThe, MonadExceptOf.throw]
      | some l =>
        cases hc : byteOfCell P P.depth u k.off <;> simp [hb, bind, Except.bind, throw, throwThe, MonadExceptOf.throw]
theorem Stab.load (hR : ∀ w w', R w w' → Old w w') (a : Addr) (m : Mode) : Stab R P (Go.load a m) := fun w v w1 h => by
  unfold Go.load at h ⊢
  simp only [Sem.run] at h ⊢
  cases hc : w.cell? a with
  | some u =>
    simp only [hc, Result.ok.injEq] at h
    obtain ⟨rfl, rfl⟩ := h
    refine ⟨rfl, fun w' ho => ?_⟩
    have hlt := World.block_lt_of_cell? w a hc
    rw [World.cell?_of_block (hR _ _ ho _ hlt), hc]
  | none =>
    simp only [hc] at h
    unfold World.farLoad at h
    cases hb : w.heap[a.block]? with
    | none => simp [hb] at h
    | some o =>
      have hlt : a.block < w.heap.size := (Array.getElem?_eq_some_iff.1 hb).1
      cases o with
      | view at_ u =>
        simp only [hb] at h
        cases hv : w.viewLoad P at_ u a (m == Mode.atomic) with
        | error e => simp [hv] at h
        | ok r =>
          simp only [hv, Result.ok.injEq] at h
          obtain ⟨rfl, rfl⟩ := h
          refine ⟨rfl, fun w' ho => ?_⟩
          have hs : w'.viewLoad P at_ u a (m == Mode.atomic) = .ok r := by
            rw [← hv]
            unfold World.viewLoad
            cases hx : w.heap[at_.block]? with
            | none =>
              unfold World.viewLoad at hv
              cases hy : w.seen P at_ u a (m == Mode.atomic) with
              | error e => rw [hy] at hv; cases hv
              | ok r => exact absurd hy (seen_none hx r)
            | some o2 =>
              have hl2 : at_.block < w.heap.size := (Array.getElem?_eq_some_iff.1 hx).1
              rw [seen_same (hR _ _ ho _ hl2)]
          rw [World.cell?_of_block (hR _ _ ho _ hlt), hc]
          unfold World.farLoad
          simp only [hR _ _ ho _ hlt, hb, hs]
      | _ => simp [hb] at h
theorem Stab.loadCells (hR : ∀ w w', R w w' → Old w w') (a : Addr) : ∀ (n i : Nat) (acc : Array Value), Stab R P (loadCellsFrom a i n acc)
  | 0, _, _ => Stab.pure _
  | n + 1, i, acc => Stab.bind (Stab.load hR _ _) fun v => Stab.loadCells hR a n (i + 1) (acc.push v)
theorem Stab.loadVar (hR : ∀ w w', R w w' → Old w w') (t : TypeId) (a : Addr) : Stab R P (loadVar t a) := Stab.bind (Stab.isAgg t) fun b => by
  split
  · exact Stab.bind (Stab.sizeOf t) fun n => Stab.bind (Stab.loadCells hR a n 0 #[]) fun _ => Stab.pure _
  · exact Stab.load hR _ _
theorem Stab.bound (x : Value) (y : Nat) (c : BoundsCode) : Stab R P (Instr.sliceBound x y c) := Stab.bind (Stab.asIntOf x) fun ⟨k, i⟩ => by
  dsimp only
  split
  · exact Stab.pure _
  · exact Stab.bounds _ _ _ _
theorem Stab.sliceBounds (b : Bool) (len cap : Nat) (lo hi mx : Option Value) : Stab R P (Instr.sliceBounds b len cap lo hi mx) := by
  unfold Instr.sliceBounds
  cases lo <;> cases hi <;> cases mx <;> dsimp only <;>
    (repeat' first
      | exact Stab.pure _
      | exact Stab.stuck _
      | exact Stab.bound _ _ _
      | refine Stab.bind ?_ (fun _ => ?_))
theorem Stab.slice (t : TypeId) (x : Value) (lo hi mx : Option Value) : Stab R P (Instr.slice t x lo hi mx) := by
  unfold Instr.slice
  refine Stab.bind (Stab.under t) fun d => ?_
  (repeat' first
      | exact Stab.pure _
      | exact Stab.stuck _
      | exact Stab.sliceBounds _ _ _ _ _ _
      | exact Stab.sizeOf _
      | exact Stab.under _
      | exact Stab.asAddr _
      | (refine Stab.bind ?_ (fun _ => ?_))
      | split)
theorem Stab.sliceAt (t : TypeId) (x : Value) (lo hi mx : Option Value) : Stab R P (Instr.sliceAt t x lo hi mx) := by
  unfold Instr.sliceAt
  refine Stab.bind (Stab.under t) fun d => ?_
  (repeat' first
      | exact Stab.pure _
      | exact Stab.stuck _
      | exact Stab.slice _ _ _ _ _
      | exact Stab.sliceBounds _ _ _ _ _ _
      | exact Stab.sizeOf _
      | exact Stab.sureAddr _
      | (refine Stab.bind ?_ (fun _ => ?_))
      | split)
theorem Stab.indexAt (t : TypeId) (x i : Value) : Stab R P (Instr.indexAt t x i) := by
  unfold Instr.indexAt
  refine Stab.bind (Stab.asIntOf _) fun ⟨k, j⟩ => ?_
  dsimp only
  (repeat' first
      | exact Stab.pure _
      | exact Stab.stuck _
      | exact Stab.unsupported _
      | exact Stab.bounds _ _ _ _
      | exact Stab.sizeOf _
      | exact Stab.sureAddr _
      | exact Stab.under _
      | (refine Stab.bind ?_ (fun _ => ?_))
      | split)
theorem Stab.index (t : TypeId) (x i : Value) : Stab R P (Instr.index t x i) := by
  unfold Instr.index
  refine Stab.bind (Stab.asIntOf _) fun ⟨k, j⟩ => ?_
  dsimp only
  (repeat' first
      | exact Stab.pure _
      | exact Stab.stuck _
      | exact Stab.bounds _ _ _ _
      | exact Stab.part _ _ _
      | exact Stab.sizeOf _
      | exact Stab.under _
      | (refine Stab.bind ?_ (fun _ => ?_))
      | split)
theorem Stab.field (t : TypeId) (x : Value) (i : Nat) : Stab R P (Instr.field t x i) := by
  unfold Instr.field
  (repeat' first
      | exact Stab.pure _
      | exact Stab.stuck _
      | exact Stab.part _ _ _
      | exact Stab.asAgg _
      | exact Stab.under _
      | (refine Stab.bind ?_ (fun _ => ?_))
      | split)

/-- A field whose type has cells. -/
def fieldOK (P : Program) (s : TypeId) (f : Nat) : Bool :=
  match P.underlying s with
  | some (.struct fs) => (match fs[f]? with | some fl => (match P.info? fl.type with | some i => i.size != 0 | none => true) | none => true)
  | _ => true
theorem Stab.fieldAt (t : TypeId) (x : Value) (i : Nat) (h : fieldOK P t i = true) : Stab R P (Instr.fieldAt t x i) := fun w v w1 hr => by
  unfold Instr.fieldAt at hr ⊢
  unfold fieldOK at h
  cases hu : P.underlying t with
  | none => simp [underlying, hu] at hr
  | some d =>
    cases d <;> try (simp [underlying, hu] at hr; done)
    rename_i fs
    simp only [hu] at h
    cases hf : fs[i]? with
    | none => simp [underlying, hu, hf] at hr
    | some fl =>
      simp only [hf] at h
      cases hi : P.info? fl.type with
      | none =>
        exfalso
        cases x <;> simp [underlying, hu, hf, fieldPlace, Go.sizeOf, typeInfo, hi, Instr.sureAddr] at hr
        rename_i a
        cases a <;> simp at hr
      | some inf =>
        simp only [hi, bne_iff_ne, ne_eq] at h
        cases x <;> (try (simp [underlying, hu, hf, fieldPlace, Go.sizeOf, typeInfo, hi, Instr.sureAddr] at hr; done))
        rename_i a
        cases a with
        | none => simp [underlying, hu, hf, fieldPlace, Go.sizeOf, typeInfo, hi, Instr.sureAddr] at hr
        | some a =>
          simp [underlying, hu, hf, fieldPlace, Go.sizeOf, typeInfo, hi, Instr.sureAddr, h] at hr ⊢
          exact ⟨hr.2.symm, fun w' _ => hr.1⟩

theorem Stab.intBits (op : BinOp) (k : IntKind) (x y : Int) : Stab R P (Op.intBits op k x y) := by
  unfold Op.intBits
  cases op <;> first | exact Stab.pure _ | exact Stab.stuck _
theorem Stab.binInt (op : BinOp) (t : TypeId) (k k' : IntKind) (x y : Int) : Stab R P (binOp op t (.int k x) (.int k' y)) := by
  cases op <;> simp only [binOp] <;>
    (repeat' first
      | exact Stab.pure _
      | exact Stab.stuck _
      | exact Stab.goPanic _
      | exact Stab.intBits _ _ _ _
      | exact Stab.bind Stab.prog fun _ => Stab.goPanic _
      | (unfold Op.shift)
      | (unfold Op.intArith)
      | (unfold Op.intDiv)
      | (unfold Op.intCmp)
      | (unfold runtimePanic)
      | split)
theorem Stab.binStr (op : BinOp) (t : TypeId) (x y : ByteArray) : Stab R P (binOp op t (.string x) (.string y)) := by
  cases op <;> simp only [binOp, Op.stringOp] <;>
    (repeat' first
      | exact Stab.pure _
      | exact Stab.stuck _
      | exact Stab.unsupported _
      | split)
theorem Stab.equal (t : TypeId) (x y : Value) (h : (∃ a b, x = .bool a ∧ y = .bool b) ∨ (∃ a n c b m d, x = .slice a n c ∧ y = .slice b m d)) : Stab R P (Op.equal t x y) := by
  show Stab R P (Op.equalIn (9999 + 1) t x y)
  unfold Op.equalIn
  rcases h with ⟨a, b, rfl, rfl⟩ | ⟨a, n, c, b, m, d, rfl, rfl⟩ <;> refine Stab.bind (Stab.under t) fun d => ?_ <;> cases d <;>
    (repeat' first
      | contradiction
      | exact Stab.pure _
      | exact Stab.stuck _
      | split)
theorem Stab.unary (op : UnOp) (x : Value) (h : (∃ k n, x = .int k n) ∨ (∃ b, x = .bool b)) : Stab R P (Op.unary op x) := by
  rcases h with ⟨k, n, rfl⟩ | ⟨b, rfl⟩ <;> cases op <;> simp only [Op.unary] <;>
    (repeat' first
      | exact Stab.pure _
      | exact Stab.stuck _
      | exact Stab.intBits _ _ _ _
      | (unfold Op.intArith))
theorem Stab.extract (t : Value) (i : Nat) : Stab R P (Instr.extract t i) := by
  unfold Instr.extract
  (repeat' first
      | exact Stab.pure _
      | exact Stab.stuck _
      | split)
theorem Stab.iface (t : TypeId) (x : Value) : Stab R P (Instr.makeInterface t x) := by
  unfold Instr.makeInterface
  (repeat' first
      | exact Stab.pure _
      | exact Stab.stuck _
      | exact Stab.under _
      | (refine Stab.bind ?_ (fun _ => ?_))
      | split)

/-- Does an operation, its operands being these, change nothing and read old memory alone? -/
def calm (P : Program) (ρ : Operand → Value) (o : Oper) : Bool :=
  match o.op with
  | .move _ | .assign _ | .extract _ _ | .load _ _ | .indexAddr _ _ _ | .index _ _ _ | .field _ _ _ | .slice _ _ _ _ _ | .makeInterface _ _ => true
  | .pick c _ _ => match ρ c with | .bool _ => true | _ => false
  | .nilCheck x => match ρ x with | .pointer (some _) => true | _ => false
  | .fieldAddr s _ f => fieldOK P s f
  | .binOp op _ x y _ => match op, ρ x, ρ y with
    | _, .int _ _, .int _ _ => true
    | _, .string _, .string _ => true
    | .eql, .bool _, .bool _ | .neq, .bool _, .bool _ | .eql, .slice _ _ _, .slice _ _ _ | .neq, .slice _ _ _, .slice _ _ _ => true
    | _, _, _ => false
  | .unOp _ _ x => match ρ x with | .int _ _ | .bool _ => true | _ => false
  | .convert src dst x => match ρ x, P.underlying src, P.underlying dst with | .int _ _, some _, some (.int _) => true | _, _, _ => false
  | .call c => match c.callee, c.args.toList.map ρ with
    | .builtin .len, [.slice _ _ _] | .builtin .len, [.string _] => true
    | _, _ => false
  | _ => false

theorem eqGuard_calm (op : BinOp) (t : TypeId) (x y : Operand) (a b : Value) (h1 : ∀ c, a ≠ .agg c) (h2 : a ≠ .nilIface) : Stab R P (eqGuard op t x y a b) := by
  unfold eqGuard
  cases op <;> simp <;> cases a <;> first | exact Stab.pure _ | exact absurd rfl h2 | exact absurd rfl (h1 _)

def isLoad (o : Oper) : Bool := match o.op with | .load _ _ => true | _ => false
theorem Stab.calm {ρ : Operand → Value} {o : Oper} (hR : isLoad o = true → ∀ w w', R w w' → Old w w') (h : calm P ρ o = true) : Stab R P (execOp ρ o) := by
  obtain ⟨dst, op, type, pos, after, guard⟩ := o
  unfold execOp
  unfold YtbjbjnbloddioaaDoor.calm at h
  cases op <;> dsimp only at h ⊢ <;> try (cases h; done)
  case move => exact Stab.pure _
  case assign => exact Stab.pure _
  case pick c a b =>
    cases hc : ρ c <;> simp only [hc] at h <;> try (cases h; done)
    exact Stab.bind (Stab.pure _) fun _ => Stab.pure _
  case load => exact Stab.bind (Stab.bind (Stab.sureAddr _) fun _ => Stab.loadVar (hR rfl) _ _) fun _ => Stab.pure _
  case nilCheck x =>
    cases hc : ρ x <;> simp only [hc] at h <;> try (cases h; done)
    rename_i a
    cases a
    · cases h
    · exact Stab.pure _
  case binOp op t x y yt =>
    have hb : Stab R P (eqGuard op t x y (ρ x) (ρ y)) ∧ Stab R P (binOp op t (ρ x) (ρ y)) := by
      cases hx : ρ x <;> cases hy : ρ y <;> simp only [hx, hy] at h <;> try (cases op <;> cases h; done)
      · refine ⟨eqGuard_calm _ _ _ _ _ _ (by simp) (by simp), ?_⟩
        cases op <;> try (cases h; done)
        · exact Stab.bind (Stab.equal _ _ _ (.inl ⟨_, _, rfl, rfl⟩)) fun _ => Stab.pure _
        · exact Stab.bind (Stab.equal _ _ _ (.inl ⟨_, _, rfl, rfl⟩)) fun _ => Stab.pure _
      · exact ⟨eqGuard_calm _ _ _ _ _ _ (by simp) (by simp), Stab.binInt _ _ _ _ _ _⟩
      · exact ⟨eqGuard_calm _ _ _ _ _ _ (by simp) (by simp), Stab.binStr _ _ _ _⟩
      · refine ⟨eqGuard_calm _ _ _ _ _ _ (by simp) (by simp), ?_⟩
        cases op <;> try (cases h; done)
        · exact Stab.bind (Stab.equal _ _ _ (.inr ⟨_, _, _, _, _, _, rfl, rfl⟩)) fun _ => Stab.pure _
        · exact Stab.bind (Stab.equal _ _ _ (.inr ⟨_, _, _, _, _, _, rfl, rfl⟩)) fun _ => Stab.pure _
    exact Stab.bind (Stab.bind hb.1 fun _ => hb.2) fun _ => Stab.pure _
  case unOp op t x =>
    refine Stab.bind (Stab.unary _ _ ?_) fun _ => Stab.pure _
    cases hx : ρ x <;> simp only [hx] at h <;> try (cases h; done)
    · exact .inr ⟨_, rfl⟩
    · exact .inl ⟨_, _, rfl⟩
  case convert src dst x =>
    refine Stab.bind ?_ fun _ => Stab.pure _
    cases hx : ρ x <;> simp only [hx] at h <;> try (cases h; done)
    cases hs : P.underlying src <;> simp only [hs] at h <;> try (cases h; done)
    cases hd : P.underlying dst <;> simp only [hd] at h <;> try (cases h; done)
    rename_i k n d d2
    cases d2 <;> try (cases h; done)
    intro w v w1 hr
    have e : ∀ w, (convert src dst (.int k n)).run P w = .ok (.int _ _) w := fun w => by
      unfold convert
      simp only [Sem.run_bind, run_underlying hs, run_underlying hd, Result.andThen_ok]
      cases d <;> rfl
    rw [e] at hr
    injection hr with h1 h2
    subst h1
    exact ⟨h2.symm, fun w' _ => e w'⟩
  case makeInterface => exact Stab.bind (Stab.iface _ _) fun _ => Stab.pure _
  case slice => exact Stab.bind (Stab.sliceAt _ _ _ _ _) fun _ => Stab.pure _
  case fieldAddr => exact Stab.bind (Stab.fieldAt _ _ _ h) fun _ => Stab.pure _
  case field => exact Stab.bind (Stab.field _ _ _) fun _ => Stab.pure _
  case indexAddr => exact Stab.bind (Stab.indexAt _ _ _) fun _ => Stab.pure _
  case index => exact Stab.bind (Stab.index _ _ _) fun _ => Stab.pure _
  case extract => exact Stab.bind (Stab.extract _ _) fun _ => Stab.pure _
  case call c =>
    obtain ⟨callee, args, argTypes⟩ := c
    cases callee <;> dsimp only at h <;> try (cases h; done)
    rename_i b
    cases b <;> try (cases h; done)
    refine Stab.bind (e := Builtin.len_ argTypes type (args.map ρ)) ?_ fun _ => Stab.pure _
    obtain ⟨l⟩ := args
    have hm : (l.toArray.map ρ) = (l.map ρ).toArray := by simp
    have h' : ∃ x, l.map ρ = [x] ∧ ((∃ a n c, x = .slice a n c) ∨ ∃ s, x = .string s) := by
      dsimp only at h
      generalize l.map ρ = l' at h
      match l', h with
      | [.slice a n c], _ => exact ⟨_, rfl, .inl ⟨_, _, _, rfl⟩⟩
      | [.string s], _ => exact ⟨_, rfl, .inr ⟨_, rfl⟩⟩
    obtain ⟨x, hx, hv⟩ := h'
    rw [hm, hx]
    unfold Builtin.len_
    cases ht : argTypes[0]? with
    | none => exact Stab.stuck _
    | some t =>
      simp only [List.getElem?_toArray, List.getElem?_cons_zero]
      refine Stab.bind (Stab.under t) fun d => ?_
      rcases hv with ⟨a, n, c, rfl⟩ | ⟨s, rfl⟩ <;> cases d <;> dsimp only <;> first | exact Stab.pure _ | exact Stab.stuck _ | (refine Stab.bind (Stab.under _) fun d => ?_; cases d <;> first | exact Stab.pure _ | exact Stab.stuck _)
end
end Go.Proofs.YtbjbjnbloddioaaDoor
