/- Words for memory, and what appends do to it: plain theorems over any program. -/
import Derived.WalkKit
import Derived.WalkSpells
import Derived.WalkLawsBesides
import Derived.OwnWalk
import Derived.Below
import Derived.Laws.OwnMore
import Derived.Maps.AppendAt
import Derived.Deep.AppendLies
import Derived.Deep.Draws
import Derived.Laws.Rows
import Derived.KernelRfl
import Derived.Lib.Hide
set_option linter.unusedVariables false
namespace Go.Proofs.YtbjbjnbloddioaaDoor
open Go.RowKit

def bv (b : UInt8) : Value := .int .u8 (b.toNat : Int)
def bvs (l : List UInt8) : List Value := l.map bv
theorem bvs_length (l : List UInt8) : (bvs l).length = l.length := by simp [bvs]
theorem bvs_append (a b : List UInt8) : bvs (a ++ b) = bvs a ++ bvs b := by simp [bvs]
theorem bvs_one (l : List UInt8) : ∀ u ∈ bvs l, u.oneCell' = true := by
  intro u hu
  obtain ⟨b, _, rfl⟩ := List.mem_map.1 hu
  rfl

theorem add_block (a : Addr) (n : Nat) : (a.add n).block = a.block := by unfold Addr.add; split <;> rfl
theorem add_add (a : Addr) (i j : Nat) : (a.add i).add j = a.add (i + j) := by
  unfold Addr.add
  by_cases hi : i = 0 <;> by_cases hj : j = 0 <;> simp [hi, hj, Nat.add_assoc]
theorem add_lit (g o n : Nat) : (⟨g, o, none⟩ : Addr).add n = ⟨g, o + n, none⟩ := by unfold Addr.add; split <;> simp_all

/-- From A on the world holds the cells xs. -/
def Rd (w : World) (A : Option Addr) (xs : List Value) : Prop := ∀ j u, xs[j]? = some u → ∃ g o, A = some ⟨g, o, none⟩ ∧ w.cell? ⟨g, o + j, none⟩ = some u

section
variable {w w' : World} {A : Option Addr} {xs ys : List Value}
theorem Rd.nil_ : Rd w A [] := fun j u h => by simp at h
theorem Rd.cell {j : Nat} {u : Value} {ad : Addr} (h : Rd w (some ad) xs) (hu : xs[j]? = some u) : w.cell? (ad.add j) = some u := by
  obtain ⟨g, o, e, hc⟩ := h j u hu
  injection e with e
  rw [e, add_lit]
  exact hc
theorem Rd.some_ (h : Rd w A xs) (hn : 0 < xs.length) : ∃ g o, A = some ⟨g, o, none⟩ := by
  obtain ⟨g, o, e, _⟩ := h 0 _ (List.getElem?_eq_getElem hn)
  exact ⟨g, o, e⟩
theorem Rd.below (h : Rd w A xs) (hb : Below w.heap.size w w') : Rd w' A xs := fun j u hu => by
  obtain ⟨g, o, e, hc⟩ := h j u hu
  exact ⟨g, o, e, (hb.cell (World.block_lt_of_cell? w _ hc)).trans hc⟩
theorem Rd.drop (h : Rd w A xs) (k : Nat) : Rd w (A.map (·.add k)) (xs.drop k) := fun j u hu => by
  rw [List.getElem?_drop] at hu
  obtain ⟨g, o, rfl, hc⟩ := h _ u hu
  exact ⟨g, o + k, by simp [add_lit], by rw [Nat.add_assoc]; exact hc⟩
/-- As the walk writes a cut. -/
theorem Rd.dropS (h : Rd w A xs) (k : Nat) (hk : k ≠ 0) : Rd w (Option.map (fun x => ({ block := x.block, off := x.off + k } : Addr)) A) (xs.drop k) := by
  have e : (fun x : Addr => ({ block := x.block, off := x.off + k } : Addr)) = fun x => x.add k := by
    funext x
    simp [Addr.add, hk]
  rw [e]
  exact h.drop k
theorem Rd.take (h : Rd w A xs) (k : Nat) : Rd w A (xs.take k) := fun j u hu => by
  rw [List.getElem?_take] at hu
  split at hu
  · exact h j u hu
  · cases hu
theorem Rd.prefix_ (h : Rd w A (xs ++ ys)) : Rd w A xs := by
  have := h.take xs.length
  simpa using this
theorem Rd.blk {g : Nat} {cs : Array Value} {t : TypeId} {fr : Nat × Nat} (h : w.heap[g]? = some (.cells cs t fr)) : Rd w (some ⟨g, 0, none⟩) cs.toList :=
  fun j u hu => ⟨g, 0, rfl, by have := World.news_of_block h j u hu; rwa [add_lit] at this⟩
theorem Rd.lit (w : World) (cs : Array Value) (t : TypeId) : Rd (w.alloc (.cells cs t)) (some ⟨w.heap.size, 0, none⟩) cs.toList := Rd.blk (heap_alloc_new w _)
theorem Rd.own {base : Nat} {e : TypeId} {k n c : Nat} (h : w.ownsRow base e k (.slice A n c) n xs) : Rd w A xs := by
  intro j u hu
  rcases h.2 with ⟨hv, h0⟩ | ⟨g, cap, cur, hv, _⟩
  · subst h0
    have : xs = [] := List.eq_nil_of_length_eq_zero (by simpa using h.1)
    subst this
    simp at hu
  · have hA : A = some ⟨g, 0, none⟩ := by injection hv
    subst hA
    exact ⟨g, 0, rfl, by have := h.cells (g := g) rfl j u hu; rwa [add_lit] at this⟩
end

/-- The same, below block U. -/
def RdU (w : World) (U : Nat) (A : Option Addr) (xs : List Value) : Prop := ∀ j u, xs[j]? = some u → ∃ g o, A = some ⟨g, o, none⟩ ∧ g < U ∧ w.cell? ⟨g, o + j, none⟩ = some u
section
variable {w w' : World} {U U' : Nat} {A : Option Addr} {xs : List Value}
theorem RdU.rd (h : RdU w U A xs) : Rd w A xs := fun j u hu => by
  obtain ⟨g, o, e, _, hc⟩ := h j u hu
  exact ⟨g, o, e, hc⟩
theorem RdU.nil_ : RdU w U A [] := fun j u h => by simp at h
theorem RdU.below (h : RdU w U A xs) (hb : Below U w w') : RdU w' U A xs := fun j u hu => by
  obtain ⟨g, o, e, hU, hc⟩ := h j u hu
  exact ⟨g, o, e, hU, (hb.cell hU).trans hc⟩
theorem Rd.rdU (h : Rd w A xs) : RdU w w.heap.size A xs := fun j u hu => by
  obtain ⟨g, o, e, hc⟩ := h j u hu
  exact ⟨g, o, e, World.block_lt_of_cell? w _ hc, hc⟩
theorem RdU.more (h : RdU w U A xs) (hU : U ≤ U') : RdU w U' A xs := fun j u hu => by
  obtain ⟨g, o, e, hl, hc⟩ := h j u hu
  exact ⟨g, o, e, by omega, hc⟩
theorem RdU.at_ (h : RdU w U A xs) {j : Nat} (hj : j < xs.length) : ∃ g o, A = some ⟨g, o, none⟩ ∧ g < U ∧ w.cell? ⟨g, o + j, none⟩ = some xs[j] := h j _ (List.getElem?_eq_getElem hj)
theorem RdU.drop (h : RdU w U A xs) (k : Nat) : RdU w U (A.map (·.add k)) (xs.drop k) := fun j u hu => by
  rw [List.getElem?_drop] at hu
  obtain ⟨g, o, rfl, hU, hc⟩ := h _ u hu
  exact ⟨g, o + k, by simp [add_lit], hU, by rw [Nat.add_assoc]; exact hc⟩
theorem RdU.dropS (h : RdU w U A xs) (k : Nat) (hk : k ≠ 0) : RdU w U (Option.map (fun x => ({ block := x.block, off := x.off + k } : Addr)) A) (xs.drop k) := by
  have e : (fun x : Addr => ({ block := x.block, off := x.off + k } : Addr)) = fun x => x.add k := by
    funext x
    simp [Addr.add, hk]
  rw [e]
  exact h.drop k
theorem RdU.take (h : RdU w U A xs) (k : Nat) : RdU w U A (xs.take k) := fun j u hu => by
  rw [List.getElem?_take] at hu
  split at hu
  · exact h j u hu
  · cases hu
end
theorem own_cap {w : World} {base : Nat} {e : TypeId} {k n m c : Nat} {A : Option Addr} {xs : List Value} (h : w.ownsRow base e k (.slice A n c) m xs) : m = n ∧ n ≤ c ∧ c ≤ maxLen := by
  rcases h.2 with ⟨hv, h0⟩ | ⟨g, cap, cur, hv, _, _, h1, h2, _⟩
  · injection hv with _ h3 h4; subst h0; subst h3; subst h4; exact ⟨rfl, by omega, by simp [maxLen]⟩
  · injection hv with _ h3 h4; subst h3; subst h4; exact ⟨rfl, h1, h2⟩

/-! ### append -/
section
variable {P : Program} (w : World)
theorem run_app (t ty e : TypeId) (z : Value) (size bytes base : Nat) (ht : P.underlying t = some (.slice e)) (hinfo : (P.info? e).map (fun i => (i.zero, i.size, i.bytes)) = some (some z, size, bytes))
    (hzs : z.cells.size = size) (hsz : 0 < size)
    (v : Value) (n : Nat) (xs : List Value) (hown : w.ownsRow base e size v n xs) (A : Option Addr) (m c : Nat) (news : List Value) (hl : news.length = m * size) (hr : Rd w A news) (h1 : ∀ u ∈ news, u.oneCell' = true)
    (hb : (n + m) * bytes ≤ 140737488355328) (hm : n + m ≤ 140737488355328) (hbase : base ≤ w.heap.size) :
    ∃ A' c' w', (Builtin.append_ #[t, t] ty #[v, .slice A m c]).run P w = .ok (.slice A' (n + m) c') w' ∧ w'.ownsRow base e size (.slice A' (n + m) c') (n + m) (xs ++ news) ∧ w.grownBy w' v.ownBlock ∧
      ((Value.slice A' (n + m) c').ownBlock = v.ownBlock ∨ (Value.slice A' (n + m) c').ownBlock = some w.heap.size) := by
  obtain ⟨i, hi, hzz⟩ := Option.map_eq_some_iff.1 hinfo
  simp only [Prod.mk.injEq] at hzz
  obtain ⟨hz0, hz1, hz2⟩ := hzz
  rcases Nat.eq_zero_or_pos m with h0 | h0
  · subst h0
    have hn : news = [] := List.eq_nil_of_length_eq_zero (by simpa using hl)
    subst hn
    rcases hown.2 with ⟨rfl, rfl⟩ | ⟨g, cap, cur, rfl, _, _, hnc, _⟩
    · exact ⟨none, 0, w, by cases A <;> simp [Builtin.append_, run_underlying ht, sizeOf, typeInfo, hi, Builtin.lenOf, Builtin.firstCells, loadCells, loadCellsFrom], by simpa using hown, World.grownBy.refl w _, .inl rfl⟩
    · exact ⟨_, cap, w, by cases A <;> simp [Builtin.append_, run_underlying ht, sizeOf, typeInfo, hi, Builtin.lenOf, Builtin.firstCells, hnc, storeCells, loadCells, loadCellsFrom], by simpa using hown, World.grownBy.refl w _, .inl rfl⟩
  · have hnl : 0 < news.length := by rw [hl]; exact Nat.mul_pos h0 hsz
    obtain ⟨ga, oa, rfl⟩ := hr.some_ hnl
    obtain ⟨v', w', hrun, h2, h3, _, h5⟩ := run_append_own_at (P := P) w base t ty e i z size bytes ht hi hz0 hz1 hz2 hzs hsz v n xs hown ⟨ga, oa, none⟩ m c news hl (fun j u hu => hr.cell hu) h1 (by simp only [maxLen]; omega) hb hbase
    obtain ⟨g, cap, rfl, _⟩ := h2.form (by omega)
    exact ⟨_, cap, w', hrun, h2, h3, h5⟩

theorem wp_app {o : Oper} {a : Act} {K : Act → World → Prop} {Q : Exit → Act → World → Prop} (s x : Operand) (t : TypeId)
    (ho : o.op = .call { callee := .builtin .append, args := #[s, x], argTypes := #[t, t] })
    (e : TypeId) (z : Value) (size bytes base : Nat) (ht : P.underlying t = some (.slice e)) (hinfo : (P.info? e).map (fun i => (i.zero, i.size, i.bytes)) = some (some z, size, bytes))
    (hzs : z.cells.size = size) (hsz : 0 < size)
    (v : Value) (n : Nat) (xs : List Value) (hs : a.eval s = v) (hown : w.ownsRow base e size v n xs) (A : Option Addr) (m c : Nat) (news : List Value) (hx : a.eval x = .slice A m c) (hl : news.length = m * size) (hr : Rd w A news) (h1 : ∀ u ∈ news, u.oneCell' = true)
    (hb : (n + m) * bytes ≤ 140737488355328) (hm : n + m ≤ 140737488355328) (hbase : base ≤ w.heap.size)
    (h : ∀ A' c' w', w'.ownsRow base e size (.slice A' (n + m) c') (n + m) (xs ++ news) → w.grownBy w' v.ownBlock →
      ((Value.slice A' (n + m) c').ownBlock = v.ownBlock ∨ (Value.slice A' (n + m) c').ownBlock = some w.heap.size) → K (a.put o.dst (.slice A' (n + m) c')) w') : o.wp P a w K Q := by
  obtain ⟨A', c', w', hrun, h2, h3, h4⟩ := run_app (P := P) w t o.type e z size bytes base ht hinfo hzs hsz v n xs hown A m c news hl hr h1 hb hm hbase
  unfold Oper.wp execOp
  simp only [ho, resolve, invoke, builtin, Sem.run_bind, Sem.run_pure, Result.andThen_ok, List.map_toArray, List.map_cons, List.map_nil, hs, hx, hrun]
  exact h A' c' w' h2 h3 h4

theorem wpList_app {ops : Array Oper} {rest : List Oper} {o : Oper} {a : Act} {Q : Exit → Act → World → Prop} (hgd : o.guard = none) (s x : Operand) (t : TypeId)
    (ho : o.op = .call { callee := .builtin .append, args := #[s, x], argTypes := #[t, t] })
    (e : TypeId) (z : Value) (size bytes base : Nat) (ht : P.underlying t = some (.slice e)) (hinfo : (P.info? e).map (fun i => (i.zero, i.size, i.bytes)) = some (some z, size, bytes))
    (hzs : z.cells.size = size) (hsz : 0 < size)
    (v : Value) (n : Nat) (xs : List Value) (hs : a.eval s = v) (hown : w.ownsRow base e size v n xs) (A : Option Addr) (m c : Nat) (news : List Value) (hx : a.eval x = .slice A m c) (hl : news.length = m * size) (hr : Rd w A news) (h1 : ∀ u ∈ news, u.oneCell' = true)
    (hb : (n + m) * bytes ≤ 140737488355328) (hm : n + m ≤ 140737488355328) (hbase : base ≤ w.heap.size)
    (h : ∀ A' c' w', w'.ownsRow base e size (.slice A' (n + m) c') (n + m) (xs ++ news) → w.grownBy w' v.ownBlock →
      ((Value.slice A' (n + m) c').ownBlock = v.ownBlock ∨ (Value.slice A' (n + m) c').ownBlock = some w.heap.size) → wpList P ops Q rest (a.put o.dst (.slice A' (n + m) c')) w') : wpList P ops Q (o :: rest) a w :=
  wpList_plain hgd fun _ hK => wp_app w s x t ho e z size bytes base ht hinfo hzs hsz v n xs hs hown A m c news hx hl hr h1 hb hm hbase fun A' c' w' h2 h3 h4 => hK _ _ (h A' c' w' h2 h3 h4)

theorem step_app {ops : Array Oper} {o : Oper} {a : Act} {K : Act → World → Prop} {Q : Exit → Act → World → Prop} {E : Prop} (hgd : o.guard = none) (s x : Operand) (t : TypeId)
    (ho : o.op = .call { callee := .builtin .append, args := #[s, x], argTypes := #[t, t] })
    (e : TypeId) (z : Value) (size bytes base : Nat) (ht : P.underlying t = some (.slice e)) (hinfo : (P.info? e).map (fun i => (i.zero, i.size, i.bytes)) = some (some z, size, bytes))
    (hzs : z.cells.size = size) (hsz : 0 < size)
    (v : Value) (n : Nat) (xs : List Value) (hs : a.eval s = v) (hown : w.ownsRow base e size v n xs) (A : Option Addr) (m c : Nat) (news : List Value) (hx : a.eval x = .slice A m c) (hl : news.length = m * size) (hr : Rd w A news) (h1 : ∀ u ∈ news, u.oneCell' = true)
    (hb : (n + m) * bytes ≤ 140737488355328) (hm : n + m ≤ 140737488355328) (hbase : base ≤ w.heap.size)
    (h : ∀ A' c' w', w'.ownsRow base e size (.slice A' (n + m) c') (n + m) (xs ++ news) → w.grownBy w' v.ownBlock →
      ((Value.slice A' (n + m) c').ownBlock = v.ownBlock ∨ (Value.slice A' (n + m) c').ownBlock = some w.heap.size) → K (a.put o.dst (.slice A' (n + m) c')) w') :
    if Region.wanted o (yielded ops a.tmps) = true then Oper.wp P o a w K Q else E := by
  have hw : Region.wanted o (yielded ops a.tmps) = true := by simp [Region.wanted, hgd]
  rw [if_pos hw]
  exact wp_app w s x t ho e z size bytes base ht hinfo hzs hsz v n xs hs hown A m c news hx hl hr h1 hb hm hbase h
end

#print axioms step_app
end Go.Proofs.YtbjbjnbloddioaaDoor
