/- RpcNext. -/
import Derived.Test.YtekblnaogncplaaNb
import Derived.Test.YtekblnaogncplaaNc
import Derived.Test.YtekblnaogncplaaW
import Derived.Test.YtekblnaogncplaaXb
set_option linter.unusedVariables false
set_option linter.unusedSimpArgs false
namespace Go.Proofs.Ytekblnaogncplaa
open Go.RowKit Go.Shelf
attribute [local go_sem] Oper.semAt_some

/-- From A on calls, below block U. -/
def CallsU (w : World) (U : Nat) (A : Option Addr) (L : List CallD) : Prop :=
  ∀ (i : Nat) (x : CallD), L[i]? = some x → ∃ g o q, A = some ⟨g, o, none⟩ ∧ g < U ∧ (∀ (j : Nat) (v : Value), (callCells x q)[j]? = some v → w.cell? ⟨g, o + i * 11 + j, none⟩ = some v) ∧ CallU w U x q ∧ x.t1.length ≤ 9223372036854775807 ∧ x.t2.length ≤ 9223372036854775807
theorem cutN_len (n : Nat) (L : List AttrD) : (cutA n L).length ≤ 14 ∧ ∀ a ∈ cutA n L, a.2.length ≤ n := by
  refine ⟨by simp [cutA]; omega, fun a ha => ?_⟩
  obtain ⟨b, hb, rfl⟩ := List.mem_map.1 ha
  simp
  omega
theorem cutCall_MN (x : CallD) : CallM 100000 (cutCall x) :=
  ⟨by simp [cutCall]; omega, by simp [cutCall]; omega, by simp [cutCall]; omega, Nat.le_trans (cutN_len _ _).1 (by omega), Nat.le_trans (cutN_len _ _).1 (by omega), fun a ha => Nat.le_trans ((cutN_len _ _).2 a ha) (by omega), fun a ha => Nat.le_trans ((cutN_len _ _).2 a ha) (by omega)⟩
theorem ref_le {x : CallD} {f : List UInt8} (h : encRef x = some f) : f.length ≤ 262148 := by
  rw [← enc_same] at h
  exact (read_back h).2.2

/-- What stands: most's box, the result's, begun's, the bytes'. -/
structure NAt (w : World) (B : Nat) (wk : World) (most : Int) (A : Option Addr) (c : Nat) (l : List UInt8) : Prop where
  h5 : wk.heap[w.heap.size]? = some (.cells #[.int .i64 most] 3 (0, 0))
  h6 : wk.heap[w.heap.size + 1]? = some (.cells #[.bool false] 4 (0, 0))
  h7 : wk.heap[B]? = some (.cells #[.bool true] 4 (0, 0))
  h8 : wk.heap[B + 1]? = some (.cells #[.slice A l.length c] 22 (0, 0))
  own : wk.ownsRow (B + 2) 5 1 (.slice A l.length c) l.length (bvs l)
  below : Below w.heap.size w wk
  le : w.heap.size + 2 ≤ B
section
variable {w wk w' : World} {B : Nat} {most : Int} {A : Option Addr} {c : Nat} {l : List UInt8}
theorem NAt.size (h : NAt w B wk most A c l) : B + 1 < wk.heap.size := (Array.getElem?_eq_some_iff.1 h.h8).1
theorem NAt.kept (h : NAt w B wk most A c l) (hb : Below wk.heap.size wk w') : NAt w B w' most A c l := by
  have hz := h.size
  have hl := h.le
  exact ⟨(hb.block _ (by omega)).trans h.h5, (hb.block _ (by omega)).trans h.h6, (hb.block _ (by omega)).trans h.h7, (hb.block _ (by omega)).trans h.h8, own_below h.own hb, h.below.trans (hb.mono h.below.size), hl⟩
/-- Behind an append, ahead of its store. -/
theorem NAt.mid (h : NAt w B wk most A c l) (hg : wk.grownBy w' (Value.slice A l.length c).ownBlock) : w'.cell? ⟨B + 1, 0, none⟩ = some (.slice A l.length c) ∧ w'.frozen? ⟨B + 1, 0, none⟩ = false := by
  have hz := h.size
  have h8 := (hg.block (B + 1) hz (fun e => by have := (h.own.lt _ e.symm).1; omega)).trans h.h8
  exact ⟨cell_of_row w' _ 0 _ 22 (0, 0) h8, frozen_of_row w' _ 0 _ 22 h8⟩
theorem NAt.app (h : NAt w B wk most A c l) (hg : wk.grownBy w' (Value.slice A l.length c).ownBlock) {f : List UInt8} {m : Nat} (hm : f.length = m) {A' : Option Addr} {c' : Nat}
    (ho : w'.ownsRow (B + 2) 5 1 (.slice A' (l.length + m) c') (l.length + m) (bvs l ++ bvs f)) : NAt w B (w'.setCell ⟨B + 1, 0, none⟩ (.slice A' (l.length + m) c')) most A' c' (l ++ f) := by
  subst hm
  have hz := h.size
  have hl := h.le
  have hne : ∀ k, k ≤ B + 1 → some k ≠ (Value.slice A l.length c).ownBlock := fun k hk e => by have := (h.own.lt _ e.symm).1; omega
  have e1 : (l ++ f).length = l.length + f.length := by simp
  have hb : ∀ k, k ≤ B → (w'.setCell ⟨B + 1, 0, none⟩ (.slice A' (l.length + f.length) c')).heap[k]? = wk.heap[k]? := fun k hk =>
    (heap_setCell_other w' _ k _ (by simp; omega)).trans (hg.block k (by omega) (hne k (by omega)))
  refine ⟨(hb _ (by omega)).trans h.h5, (hb _ (by omega)).trans h.h6, (hb _ (by omega)).trans h.h7, ?_, ?_, ?_, hl⟩
  · rw [e1]
    have := heap_setCell_same w' (B + 1) 0 _ 22 (.slice A' (l.length + f.length) c') ((hg.block (B + 1) hz (hne _ (Nat.le_refl _))).trans h.h8)
    simpa using this
  · rw [e1, bvs_append]
    exact ho.kept (row := some (B + 1)) ⟨rfl, rfl, rfl, by simp, fun k hk hne => heap_setCell_other w' _ k _ (fun e => hne (by simp [e]))⟩ (.inr fun e => by have := (ho.lt _ e).1; omega)
  · have hb1 : Below w.heap.size wk w' := ⟨hg.os, hg.tape, hg.output, hg.size, fun k hk => hg.block k (by omega) (hne k (by omega))⟩
    exact (h.below.trans hb1).setCell (by simp; omega) _
end
theorem next_ge (l : List UInt8) (h : (nextOf l).2.1 ≠ 0) : 4 ≤ (nextOf l).2.1 := by
  unfold nextOf at h ⊢
  split
  · rename_i h4
    rw [if_pos h4] at h
    exact absurd rfl h
  · dsimp only
    rename_i h4
    rw [if_neg h4] at h
    dsimp only at h
    split
    · rename_i hb
      rw [if_pos hb] at h
      exact absurd rfl h
    · rename_i hb
      rw [if_neg hb] at h
      split
      · rename_i hc
        rw [if_pos hc] at h
        exact absurd rfl h
      · show 4 ≤ 4 + _
        omega
theorem below_grow {n₀ : Nat} {w w' : World} (hg : w.grownBy w' none) (h : n₀ ≤ w.heap.size) : Below n₀ w w' := ⟨hg.os, hg.tape, hg.output, hg.size, fun k hk => hg.block k (by omega) (by simp)⟩
theorem gn_put (l : List UInt8) : ∀ (pre : List (Int × Value)) (x : Int × Value) (W : World) (k : Nat) (o o' : Obj), GN l pre x W → W.heap[k]? = some o → o.isCells = false → GN l pre x (W.putObj k o') := by
  rintro pre x W k o o' ⟨h1, h2, A, c, h3, h4⟩ hk ho
  refine ⟨h1, h2, A, c, h3, fun j u hu => ?_⟩
  obtain ⟨g, o1, e, hc⟩ := h4 j u hu
  exact ⟨g, o1, e, cell_kept hc (grownBy_putObj' W k o') (fun r e => by cases e; exact ⟨o, hk, ho⟩)⟩
theorem results_cell1 {fn : Func} {p : Tmp} {ty : TypeId} (h : fn.results = #[.cell p ty]) (tmps : Array Value) (P : Program) (w : World) (a : Addr) (v : Value) (hp : tmps.getD p undef = .pointer (some a)) (hl : (loadVar ty a).run P w = .ok v w) :
    (results fn tmps).run P w = .ok v w := by
  have hp' : tmps[p]?.getD undef = .pointer (some a) := by simpa using hp
  simp only [results, h]
  simp [Sem.run_bind, Result.andThen, hp', asAddr, hl]
theorem load_bool {w : World} {a : Addr} {b : Bool} (h : w.cell? a = some (.bool b)) : (loadVar 4 a).run Try.prog w = .ok (.bool b) w := by
  simp [loadVar, isAgg, run_underlying Try.underlying4, Go.load, Sem.run, h, Result.andThen]
end Go.Proofs.Ytekblnaogncplaa
