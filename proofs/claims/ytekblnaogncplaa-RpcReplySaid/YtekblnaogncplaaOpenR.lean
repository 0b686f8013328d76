/- Arguments opened: a reply. -/
import Derived.Test.YtekblnaogncplaaOpen
set_option linter.unusedVariables false
set_option linter.unusedSimpArgs false
namespace Go.Proofs.Ytekblnaogncplaa
open Go.RowKit Go.ChangeShapes Go.WideShapes Go.Deep

theorem cells45 : Try.prog.cellsOf 45 = 1 := by kernel_rfl
theorem cells46 : Try.prog.cellsOf 46 = 1 := by kernel_rfl
theorem cells48 : Try.prog.cellsOf 48 = 6 := by kernel_rfl
section
variable {H : Type} {enc : TypeId × Value → H} {w : World} {held : Bool} {n : Nat} {base : Nat}
theorem ints_open {c : Value} {y : DataW H × List MemPlace} (h : DataW.trod enc Try.prog w base (fun _ => true) held n 45 [c] = some y) :
    ∃ A l cap, c = .slice A (l : List Int).length cap ∧ l.length ≤ cap ∧ cap ≤ maxLen ∧ RdU w w.heap.size A (ints l) := by
  rcases open_slice1 Try.underlying45 cells3 h with ⟨h0, _⟩ | ⟨a, len, cap, m, k, V, D, Pl, hc, hb, hl, hm, hmm, hx, hi⟩
  · refine ⟨none, [], 0, by simpa using h0, Nat.le_refl _, by simp [maxLen], fun j u hu => by simp [ints] at hu⟩
  · have hmm : m = cap := by simpa using hmm
    subst hmm
    have hV : ∀ i, i < m → ∃ b : Int, V i = .int .i64 b := fun i him => by
      obtain ⟨x, h1, _, h3⟩ := DataW.trod_int Try.underlying3 (hi i him).2
      exact ⟨x, by simpa using h1⟩
    obtain ⟨B, hB⟩ := choose_lt hV
    refine ⟨some a, (List.range len).map B, m, by simpa using hc, by simpa using hl, hm, fun j u hu => ?_⟩
    have hj : j < len := by
      have := (List.getElem?_eq_some_iff.1 hu).1
      simpa [ints] using this
    have hcell := (hi j (by omega)).1
    have hu' : u = V j := by
      rw [hB j (by omega)]
      simp [ints, hj] at hu
      exact hu.symm
    obtain ⟨g, o, rfl⟩ := plain_addr (hi 0 (by omega)).1
    rw [add_lit] at hcell
    exact ⟨g, o, rfl, World.block_lt_of_cell? w _ hcell, by rw [hu']; exact hcell⟩

/-- A reply that came in. -/
theorem reply_open {v : Value} {d : DataW H} {p : List MemPlace} {r : Reach} {b0 : Nat} (hv : Value.okWide Try.prog w r b0 48 v) (h : DataW.Trod enc Try.prog w base (fun _ => true) held 48 v d p) :
    ∃ x q, v = .agg (replyCells x q) ∧ ReplyU w w.heap.size x q ∧ x.list.length ≤ maxLen ∧ x.attrs.length ≤ maxLen := by
  obtain ⟨cs, rfl, hsz⟩ := okWide_struct Try.underlying48 hv
  rw [cells48] at hsz
  obtain ⟨l⟩ := cs
  match l, hsz with
  | [c0, c1, c2, c3, c4, c5], _ =>
    obtain ⟨fuel, hf⟩ := h
    obtain ⟨xs, k, _, _, _, hlen, hg⟩ := DataW.trod_struct Try.underlying48 hf
    have g0 := hg 0 _ rfl
    have g1 := hg 1 _ rfl
    have g2 := hg 2 _ rfl
    have g3 := hg 3 _ rfl
    have g4 := hg 4 _ rfl
    have g5 := hg 5 _ rfl
    simp [cells3, cells46, cells22, cells25, cells45, Value.cells] at g0 g1 g2 g3 g4 g5
    match xs, hlen with
    | [x0, x1, x2, x3, x4, x5], _ =>
      obtain ⟨n0, e0, _⟩ := DataW.trod_int Try.underlying46 (g0.trans rfl : _ = some x0)
      obtain ⟨n1, e1, _⟩ := DataW.trod_int Try.underlying3 (g1.trans rfl : _ = some x1)
      obtain ⟨n2, e2, _⟩ := DataW.trod_int Try.underlying3 (g2.trans rfl : _ = some x2)
      obtain ⟨Ad, ld, cd, e3, hd1, _, hd2⟩ := bytes_open (g3.trans rfl : _ = some x3)
      obtain ⟨Al, ll, cl, e4, hl1, hl3, hl2⟩ := ints_open (g4.trans rfl : _ = some x4)
      obtain ⟨At, Lt, ct, e5, ht1, ht3, ht2⟩ := attrs_open (g5.trans rfl : _ = some x5)
      have e0 : c0 = .int .i64 n0 := by simpa using e0
      have e1 : c1 = .int .i64 n1 := by simpa using e1
      have e2 : c2 = .int .i64 n2 := by simpa using e2
      subst e0 e1 e2 e3 e4 e5
      exact ⟨⟨n0, n1, n2, ld, ll, Lt⟩, ⟨Ad, cd, Al, cl, At, ct⟩, rfl, ⟨hd2, hd1, hl2, hl1, ht2, ht1⟩, Nat.le_trans hl1 hl3, Nat.le_trans ht1 ht3⟩
end
end Go.Proofs.Ytekblnaogncplaa
