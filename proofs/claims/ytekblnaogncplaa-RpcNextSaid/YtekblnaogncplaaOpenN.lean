/- Arguments opened: calls. -/
import Derived.Test.YtekblnaogncplaaOpen
import Derived.Test.YtekblnaogncplaaNd
set_option linter.unusedVariables false
set_option linter.unusedSimpArgs false
namespace Go.Proofs.Ytekblnaogncplaa
open Go.RowKit Go.ChangeShapes Go.WideShapes Go.Deep

section
variable {H : Type} {enc : TypeId × Value → H} {w : World} {held : Bool} {n : Nat} {base : Nat}
theorem call_cells {cs : List Value} (hsz : cs.length = 11) {fuel : Nat} {y : DataW H × List MemPlace} (hf : DataW.trod enc Try.prog w base (fun _ => true) held fuel 27 cs = some y) :
    ∃ x q, cs = (callCells x q).toList ∧ CallU w w.heap.size x q ∧ x.t1.length ≤ maxLen ∧ x.t2.length ≤ maxLen := by
  match cs, hsz with
  | [c0, c1, c2, c3, c4, c5, c6, c7, c8, c9, c10], _ =>
    obtain ⟨xs, k, _, _, _, hlen, hg⟩ := DataW.trod_struct Try.underlying27 hf
    have g0 := hg 0 _ rfl
    have g1 := hg 1 _ rfl
    have g2 := hg 2 _ rfl
    have g3 := hg 3 _ rfl
    have g4 := hg 4 _ rfl
    have g5 := hg 5 _ rfl
    have g6 := hg 6 _ rfl
    have g7 := hg 7 _ rfl
    have g8 := hg 8 _ rfl
    have g9 := hg 9 _ rfl
    simp [cells3, cells24, cells22, cells25, Value.cells] at g0 g1 g2 g3 g4 g5 g6 g7 g8 g9
    match xs, hlen with
    | [x0, x1, x2, x3, x4, x5, x6, x7, x8, x9], _ =>
      obtain ⟨n0, e0, _⟩ := DataW.trod_int Try.underlying3 (g0.trans rfl : _ = some x0)
      obtain ⟨n1, e1, _⟩ := DataW.trod_int Try.underlying3 (g1.trans rfl : _ = some x1)
      obtain ⟨n2, e2, _⟩ := DataW.trod_int Try.underlying3 (g2.trans rfl : _ = some x2)
      obtain ⟨n3, e3, _⟩ := DataW.trod_int Try.underlying3 (g3.trans rfl : _ = some x3)
      obtain ⟨n4, e4, _⟩ := DataW.trod_int Try.underlying3 (g4.trans rfl : _ = some x4)
      obtain ⟨y0, y1, k2, _, _, f0, f1⟩ := trod_struct2 Try.underlying24 (g5.trans rfl : _ = some x5)
      have f0 : DataW.trod enc Try.prog w base (fun _ => true) held k2 3 [c5] = some y0 := by simpa [cells3] using f0
      have f1 : DataW.trod enc Try.prog w base (fun _ => true) held k2 22 [c6] = some y1 := by simpa [cells22] using f1
      obtain ⟨n5, e5, _⟩ := DataW.trod_int Try.underlying3 f0
      obtain ⟨Ap, lp, cp, e6, hp1, _, hp2⟩ := bytes_open f1
      obtain ⟨Ad, ld, cd, e7, hd1, _, hd2⟩ := bytes_open (g6.trans rfl : _ = some x6)
      obtain ⟨Am, lm, cm, e8, hm1, _, hm2⟩ := bytes_open (g7.trans rfl : _ = some x7)
      obtain ⟨At, Lt, ct, e9, ht1, ht3, ht2⟩ := attrs_open (g8.trans rfl : _ = some x8)
      obtain ⟨Au, Lu, cu, e10, hu1, hu3, hu2⟩ := attrs_open (g9.trans rfl : _ = some x9)
      have e0 : c0 = .int .i64 n0 := by simpa using e0
      have e1 : c1 = .int .i64 n1 := by simpa using e1
      have e2 : c2 = .int .i64 n2 := by simpa using e2
      have e3 : c3 = .int .i64 n3 := by simpa using e3
      have e4 : c4 = .int .i64 n4 := by simpa using e4
      have e5 : c5 = .int .i64 n5 := by simpa using e5
      subst e0 e1 e2 e3 e4 e5 e6 e7 e8 e9 e10
      exact ⟨⟨n0, n1, n2, n3, n4, n5, lp, ld, lm, Lt, Lu⟩, ⟨Ap, cp, Ad, cd, Am, cm, At, ct, Au, cu⟩, rfl, ⟨hp2, hp1, hd2, hd1, hm2, hm1, ht2, ht1, hu2, hu1⟩, Nat.le_trans ht1 ht3, Nat.le_trans hu1 hu3⟩


theorem calls_open {c : Value} {y : DataW H × List MemPlace} (h : DataW.trod enc Try.prog w base (fun _ => true) held n 36 [c] = some y) :
    ∃ A L cap, c = .slice A (L : List CallD).length cap ∧ L.length ≤ cap ∧ cap ≤ maxLen ∧ CallsU w w.heap.size A L := by
  rcases open_slice Try.underlying36 h with ⟨h0, _⟩ | ⟨a, len, cap, m, k, D, Pl, hc, hb, hl, hm, hmm, hx, hi⟩
  · exact ⟨none, [], 0, by simpa using h0, Nat.le_refl _, by simp [maxLen], fun j x hu => by simp at hu⟩
  · have hmm : m = cap := by simpa using hmm
    subst hmm
    rw [cells27] at hi
    have hV : ∀ i, i < m → ∃ p : CallD × CallP, (∀ (j : Nat) (v : Value), (callCells p.1 p.2)[j]? = some v → w.cell? ((a.add (i * 11)).add j) = some v) ∧ CallU w w.heap.size p.1 p.2 ∧ p.1.t1.length ≤ maxLen ∧ p.1.t2.length ≤ maxLen := fun i him => by
      obtain ⟨cs, h1, h2⟩ := hi i him
      obtain ⟨_, hcl, hat⟩ := World.cells?_some h1
      obtain ⟨x, q, hcs, hU, l1, l2⟩ := call_cells hcl h2
      refine ⟨(x, q), fun j v hv => ?_, hU, l1, l2⟩
      have hj : j < 11 := (Array.getElem?_eq_some_iff.1 hv).1
      have hj2 := hat j (by omega)
      rw [hj2]
      have : cs[j]? = some v := by rw [hcs]; simpa using hv
      rw [← this]
    have hinh : Inhabited (CallD × CallP) := ⟨(zeroCall, zeroP)⟩
    obtain ⟨B, hB⟩ := choose_lt hV
    refine ⟨some a, (List.range len).map (fun i => (B i).1), m, by simpa using hc, by simpa using hl, hm, fun i x hu => ?_⟩
    have hj : i < len := by
      have := (List.getElem?_eq_some_iff.1 hu).1
      simpa using this
    have hu' : (B i).1 = x := by
      simp [hj] at hu
      exact hu
    obtain ⟨q1, q2, q3, q4⟩ := hB i (by omega)
    have q0 := (hB 0 (by omega)).1 0 _ rfl
    rw [Nat.zero_mul] at q0
    have e0 : (a.add 0).add 0 = a.add 0 := add_add a 0 0
    rw [e0] at q0
    obtain ⟨g, o, rfl⟩ := plain_addr q0
    rw [hu'] at q1 q2 q3 q4
    have q1' : ∀ (j : Nat) (v : Value), (callCells x (B i).2)[j]? = some v → w.cell? ⟨g, o + i * 11 + j, none⟩ = some v := fun j v hv => by
      have := q1 j v hv
      rwa [add_lit, add_lit] at this
    exact ⟨g, o, (B i).2, rfl, World.block_lt_of_cell? w _ (q1' 0 _ rfl), q1', q2, Nat.le_trans q3 (by decide), Nat.le_trans q4 (by decide)⟩
end
end Go.Proofs.Ytekblnaogncplaa
