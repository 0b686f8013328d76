/- Arguments opened: bytes, attributes, a call. -/
import Derived.Test.YtekblnaogncplaaI
import Derived.Deep.Slices
import Derived.ChangeSame
import Derived.Below
import Derived.Carry
import Derived.ChangeOld
set_option linter.unusedVariables false
set_option linter.unusedSimpArgs false
namespace Go.Proofs.Ytekblnaogncplaa
open Go.RowKit Go.ChangeShapes Go.WideShapes Go.Deep

theorem cells5 : Try.prog.cellsOf 5 = 1 := by kernel_rfl
theorem cells50 : Try.prog.cellsOf 50 = 2 := by kernel_rfl
theorem cells22 : Try.prog.cellsOf 22 = 1 := by kernel_rfl
theorem cells3 : Try.prog.cellsOf 3 = 1 := by kernel_rfl
theorem cells24 : Try.prog.cellsOf 24 = 2 := by kernel_rfl
theorem cells25 : Try.prog.cellsOf 25 = 1 := by kernel_rfl
theorem cells27 : Try.prog.cellsOf 27 = 11 := by kernel_rfl

theorem plain_addr {w : World} {a : Addr} {v : Value} (h : w.cell? (a.add 0) = some v) : ∃ g o, a = ⟨g, o, none⟩ := by
  have hs := World.cell?_spot h
  cases a with
  | mk b o s =>
    cases s with
    | none => exact ⟨b, o, rfl⟩
    | some s => unfold Addr.add at hs; simp at hs

section
variable {H : Type} {enc : TypeId × Value → H} {w : World} {held : Bool} {n : Nat} {base : Nat}

theorem bytes_open {c : Value} {y : DataW H × List MemPlace} (h : DataW.trod enc Try.prog w base (fun _ => true) held n 22 [c] = some y) :
    ∃ A l cap, c = .slice A (l : List UInt8).length cap ∧ l.length ≤ cap ∧ cap ≤ maxLen ∧ RdU w w.heap.size A (bvs l) := by
  rcases open_slice1 Try.underlying22 cells5 h with ⟨h0, _⟩ | ⟨a, len, cap, m, k, V, D, Pl, hc, hb, hl, hm, hmm, hx, hi⟩
  · refine ⟨none, [], 0, by simpa using h0, Nat.le_refl _, by simp [maxLen], fun j u hu => by simp [bvs] at hu⟩
  · have hmm : m = cap := by simpa using hmm
    subst hmm
    have hV : ∀ i, i < m → ∃ b : UInt8, V i = bv b := fun i him => by
      obtain ⟨x, h1, _, h3⟩ := DataW.trod_int Try.underlying5 (hi i him).2
      have h1 : V i = .int .u8 x := by simpa using h1
      have h3 : 0 ≤ x ∧ x < 256 := by
        simp [Lit.wf, IntKind.min, IntKind.max, IntKind.signed, IntKind.bits] at h3
        omega
      refine ⟨UInt8.ofNat x.toNat, ?_⟩
      rw [h1]
      show Value.int .u8 x = .int .u8 ((UInt8.ofNat x.toNat).toNat : Int)
      congr 1
      simp
      omega
    obtain ⟨B, hB⟩ := choose_lt hV
    refine ⟨some a, (List.range len).map B, m, by simpa using hc, by simpa using hl, hm, fun j u hu => ?_⟩
    have hj : j < len := by
      have := (List.getElem?_eq_some_iff.1 hu).1
      simpa [bvs_length] using this
    have hcell := (hi j (by omega)).1
    have hu' : u = V j := by
      rw [hB j (by omega)]
      simp [bvs, hj] at hu
      exact hu.symm
    obtain ⟨g, o, rfl⟩ := plain_addr (hi 0 (by omega)).1
    rw [add_lit] at hcell
    exact ⟨g, o, rfl, World.block_lt_of_cell? w _ hcell, by rw [hu']; exact hcell⟩

theorem attrs_open {c : Value} {y : DataW H × List MemPlace} (h : DataW.trod enc Try.prog w base (fun _ => true) held n 25 [c] = some y) :
    ∃ A L cap, c = .slice A (L : List AttrD).length cap ∧ L.length ≤ cap ∧ cap ≤ maxLen ∧ AtU w w.heap.size A L := by
  rcases open_slice Try.underlying25 h with ⟨h0, _⟩ | ⟨a, len, cap, m, k, D, Pl, hc, hb, hl, hm, hmm, hx, hi⟩
  · exact ⟨none, [], 0, by simpa using h0, Nat.le_refl _, by simp [maxLen], fun j t v hu => by simp at hu⟩
  · have hmm : m = cap := by simpa using hmm
    subst hmm
    rw [cells50] at hi
    have hV : ∀ i, i < m → ∃ p : AttrD, w.cell? (a.add (i * 2)) = some (.int .i64 p.1) ∧ ∃ Av cv, w.cell? ((a.add (i * 2)).add 1) = some (.slice Av p.2.length cv) ∧ p.2.length ≤ cv ∧ RdU w w.heap.size Av (bvs p.2) := fun i him => by
      obtain ⟨cs, h1, h2⟩ := hi i him
      obtain ⟨_, hcl, hat⟩ := World.cells?_some h1
      obtain ⟨y0, y1, k2, _, _, hf0, hf1⟩ := trod_struct2 Try.underlying50 h2
      match cs, hcl with
      | [c0, c1], _ =>
        have hf0 : DataW.trod enc Try.prog w base (fun _ => true) held k2 3 [c0] = some y0 := by simpa [cells3] using hf0
        have hf1 : DataW.trod enc Try.prog w base (fun _ => true) held k2 22 [c1] = some y1 := by simpa [cells22] using hf1
        obtain ⟨x, e1, _, _⟩ := DataW.trod_int Try.underlying3 hf0
        have e1 : c0 = .int .i64 x := by simpa using e1
        obtain ⟨Av, l, cv, e2, hlc, _, hrd⟩ := bytes_open hf1
        have a0 := hat 0 (by omega)
        have a1 := hat 1 (by omega)
        refine ⟨(x, l), ?_, Av, cv, ?_, hlc, hrd⟩
        · rw [← e1]
          have e0 : (a.add (i * 2)).add 0 = a.add (i * 2) := by rw [add_add]; rfl
          rw [e0] at a0
          simpa using a0
        · rw [← e2]; simpa using a1
    obtain ⟨B, hB⟩ := choose_lt hV
    refine ⟨some a, (List.range len).map B, m, by simpa using hc, by simpa using hl, hm, fun i t v hu => ?_⟩
    have hj : i < len := by
      have := (List.getElem?_eq_some_iff.1 hu).1
      simpa using this
    have hu' : B i = (t, v) := by
      simp [hj] at hu
      exact hu
    obtain ⟨q1, Av, cv, q2, q3, q4⟩ := hB i (by omega)
    have q0 := (hB 0 (by omega)).1
    rw [Nat.zero_mul] at q0
    obtain ⟨g, o, rfl⟩ := plain_addr q0
    rw [hu'] at q1 q2 q3 q4
    rw [add_lit] at q1 q2
    rw [add_lit] at q2
    exact ⟨g, o, rfl, World.block_lt_of_cell? w _ q1, q1, Av, cv, q2, q3, q4⟩

/-- A call that came in. -/
theorem call_open {v : Value} {d : DataW H} {p : List MemPlace} {r : Reach} {b0 : Nat} (hv : Value.okWide Try.prog w r b0 27 v) (h : DataW.Trod enc Try.prog w base (fun _ => true) held 27 v d p) :
    ∃ x q, v = .agg (callCells x q) ∧ CallU w w.heap.size x q ∧ x.t1.length ≤ maxLen ∧ x.t2.length ≤ maxLen := by
  obtain ⟨cs, rfl, hsz⟩ := okWide_struct Try.underlying27 hv
  rw [cells27] at hsz
  obtain ⟨l⟩ := cs
  match l, hsz with
  | [c0, c1, c2, c3, c4, c5, c6, c7, c8, c9, c10], _ =>
    obtain ⟨fuel, hf⟩ := h
    obtain ⟨xs, k, _, _, _, hlen, hg⟩ := DataW.trod_struct Try.underlying27 hf
    have hone : ∀ (j : Nat) (f : Field) , (#[] : Array Field)[j]? = some f → True := fun _ _ _ => trivial
    have g0 := hg 0 _ rfl
    have g1 := hg 1 _ rfl
    have g2 := hg 2 _ rfl
    have g3 := hg 3 _ rfl
    have g4 := hg 4 _ rfl
    have g5 := hg 5 _ rfl
    have g6 := hg 6 _ rfl
    have g7 := hg 7 _ rfl
    have g8 := hg 8 _ rfl
    have g9 := hg 9 _ rfl
    simp [cells3, cells24, cells22, cells25, Value.cells] at g0 g1 g2 g3 g4 g5 g6 g7 g8 g9
    match xs, hlen with
    | [x0, x1, x2, x3, x4, x5, x6, x7, x8, x9], _ =>
      obtain ⟨n0, e0, _⟩ := DataW.trod_int Try.underlying3 (g0.trans rfl : _ = some x0)
      obtain ⟨n1, e1, _⟩ := DataW.trod_int Try.underlying3 (g1.trans rfl : _ = some x1)
      obtain ⟨n2, e2, _⟩ := DataW.trod_int Try.underlying3 (g2.trans rfl : _ = some x2)
      obtain ⟨n3, e3, _⟩ := DataW.trod_int Try.underlying3 (g3.trans rfl : _ = some x3)
      obtain ⟨n4, e4, _⟩ := DataW.trod_int Try.underlying3 (g4.trans rfl : _ = some x4)
      obtain ⟨y0, y1, k2, _, _, f0, f1⟩ := trod_struct2 Try.underlying24 (g5.trans rfl : _ = some x5)
      have f0 : DataW.trod enc Try.prog w base (fun _ => true) held k2 3 [c5] = some y0 := by simpa [cells3] using f0
      have f1 : DataW.trod enc Try.prog w base (fun _ => true) held k2 22 [c6] = some y1 := by simpa [cells22] using f1
      obtain ⟨n5, e5, _⟩ := DataW.trod_int Try.underlying3 f0
      obtain ⟨Ap, lp, cp, e6, hp1, _, hp2⟩ := bytes_open f1
      obtain ⟨Ad, ld, cd, e7, hd1, _, hd2⟩ := bytes_open (g6.trans rfl : _ = some x6)
      obtain ⟨Am, lm, cm, e8, hm1, _, hm2⟩ := bytes_open (g7.trans rfl : _ = some x7)
      obtain ⟨At, Lt, ct, e9, ht1, ht3, ht2⟩ := attrs_open (g8.trans rfl : _ = some x8)
      obtain ⟨Au, Lu, cu, e10, hu1, hu3, hu2⟩ := attrs_open (g9.trans rfl : _ = some x9)
      have e0 : c0 = .int .i64 n0 := by simpa using e0
      have e1 : c1 = .int .i64 n1 := by simpa using e1
      have e2 : c2 = .int .i64 n2 := by simpa using e2
      have e3 : c3 = .int .i64 n3 := by simpa using e3
      have e4 : c4 = .int .i64 n4 := by simpa using e4
      have e5 : c5 = .int .i64 n5 := by simpa using e5
      subst e0 e1 e2 e3 e4 e5 e6 e7 e8 e9 e10
      exact ⟨⟨n0, n1, n2, n3, n4, n5, lp, ld, lm, Lt, Lu⟩, ⟨Ap, cp, Ad, cd, Am, cm, At, ct, Au, cu⟩, rfl, ⟨hp2, hp1, hd2, hd1, hm2, hm1, ht2, ht1, hu2, hu1⟩, Nat.le_trans ht1 ht3, Nat.le_trans hu1 hu3⟩

/-- An argument that came in reads again as it did, where what was there is as it was. -/
theorem arg_again {t : TypeId} {v : Value} {d : DataW H} {p : List MemPlace} {w' : World} (hl : laidOutB Try.prog = true) (hr : Try.prog.readableRec t = true) (ht : t < Try.prog.types.size) (h : DataW.Trod enc Try.prog w base (fun _ => true) true t v d p)
    (hp : ∀ x ∈ p, x.block < w.heap.size) (hb : Below w.heap.size w w') (sp : Nat → Bool) (hs : ∀ x ∈ p, sp x.block = true) : DataW.Trod enc Try.prog w' base sp true t v d p := by
  obtain ⟨fuel, hf⟩ := h
  exact ⟨fuel, DataW.trod_stays (kids_book hl hr) (book_sized hr) (fun h => by cases h) ⟨ht, book_self t⟩ hf (fun x hx => hb.same (hp x hx)) hs⟩

end
end Go.Proofs.Ytekblnaogncplaa
