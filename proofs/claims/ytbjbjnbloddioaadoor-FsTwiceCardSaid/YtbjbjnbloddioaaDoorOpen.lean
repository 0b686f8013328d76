/- Arguments opened: bytes, bools, puts, rows of puts; with the form's reach. -/
import Derived.Test.YtbjbjnbloddioaaDoorMd
import Derived.Deep.Slices
import Derived.Deep.Strs
import Derived.ChangeSame
import Derived.Below
import Derived.Carry
import Derived.ChangeOld
import Derived.SizedLaws
set_option linter.unusedVariables false
set_option linter.unusedSimpArgs false
namespace Go.Proofs.YtbjbjnbloddioaaDoor
open Go.RowKit Go.ChangeShapes Go.WideShapes Go.Deep

theorem cells5 : Tryd.prog.cellsOf 5 = 1 := by kernel_rfl
theorem cells28 : Tryd.prog.cellsOf 28 = 1 := by kernel_rfl
theorem cells3 : Tryd.prog.cellsOf 3 = 1 := by kernel_rfl
theorem cells4 : Tryd.prog.cellsOf 4 = 1 := by kernel_rfl
theorem cells47 : Tryd.prog.cellsOf 47 = 1 := by kernel_rfl
theorem cells73 : Tryd.prog.cellsOf 73 = 3 := by kernel_rfl
theorem bytes5 : Tryd.prog.bytesOf 5 = 1 := by kernel_rfl
theorem bytes4 : Tryd.prog.bytesOf 4 = 1 := by kernel_rfl
theorem bytes73 : Tryd.prog.bytesOf 73 = 40 := by kernel_rfl
theorem bytes47 : Tryd.prog.bytesOf 47 = 24 := by kernel_rfl
theorem reach_num : reachBytes = 140737488351232 := by decide

theorem plain_addr {w : World} {a : Addr} {v : Value} (h : w.cell? (a.add 0) = some v) : ∃ g o, a = ⟨g, o, none⟩ := by
  have hs := World.cell?_spot h
  cases a with
  | mk b o s =>
    cases s with
    | none => exact ⟨b, o, rfl⟩
    | some s => unfold Addr.add at hs; simp at hs
/-- Nothing in it takes more than the form's reach. -/
def Wt {H : Type} (t : TypeId) (d : DataW H) : Prop := ∀ n ∈ d.weights Tryd.prog t, n ≤ 140737488351232
theorem weightsAll_of {H : Type} {P : Program} {e : TypeId} {d : DataW H} {n : Nat} (hn : n ∈ d.weights P e) : ∀ {l : List (DataW H)}, d ∈ l → n ∈ DataW.weightsAll P e l
  | x :: l, h => by
    unfold DataW.weightsAll
    rcases List.mem_cons.1 h with rfl | h
    · exact List.mem_append.2 (.inl hn)
    · exact List.mem_append.2 (.inr (weightsAll_of hn h))
theorem Wt.len {H : Type} {t e : TypeId} {es sp : List (DataW H)} (h : Wt t (.slice es sp)) (hu : Tryd.prog.underlying t = some (.slice e)) : (es.length + sp.length) * Tryd.prog.bytesOf e ≤ 140737488351232 := h _ (by simp [DataW.weights, hu])
theorem Wt.elem {H : Type} {t e : TypeId} {es sp : List (DataW H)} {d : DataW H} (h : Wt t (.slice es sp)) (hu : Tryd.prog.underlying t = some (.slice e)) (hd : d ∈ es ∨ d ∈ sp) : Wt e d := fun n hn => h n (by
  simp only [DataW.weights, hu, List.mem_cons, List.mem_append]
  rcases hd with hd | hd
  · exact .inr (.inl (weightsAll_of hn hd))
  · exact .inr (.inr (weightsAll_of hn hd)))
theorem Wt.of {H : Type} {ts : List TypeId} {ds : List (DataW H)} (h : (DataW.weightsEach Tryd.prog ts ds).all (· ≤ reachBytes) = true) {j : Nat} {t : TypeId} {d : DataW H} (ht : ts[j]? = some t) (hd : ds[j]? = some d) : Wt t d := fun n hn => by
  have := List.all_eq_true.1 h _ (DataW.weights_mem_each ht hd n hn)
  rw [← reach_num]
  simpa using this

instance : Inhabited PutD := ⟨⟨0, [], false⟩⟩
section
variable {H : Type} {enc : TypeId × Value → H} {w : World} {held : Bool} {n : Nat} {base : Nat}

theorem bytes_open {c : Value} {y : DataW H × List MemPlace} (h : DataW.trod enc Tryd.prog w base (fun _ => true) held n 28 [c] = some y) (hw : Wt 28 y.1) :
    ∃ A l cap, c = .slice A (l : List UInt8).length cap ∧ l.length ≤ cap ∧ l.length ≤ 140737488351232 ∧ RdU w w.heap.size A (bvs l) := by
  rcases open_slice1 Tryd.underlying28 cells5 h with ⟨h0, _⟩ | ⟨a, len, cap, m, k, V, D, Pl, hc, hb, hl, hm, hmm, hx, hi⟩
  · refine ⟨none, [], 0, by simpa using h0, Nat.le_refl _, by simp, fun j u hu => by simp [bvs] at hu⟩
  · have hmm : m = cap := by simpa using hmm
    subst hmm
    rw [hx] at hw
    have hsz := hw.len Tryd.underlying28
    rw [bytes5] at hsz
    simp at hsz
    have hV : ∀ i, i < m → ∃ b : UInt8, V i = bv b := fun i him => by
      obtain ⟨x, h1, _, h3⟩ := DataW.trod_int Tryd.underlying5 (hi i him).2
      have h1 : V i = .int .u8 x := by simpa using h1
      have h3 : 0 ≤ x ∧ x < 256 := by
        simp [Lit.wf, IntKind.min, IntKind.max, IntKind.signed, IntKind.bits] at h3
        omega
      refine ⟨UInt8.ofNat x.toNat, ?_⟩
      rw [h1]
      show Value.int .u8 x = .int .u8 ((UInt8.ofNat x.toNat).toNat : Int)
      congr 1
      simp
      omega
    obtain ⟨B, hB⟩ := choose_lt hV
    refine ⟨some a, (List.range len).map B, m, by simpa using hc, by simpa using hl, by simp; omega, fun j u hu => ?_⟩
    have hj : j < len := by
      have := (List.getElem?_eq_some_iff.1 hu).1
      simpa [bvs_length] using this
    have hcell := (hi j (by omega)).1
    have hu' : u = V j := by
      rw [hB j (by omega)]
      simp [bvs, hj] at hu
      exact hu.symm
    obtain ⟨g, o, rfl⟩ := plain_addr (hi 0 (by omega)).1
    rw [add_lit] at hcell
    exact ⟨g, o, rfl, World.block_lt_of_cell? w _ hcell, by rw [hu']; exact hcell⟩

theorem bools_open {c : Value} {y : DataW H × List MemPlace} (h : DataW.trod enc Tryd.prog w base (fun _ => true) held n 48 [c] = some y) (hw : Wt 48 y.1) :
    ∃ A l cap, c = .slice A (l : List Bool).length cap ∧ l.length ≤ cap ∧ l.length ≤ 140737488351232 ∧ Rd w A (l.map Value.bool) := by
  rcases open_slice1 Tryd.underlying48 cells4 h with ⟨h0, _⟩ | ⟨a, len, cap, m, k, V, D, Pl, hc, hb, hl, hm, hmm, hx, hi⟩
  · refine ⟨none, [], 0, by simpa using h0, Nat.le_refl _, by simp, fun j u hu => by simp at hu⟩
  · have hmm : m = cap := by simpa using hmm
    subst hmm
    rw [hx] at hw
    have hsz := hw.len Tryd.underlying48
    rw [bytes4] at hsz
    simp at hsz
    have hV : ∀ i, i < m → ∃ b : Bool, V i = .bool b := fun i him => by
      obtain ⟨x, h1, _⟩ := DataW.trod_bool Tryd.underlying4 (hi i him).2
      exact ⟨x, by simpa using h1⟩
    obtain ⟨B, hB⟩ := choose_lt hV
    refine ⟨some a, (List.range len).map B, m, by simpa using hc, by simpa using hl, by simp; omega, fun j u hu => ?_⟩
    have hj : j < len := by
      have := (List.getElem?_eq_some_iff.1 hu).1
      simpa using this
    have hcell := (hi j (by omega)).1
    have hu' : u = V j := by
      rw [hB j (by omega)]
      simp [hj] at hu
      exact hu.symm
    obtain ⟨g, o, rfl⟩ := plain_addr (hi 0 (by omega)).1
    rw [add_lit] at hcell
    exact ⟨g, o, rfl, by rw [hu']; exact hcell⟩

set_option maxRecDepth 100000 in
theorem puts_open {c : Value} {y : DataW H × List MemPlace} (h : DataW.trod enc Tryd.prog w base (fun _ => true) held n 47 [c] = some y) (hw : Wt 47 y.1) :
    ∃ A L cap, c = .slice A (L : List PutD).length cap ∧ L.length ≤ cap ∧ L.length ≤ 3518437208883 ∧ PutU w w.heap.size A L := by
  rcases open_slice Tryd.underlying47 h with ⟨h0, _⟩ | ⟨a, len, cap, m, k, D, Pl, hc, hb, hl, hm, hmm, hx, hi⟩
  · exact ⟨none, [], 0, by simpa using h0, Nat.le_refl _, by simp, fun j p hu => by simp at hu⟩
  · have hmm : m = cap := by simpa using hmm
    subst hmm
    rw [hx] at hw
    have hsz := hw.len Tryd.underlying47
    rw [bytes73] at hsz
    simp at hsz
    rw [cells73] at hi
    have hV : ∀ i, i < m → ∃ p : PutD, w.cell? (a.add (i * 3)) = some (.int .i64 p.i) ∧ ∃ Av cv, w.cell? ((a.add (i * 3)).add 1) = some (.slice Av p.b.length cv) ∧ w.cell? ((a.add (i * 3)).add 2) = some (.bool p.short) ∧ p.b.length ≤ cv ∧ p.b.length ≤ 140737488355328 ∧ RdU w w.heap.size Av (bvs p.b) := fun i him => by
      obtain ⟨cs, h1, h2⟩ := hi i him
      obtain ⟨_, hcl, hat⟩ := World.cells?_some h1
      have hwi : Wt 73 (D i) := hw.elem Tryd.underlying47 (by
        by_cases hil : i < len
        · exact .inl (List.mem_map.2 ⟨i, by simpa using hil, rfl⟩)
        · exact .inr (List.mem_map.2 ⟨i - len, by simp; omega, by congr 1; omega⟩))
      obtain ⟨y0, y1, y2, k2, ex, _, hf0, hf1, hf2⟩ := trod_struct3 Tryd.underlying73 h2
      have ed : D i = .agg [y0.1, y1.1, y2.1] := congrArg Prod.fst ex
      rw [ed] at hwi
      have hw1 : Wt 28 y1.1 := fun n hn => hwi n (by
        simp only [DataW.weights, Tryd.underlying73]
        simp only [DataW.weightsEach, List.map_cons, List.map_nil, List.mem_append]
        simp [hn])
      match cs, hcl with
      | [c0, c1, c2], _ =>
        have hf0 : DataW.trod enc Tryd.prog w base (fun _ => true) held k2 3 [c0] = some y0 := by simpa [cells3] using hf0
        have hf1 : DataW.trod enc Tryd.prog w base (fun _ => true) held k2 28 [c1] = some y1 := by simpa [cells28] using hf1
        have hf2 : DataW.trod enc Tryd.prog w base (fun _ => true) held k2 4 [c2] = some y2 := by simpa [cells4] using hf2
        obtain ⟨x, e1, _, _⟩ := DataW.trod_int Tryd.underlying3 hf0
        have e1 : c0 = .int .i64 x := by simpa using e1
        obtain ⟨Av, l, cv, e2, hlc, hl47, hrd⟩ := bytes_open hf1 hw1
        obtain ⟨z, e3, _⟩ := DataW.trod_bool Tryd.underlying4 hf2
        have e3 : c2 = .bool z := by simpa using e3
        have a0 := hat 0 (by omega)
        have a1 := hat 1 (by omega)
        have a2 := hat 2 (by omega)
        refine ⟨⟨x, l, z⟩, ?_, Av, cv, ?_, ?_, hlc, by show l.length ≤ _; omega, hrd⟩
        · rw [← e1]
          have e0 : (a.add (i * 3)).add 0 = a.add (i * 3) := by rw [add_add]; rfl
          rw [e0] at a0
          simpa using a0
        · rw [← e2]; simpa using a1
        · rw [← e3]; simpa using a2
    obtain ⟨B, hB⟩ := choose_lt hV
    refine ⟨some a, (List.range len).map B, m, by simpa using hc, by simpa using hl, by simp; omega, fun i p hu => ?_⟩
    have hj : i < len := by
      have := (List.getElem?_eq_some_iff.1 hu).1
      simpa using this
    have hu' : B i = p := by
      simp [hj] at hu
      exact hu
    obtain ⟨q1, Av, cv, q2, q3, q4, q5, q6⟩ := hB i (by omega)
    have q0 := (hB 0 (by omega)).1
    rw [Nat.zero_mul] at q0
    obtain ⟨g, o, rfl⟩ := plain_addr q0
    rw [hu'] at q1 q2 q3 q4 q5 q6
    rw [add_lit] at q1 q2 q3
    rw [add_lit] at q2 q3
    exact ⟨g, o, Av, cv, rfl, World.block_lt_of_cell? w _ q1, q1, q2, q3, q4, q5, q6⟩

theorem commits_open {c : Value} {y : DataW H × List MemPlace} (h : DataW.trod enc Tryd.prog w base (fun _ => true) held n 46 [c] = some y) (hw : Wt 46 y.1) :
    ∃ A L cap, c = .slice A (L : List (List PutD)).length cap ∧ L.length ≤ cap ∧ L.length ≤ 140737488355328 ∧ CommitsU w w.heap.size A L := by
  rcases open_slice1 Tryd.underlying46 cells47 h with ⟨h0, _⟩ | ⟨a, len, cap, m, k, V, D, Pl, hc, hb, hl, hm, hmm, hx, hi⟩
  · refine ⟨none, [], 0, by simpa using h0, Nat.le_refl _, by simp, fun j u hu => by simp at hu⟩
  · have hmm : m = cap := by simpa using hmm
    subst hmm
    rw [hx] at hw
    have hsz := hw.len Tryd.underlying46
    rw [bytes47] at hsz
    simp at hsz
    have hV : ∀ i, i < m → ∃ ps : List PutD, ∃ Av cv, V i = .slice Av ps.length cv ∧ ps.length ≤ 3518437208883 ∧ PutU w w.heap.size Av ps := fun i him => by
      have hwi : Wt 47 (D i) := hw.elem Tryd.underlying46 (by
        by_cases hil : i < len
        · exact .inl (List.mem_map.2 ⟨i, by simpa using hil, rfl⟩)
        · exact .inr (List.mem_map.2 ⟨i - len, by simp; omega, by congr 1; omega⟩))
      obtain ⟨Av, ps, cv, e, _, h2, h3⟩ := puts_open (hi i him).2 hwi
      exact ⟨ps, Av, cv, e, h2, h3⟩
    obtain ⟨B, hB⟩ := choose_lt hV
    refine ⟨some a, (List.range len).map B, m, by simpa using hc, by simpa using hl, by simp; omega, fun j u hu => ?_⟩
    have hj : j < len := by
      have := (List.getElem?_eq_some_iff.1 hu).1
      simpa using this
    have hcell := (hi j (by omega)).1
    have hu' : B j = u := by
      simp [hj] at hu
      exact hu
    obtain ⟨g, o, rfl⟩ := plain_addr (hi 0 (by omega)).1
    rw [add_lit] at hcell
    obtain ⟨Av, cv, e, h2, h3⟩ := hB j (by omega)
    rw [hu'] at e h2 h3
    exact ⟨g, o, Av, cv, rfl, World.block_lt_of_cell? w _ hcell, by rw [hcell, e], h2, h3⟩
theorem int_bd {x : Int} (h : (Lit.int .i64 x).wf = true) : -9223372036854775808 ≤ x ∧ x ≤ 9223372036854775807 := by
  simp [Lit.wf, IntKind.min, IntKind.max, IntKind.signed, IntKind.bits] at h
  omega
/-- An argument that came in reads again as it did, where what was there is as it was. -/
theorem arg_again {t : TypeId} {v : Value} {d : DataW H} {p : List MemPlace} {w' : World} (hl : laidOutB Tryd.prog = true) (hr : Tryd.prog.readableRec t = true) (ht : t < Tryd.prog.types.size) (h : DataW.Trod enc Tryd.prog w base (fun _ => true) true t v d p)
    (hp : ∀ x ∈ p, x.block < w.heap.size) (hb : Below w.heap.size w w') (sp : Nat → Bool) (hs : ∀ x ∈ p, sp x.block = true) : DataW.Trod enc Tryd.prog w' base sp true t v d p := by
  obtain ⟨fuel, hf⟩ := h
  exact ⟨fuel, DataW.trod_stays (kids_book hl hr) (book_sized hr) (fun h => by cases h) ⟨ht, book_self t⟩ hf (fun x hx => hb.same (hp x hx)) hs⟩

end
end Go.Proofs.YtbjbjnbloddioaaDoor
