/- A call read from a frame's body. -/
import Derived.Test.YtekblnaogncplaaH
import Derived.Outline
import Derived.Laws.CopyOwn
set_option linter.unusedVariables false
set_option linter.unusedSimpArgs false
namespace Go.Proofs.Ytekblnaogncplaa
open Go.RowKit

def rints : Nat → List UInt8 × Bool → List Int × (List UInt8 × Bool)
  | 0, s => ([], s)
  | k + 1, s => let q := rints k s; (q.1 ++ [((rget q.2 4).1 : Int)], (rget q.2 4).2)
theorem rints_len (k : Nat) (s : List UInt8 × Bool) : (rints k s).1.length = k ∧ (rints k s).2.1.length ≤ s.1.length := by
  induction k with
  | zero => exact ⟨rfl, Nat.le_refl _⟩
  | succ k ih =>
    refine ⟨?_, Nat.le_trans (rget_len _ _) ih.2⟩
    show ((rints k s).1 ++ [_]).length = _
    simp [ih.1]

def zeroCall : CallD := ⟨0, 0, 0, 0, 0, 0, [], [], [], [], []⟩
def zeroP : CallP := ⟨none, 0, none, 0, none, 0, none, 0, none, 0⟩
def numCall (fn : Int) (v : List Int) : CallD := ⟨fn, v.getD 0 0, v.getD 1 0, v.getD 2 0, v.getD 3 0, v.getD 4 0, [], [], [], [], []⟩

def parseCall (body : List UInt8) : CallD × (List UInt8 × Bool) :=
  let f := rget (body, false) 1
  let v := rints 5 f.2
  let p := rbytes v.2 2
  let d := rbytes p.2 4
  let m := rbytes d.2 2
  let a := rattrs m.2
  let b := rattrs a.2
  ({ numCall f.1 v.1 with param := p.1, data := d.1, more := m.1, t1 := a.1, t2 := b.1 }, b.2)
theorem parseCall_val {body : List UInt8} {f : Nat × (List UInt8 × Bool)} {v : List Int × (List UInt8 × Bool)} {p d m : List UInt8 × (List UInt8 × Bool)} {a b : List AttrD × (List UInt8 × Bool)} {n1 n2 n3 n4 n5 : Int}
    (hf : rget (body, false) 1 = f) (hv : rints 5 f.2 = v) (hp : rbytes v.2 2 = p) (hd : rbytes p.2 4 = d) (hm : rbytes d.2 2 = m) (ha : rattrs m.2 = a) (hb : rattrs a.2 = b) (h5 : v.1 = [n1, n2, n3, n4, n5]) :
    parseCall body = (⟨f.1, n1, n2, n3, n4, n5, p.1, d.1, m.1, a.1, b.1⟩, b.2) := by
  subst hf hv hp hd hm ha hb
  unfold parseCall numCall
  simp only [h5]
  rfl
def okCall (body : List UInt8) : Bool := !(parseCall body).2.2 && (match encCall (parseCall body).1 with | some f => f.drop 4 == body | none => false)
def readCall (body : List UInt8) : CallD × Bool := if okCall body then ((parseCall body).1, true) else (zeroCall, false)

theorem rattrN_val (k : Nat) (p : List AttrD × (List UInt8 × Bool)) (M : Nat) (hp : ∀ a ∈ p.1, a.2.length ≤ M) (hs : p.2.1.length ≤ M) : ∀ a ∈ (rattrN k p).1, a.2.length ≤ M := by
  induction k with
  | zero => exact hp
  | succ k ih =>
    intro a ha
    have ha : a ∈ (rattrN k p).1 ++ [_] := ha
    rcases List.mem_append.1 ha with ha | ha
    · exact ih a ha
    · simp at ha
      subst ha
      exact Nat.le_trans (Nat.le_trans (Nat.le_trans (Nat.le_trans (rtake_len _ _).1 (rget_len _ _)) (rget_len _ _)) (rattrN_len k p).1) hs
theorem rattrs_val (s : List UInt8 × Bool) : (∀ a ∈ (rattrs s).1, a.2.length ≤ s.1.length) ∧ (rattrs s).1.length ≤ 255 ∧ (rattrs s).2.1.length ≤ s.1.length := by
  have h0 := rget_len s 1
  have hl := rattrN_len (rget s 1).1 ([], (rget s 1).2)
  refine ⟨rattrN_val _ _ _ (by simp) h0, ?_, Nat.le_trans hl.1 h0⟩
  have hv : (rget s 1).1 < 256 := by
    have h1 : (rtake s 1).1.length ≤ 1 := by unfold rtake; split <;> simp; omega
    exact Nat.lt_of_lt_of_le (beV_lt _ _ rfl) (Nat.le_trans (Nat.pow_le_pow_right (by omega) h1) (by decide))
  have h2 : (rattrs s).1.length = 0 + (rget s 1).1 := hl.2
  omega
theorem rbytes_val (s : List UInt8 × Bool) (k : Nat) : (rbytes s k).1.length ≤ s.1.length := Nat.le_trans (rtake_len _ _).1 (rget_len s k)

/-- What stands while a call is read: the result's block, the call's, the reader. -/
structure RcAt (w wk : World) (cs : Array Value) (s : List UInt8 × Bool) : Prop where
  res : wk.heap[w.heap.size]? = some (.cells (callCells zeroCall zeroP) 27 (0, 0))
  call : wk.heap[w.heap.size + 1 + 1]? = some (.cells cs 27 (0, 0))
  rd : RdO wk w.heap.size (w.heap.size + 1) s
  below : Below w.heap.size w wk
  size : w.heap.size + 1 + 1 < wk.heap.size
theorem RcAt.next {w wk w' : World} {cs : Array Value} {s s' : List UInt8 × Bool} (h : RcAt w wk cs s) (hr : RdO w' w.heap.size (w.heap.size + 1) s') (hg : wk.grownBy w' (some (w.heap.size + 1))) : RcAt w w' cs s' := by
  have hz := h.size
  exact ⟨(hg.block _ (by omega) (by simp)).trans h.res, (hg.block _ (by omega) (by simp)).trans h.call, hr, h.below.trans (grown_below hg (Nat.le_succ _) h.below.size), Nat.lt_of_lt_of_le hz hg.size⟩
theorem RcAt.kept {w wk w' : World} {cs : Array Value} {s : List UInt8 × Bool} (h : RcAt w wk cs s) (hb : Below wk.heap.size wk w') : RcAt w w' cs s := h.next (h.rd.kept hb) (grown_of_below hb)
theorem RcAt.store {w wk : World} {cs : Array Value} {s : List UInt8 × Bool} (h : RcAt w wk cs s) (j : Nat) (v : Value) : RcAt w (wk.setCell ⟨w.heap.size + 1 + 1, j, none⟩ v) (cs.setIfInBounds j v) s := by
  have hz := h.size
  refine ⟨(heap_setCell_other wk _ _ _ (by simp; omega)).trans h.res, heap_setCell_same wk _ j cs 27 v h.call, ?_, h.below.setCell (by simp; omega) v, by simpa using hz⟩
  exact h.rd.kept2 (row := some (w.heap.size + 1 + 1)) ⟨rfl, rfl, rfl, by simp, fun k hk hne => heap_setCell_other wk _ k _ (fun e => hne (by simp [e]))⟩ (fun r hr => by injection hr with hr; omega)
theorem RcAt.cell {w wk : World} {cs : Array Value} {s : List UInt8 × Bool} (h : RcAt w wk cs s) (j : Nat) : wk.cell? ⟨w.heap.size + 1 + 1, j, none⟩ = cs[j]? := cell_of_row wk _ j _ 27 (0, 0) h.call
theorem RcAt.cellR {w wk : World} {cs : Array Value} {s : List UInt8 × Bool} (h : RcAt w wk cs s) (j : Nat) : wk.cell? ⟨w.heap.size, j, none⟩ = (callCells zeroCall zeroP)[j]? := cell_of_row wk _ j _ 27 (0, 0) h.res
theorem RcAt.frozen {w wk : World} {cs : Array Value} {s : List UInt8 × Bool} (h : RcAt w wk cs s) (j : Nat) : wk.frozen? ⟨w.heap.size + 1 + 1, j, none⟩ = false := frozen_of_row wk _ j _ 27 h.call
theorem RcAt.frozenR {w wk : World} {cs : Array Value} {s : List UInt8 × Bool} (h : RcAt w wk cs s) (j : Nat) : wk.frozen? ⟨w.heap.size, j, none⟩ = false := frozen_of_row wk _ j _ 27 h.res

/-- All blocks beyond L are as they were. -/
structure Up (L : Nat) (w w' : World) : Prop where
  size : w.heap.size ≤ w'.heap.size
  block : ∀ k, L < k → k < w.heap.size → w'.heap[k]? = w.heap[k]?
theorem Up.refl (L : Nat) (w : World) : Up L w w := ⟨Nat.le_refl _, fun _ _ _ => rfl⟩
theorem Up.trans {L : Nat} {a b c : World} (h : Up L a b) (k : Up L b c) : Up L a c :=
  ⟨Nat.le_trans h.size k.size, fun i hi hs => (k.block i hi (Nat.lt_of_lt_of_le hs h.size)).trans (h.block i hi hs)⟩
theorem Up.grown {L g : Nat} {w w' : World} (h : w.grownBy w' (some g)) (hg : g ≤ L) : Up L w w' := ⟨h.size, fun k hk hs => h.block k hs (fun e => by injection e with e; omega)⟩
theorem Up.below {L : Nat} {w w' : World} (h : Below w.heap.size w w') : Up L w w' := ⟨h.size, fun k _ hs => h.block k hs⟩
theorem Up.store {L : Nat} (w : World) {b : Nat} (hb : b ≤ L) (j : Nat) (v : Value) : Up L w (w.setCell ⟨b, j, none⟩ v) := ⟨by simp, fun k hk _ => heap_setCell_other w _ k _ (by simp; omega)⟩
theorem own_up {L : Nat} {w w' : World} {base n k : Nat} {e : TypeId} {v : Value} {xs : List Value} (h : w.ownsRow base e k v n xs) (hL : L < base) (hu : Up L w w') : w'.ownsRow base e k v n xs := by
  refine ⟨h.1, ?_⟩
  rcases h.2 with h2 | ⟨g, cap, cur, hv, hg, hh, rest⟩
  · exact .inl h2
  · exact .inr ⟨g, cap, cur, hv, hg, (hu.block g (by omega) (Array.getElem?_eq_some_iff.1 hh).1).trans hh, rest⟩
theorem AtRow.up {L : Nat} {w w' : World} {base : Nat} {xs : List Value} {K : List AttrD} (h : AtRow w base xs K) (hL : L < base) (hu : Up L w w') : AtRow w' base xs K :=
  ⟨h.len, fun i t v hi => by
    obtain ⟨h1, Av, cv, h2, h3, h4⟩ := h.at_ i t v hi
    exact ⟨h1, Av, cv, h2, h3, own_up h4 hL hu⟩, h.one⟩
theorem AtRow.less {w : World} {base base' : Nat} {xs : List Value} {K : List AttrD} (h : AtRow w base xs K) (hb : base' ≤ base) : AtRow w base' xs K :=
  ⟨h.len, fun i t v hi => by
    obtain ⟨h1, Av, cv, h2, h3, h4⟩ := h.at_ i t v hi
    exact ⟨h1, Av, cv, h2, h3, own_less h4 hb⟩, h.one⟩

theorem numCall_set (fn : Int) (vs : List Int) (v : Int) : ∀ (k : Nat), k < 5 → vs.length = k → (callCells (numCall fn vs) zeroP).setIfInBounds (k + 1) (.int .i64 v) = callCells (numCall fn (vs ++ [v])) zeroP
  | 0, _, h => by
    obtain rfl : vs = [] := List.eq_nil_of_length_eq_zero h
    rfl
  | 1, _, h => by
    match vs, h with
    | [a], _ => rfl
  | 2, _, h => by
    match vs, h with
    | [a, b], _ => rfl
  | 3, _, h => by
    match vs, h with
    | [a, b, c], _ => rfl
  | 4, _, h => by
    match vs, h with
    | [a, b, c, d], _ => rfl

def rcPtrs (b : Nat) : Array Value := #[.pointer (some ⟨b, 1, none⟩), .pointer (some ⟨b, 2, none⟩), .pointer (some ⟨b, 3, none⟩), .pointer (some ⟨b, 4, none⟩), .pointer (some ⟨b, 5, none⟩)]
theorem rcPtrs_at (b : Nat) : ∀ (k : Nat), k < 5 → (rcPtrs b)[k]? = some (.pointer (some ⟨b, k + 1, none⟩))
  | 0, _ => rfl
  | 1, _ => rfl
  | 2, _ => rfl
  | 3, _ => rfl
  | 4, _ => rfl

theorem five {l : List Int} (h : l.length = 5) : ∃ a b c d e, l = [a, b, c, d, e] := by
  match l, h with
  | [a, b, c, d, e], _ => exact ⟨a, b, c, d, e, rfl⟩
theorem size27 : (Try.prog.info? 27).map (·.size) = some 11 := by kernel_rfl
theorem loadAt27 {w : World} {b : Nat} {cs : Array Value} (h : w.heap[b]? = some (.cells cs 27 (0, 0))) (hs : cs.size = 11) :
    (Instr.loadAt 27 (.pointer (some ⟨b, 0, none⟩))).run Try.prog w = .ok (.agg cs) w := by
  simp only [Instr.loadAt, Instr.sureAddr, Sem.run_bind, Sem.run_pure, Result.andThen_ok, run_loadVar_row w b 27 27 cs (0, 0) _ h Try.underlying27 rfl (by rw [size27, hs])]

theorem res11 (tmps : Array Value) (w : World) (g : Nat) (cs : Array Value) (v : Value) (hp : tmps.getD 2 undef = .pointer (some ⟨g, 0, none⟩)) (h3 : tmps.getD 3 undef = v)
    (hg : w.heap[g]? = some (.cells cs 27 (0, 0))) (hs : cs.size = 11) : (results Try.f11 tmps).run Try.prog w = .ok (.tuple #[.agg cs, v]) w := by
  have hp' : tmps[2]?.getD undef = .pointer (some ⟨g, 0, none⟩) := by simpa using hp
  have h3' : tmps[3]?.getD undef = v := by simpa using h3
  simp [results, Try.results11, hp', h3', asAddr, run_loadVar_row w g 27 27 cs (0, 0) _ hg Try.underlying27 rfl (by rw [size27, hs])]
theorem oframe_four {o : Option (List UInt8)} {l : List UInt8} (h : oframe o = some l) : 4 ≤ l.length := by
  unfold oframe at h
  cases o with
  | none => simp at h
  | some q =>
    simp only [Option.bind_some] at h
    split at h
    · cases h
    · injection h with h
      rw [← h]
      simp [be_length]
theorem enc_four {x : CallD} {l : List UInt8} (h : encCall x = some l) : 4 ≤ l.length := oframe_four h
theorem cells_one (x : CallD) (p : CallP) : (callCells x p).all (·.oneCell') = true := by simp [callCells, Value.oneCell']
theorem Stop.store {P : Program} {ops : Array Oper} {Q : Exit → Act → World → Prop} {rest : List Oper} {a : Act} {w : World} (t : TypeId) {x y : Operand} {dst : Option Tmp} {ty : TypeId} {pos : String} {aft : Array Edge} {g : Option (Nat × Bool)}
    (h : Stop (wpList P ops Q (⟨dst, .store t x y, ty, pos, aft, g⟩ :: rest) a w)) : wpList P ops Q (⟨dst, .store t x y, ty, pos, aft, g⟩ :: rest) a w := h.out
theorem Stop.load {P : Program} {ops : Array Oper} {Q : Exit → Act → World → Prop} {rest : List Oper} {a : Act} {w : World} (t : TypeId) {x : Operand} {dst : Option Tmp} {ty : TypeId} {pos : String} {aft : Array Edge} {g : Option (Nat × Bool)}
    (h : Stop (wpList P ops Q (⟨dst, .load t x, ty, pos, aft, g⟩ :: rest) a w)) : wpList P ops Q (⟨dst, .load t x, ty, pos, aft, g⟩ :: rest) a w := h.out
theorem zero_U (w : World) (U : Nat) : CallU w U zeroCall zeroP :=
  ⟨fun i v h => by simp [zeroCall, bvs] at h, Nat.le_refl _, fun i v h => by simp [zeroCall, bvs] at h, Nat.le_refl _, fun i v h => by simp [zeroCall, bvs] at h, Nat.le_refl _,
    fun i t v h => by simp [zeroCall] at h, Nat.le_refl _, fun i t v h => by simp [zeroCall] at h, Nat.le_refl _⟩

set_option maxRecDepth 100000 in
set_option maxHeartbeats 800000 in
theorem readCall_o (body : List UInt8) (A : Option Addr) (c : Nat) (w : World) (hb : Rd w A (bvs body)) (hc : body.length ≤ c) (hl : body.length ≤ 100000) :
    Calls Try.prog 11 #[.slice A body.length c] w (fun e w' => ∃ p, e = .returned (.tuple #[.agg (callCells (readCall body).1 p), .bool (readCall body).2]) ∧ CallU w' w'.heap.size (readCall body).1 p ∧ Below w.heap.size w w') := by
  have A0 : RcAt w (((w.alloc (.cells (callCells zeroCall zeroP) 27)).alloc (.cells #[.slice A body.length c, .bool false] 68)).alloc (.cells (callCells zeroCall zeroP) 27)) (callCells zeroCall zeroP) (body, false) := by
    refine ⟨?_, ?_, ⟨A, c, ?_, ?_, hc, Nat.le_succ _⟩, ((below_alloc w _).alloc (by simp) _).alloc (by simp; omega) _, by simp⟩
    · rw [Below.heap_alloc _ _ _ (by simp; omega), Below.heap_alloc _ _ _ (by simp)]; exact heap_alloc_new w _
    · simpa using heap_alloc_new ((w.alloc (.cells (callCells zeroCall zeroP) 27)).alloc (.cells #[.slice A body.length c, .bool false] 68)) (.cells (callCells zeroCall zeroP) 27)
    · rw [Below.heap_alloc _ _ _ (by simp)]; simpa using heap_alloc_new (w.alloc (.cells (callCells zeroCall zeroP) 27)) (.cells #[.slice A body.length c, .bool false] 68)
    · exact hb.rdU.below (((below_alloc w _).alloc (by simp) _).alloc (by simp; omega) _)
  unfold callCells zeroCall zeroP at A0
  simp only [List.length_nil] at A0
  generalize hf : rget (body, false) 1 = f
  have HF := Lib.hid hf
  have hfl : f.2.1.length ≤ body.length := by rw [← hf]; exact rget_len (body, false) 1
  clear hf
  go_enter Try.func11, Try.ntmps11
  go_wp2_with fail
  refine (get_o 1 (by omega) _ _ _ _ A0.rd (by simpa using Nat.le_trans hl (by omega))).mono ?_
  rintro e w1 ⟨rfl, hR1, hf1⟩
  rw [HF.out] at hR1
  rw [HF.out]
  have A1 := A0.next hR1 hf1
  clear A0 hR1 hf1
  have g1 : w1.cell? ⟨w.heap.size + 1 + 1, 0, none⟩ = some (.int .i64 0) := A1.cell 0
  have g2 : w1.frozen? ⟨w.heap.size + 1 + 1, 0, none⟩ = false := A1.frozen 0
  have A2 := A1.store 0 (.int .i64 (f.1 : Int))
  have hs1 := A1.size
  clear A1
  go_wp2_with fail
  clear g1 g2
  have hP : ((w1.setCell ⟨w.heap.size + 1 + 1, 0, none⟩ (.int .i64 (f.1 : Int))).alloc (.cells (rcPtrs (w.heap.size + 1 + 1)) 70)).heap[w1.heap.size]? = some (.cells (rcPtrs (w.heap.size + 1 + 1)) 70 (0, 0)) := by
    simpa using heap_alloc_new (w1.setCell ⟨w.heap.size + 1 + 1, 0, none⟩ (.int .i64 (f.1 : Int))) _
  go_loopw [24] (fun i wr => ∃ k : Nat, k ≤ 5 ∧ i = .int .i64 k ∧ RcAt w wr (callCells (numCall f.1 (rints k f.2).1) zeroP) (rints k f.2).2 ∧
      wr.heap[w1.heap.size]? = some (.cells (rcPtrs (w.heap.size + 1 + 1)) 70 (0, 0))) (fun i _ => 5 - (intOf i).toNat)
  case atStart => exact ⟨0, by omega, rfl, A2.kept (by simpa using below_alloc (w1.setCell ⟨w.heap.size + 1 + 1, 0, none⟩ (.int .i64 (f.1 : Int))) _), hP⟩
  case round =>
    obtain ⟨k, hk, rfl, Ak, hPk⟩ := hrel
    have hlk := rints_len k f.2
    by_cases hlt : k < 5
    · have hck : wr.cell? ⟨w1.heap.size, k, none⟩ = some (.pointer (some ⟨w.heap.size + 1 + 1, k + 1, none⟩)) := by
        rw [cell_of_row wr _ k _ 70 (0, 0) hPk]
        exact rcPtrs_at _ k hlt
      go_wp2_with fail
      refine (get_o 4 (by omega) _ _ _ wr Ak.rd (by omega)).mono ?_
      rintro e w2 ⟨rfl, hR2, hf2⟩
      have Ak2 := Ak.next hR2 hf2
      have hP2 := (hf2.block w1.heap.size (Array.getElem?_eq_some_iff.1 hPk).1 (by simp; omega)).trans hPk
      clear Ak hR2 hf2 hPk
      have g1 : ∃ u, w2.cell? ⟨w.heap.size + 1 + 1, k + 1, none⟩ = some u := by
        rw [Ak2.cell (k + 1)]
        exact ⟨_, Array.getElem?_eq_getElem (by show k + 1 < 11; omega)⟩
      obtain ⟨u, g1⟩ := g1
      have g2 := Ak2.frozen (k + 1)
      have Ak3 := Ak2.store (k + 1) (.int .i64 ((rget (rints k f.2).2 4).1 : Int))
      rw [numCall_set _ _ _ k hlt hlk.1] at Ak3
      have hP3 := (heap_setCell_other w2 ⟨w.heap.size + 1 + 1, k + 1, none⟩ w1.heap.size (.int .i64 ((rget (rints k f.2).2 4).1 : Int)) (by simp; omega)).trans hP2
      clear Ak2 hP2
      go_wp2_with fail
      go_roundw
      case rel => exact ⟨k + 1, hlt, by go_num, Ak3, hP3⟩
      case measure => simp [intOf]; omega
    · obtain rfl : k = 5 := by omega
      generalize hv : rints 5 f.2 = v at Ak hlk
      have HV := Lib.hid hv
      clear hv
      have hsz := Ak.size
      obtain ⟨n1, n2, n3, n4, n5, hv5⟩ := five hlk.1
      rw [hv5] at Ak
      have l0 := hlk.2
      have HV5 := Lib.hid hv5
      clear hlk hv5
      go_wp2_with fail
      refine (rbytes_o 2 (by omega) _ _ _ wr Ak.rd (by omega)).mono ?_
      rintro e w2 ⟨⟨Ap, cp, rfl, hcp, hop⟩, hR2, hf2⟩
      have B2 := Ak.next hR2 hf2
      have op2 := own_less hop (show w.heap.size + 1 + 1 + 1 ≤ wr.heap.size by omega)
      have lp := rbytes_len v.2 2
      have vp := rbytes_val v.2 2
      clear Ak hR2 hf2 hop hPk
      generalize hp : rbytes v.2 2 = p at hcp B2 op2 lp vp ⊢
      have Kp := Lib.hid hp
      clear hp
      go_wp2_with fail
      refine (rbytes_o 4 (by omega) _ _ _ w2 B2.rd (by omega)).mono ?_
      rintro e w3 ⟨⟨Ad, cd, rfl, hcd, hod⟩, hR3, hf3⟩
      have B3 := B2.next hR3 hf3
      have op3 := own_up op2 (Nat.lt_succ_self _) (Up.grown hf3 (Nat.le_succ _))
      have od3 := own_less hod (show w.heap.size + 1 + 1 + 1 ≤ w2.heap.size from B2.size)
      have ld := rbytes_len p.2 4
      have vd := rbytes_val p.2 4
      clear B2 hR3 hf3 hod op2
      generalize hd : rbytes p.2 4 = d at hcd B3 op3 od3 ld vd ⊢
      have Kd := Lib.hid hd
      clear hd
      go_wp2_with fail
      refine (rbytes_o 2 (by omega) _ _ _ w3 B3.rd (by omega)).mono ?_
      rintro e w4 ⟨⟨Am, cm, rfl, hcm, hom⟩, hR4, hf4⟩
      have B4 := B3.next hR4 hf4
      have op4 := own_up op3 (Nat.lt_succ_self _) (Up.grown hf4 (Nat.le_succ _))
      have od4 := own_up od3 (Nat.lt_succ_self _) (Up.grown hf4 (Nat.le_succ _))
      have om4 := own_less hom (show w.heap.size + 1 + 1 + 1 ≤ w3.heap.size from B3.size)
      have lm := rbytes_len d.2 2
      have vm := rbytes_val d.2 2
      clear B3 hR4 hf4 hom op3 od3
      generalize hm : rbytes d.2 2 = m at hcm B4 om4 lm vm ⊢
      have Km := Lib.hid hm
      clear hm
      have g6 : w4.cell? ⟨w.heap.size + 1 + 1, 6, none⟩ = some (.slice none 0 0) := B4.cell 6
      have g7 : w4.cell? ⟨w.heap.size + 1 + 1, 7, none⟩ = some (.slice none 0 0) := B4.cell 7
      have g8 : w4.cell? ⟨w.heap.size + 1 + 1, 8, none⟩ = some (.slice none 0 0) := B4.cell 8
      have e6 := B4.frozen 6
      have e7 := B4.frozen 7
      have e8 := B4.frozen 8
      have B5 := ((B4.store 6 (.slice Ap p.1.length cp)).store 7 (.slice Ad d.1.length cd)).store 8 (.slice Am m.1.length cm)
      have hU : Up (w.heap.size + 1 + 1) w4 (((w4.setCell ⟨w.heap.size + 1 + 1, 6, none⟩ (.slice Ap p.1.length cp)).setCell ⟨w.heap.size + 1 + 1, 7, none⟩ (.slice Ad d.1.length cd)).setCell ⟨w.heap.size + 1 + 1, 8, none⟩ (.slice Am m.1.length cm)) :=
        ((Up.store w4 (Nat.le_refl _) 6 _).trans (Up.store _ (Nat.le_refl _) 7 _)).trans (Up.store _ (Nat.le_refl _) 8 _)
      have op5 := own_up op4 (Nat.lt_succ_self _) hU
      have od5 := own_up od4 (Nat.lt_succ_self _) hU
      have om5 := own_up om4 (Nat.lt_succ_self _) hU
      clear B4 hU op4 od4 om4
      go_wp2_with fail
      clear g6 g7 g8 e6 e7 e8
      refine (rattrs_o _ _ _ _ B5.rd (by omega)).mono ?_
      rintro e w5 ⟨⟨At, ct, xt, rfl, hct, hot, hat⟩, hR5, hf5⟩
      have B6 := B5.next hR5 hf5
      have hz := B5.size
      have op6 := own_up op5 (Nat.lt_succ_self _) (Up.grown hf5 (Nat.le_succ _))
      have od6 := own_up od5 (Nat.lt_succ_self _) (Up.grown hf5 (Nat.le_succ _))
      have om6 := own_up om5 (Nat.lt_succ_self _) (Up.grown hf5 (Nat.le_succ _))
      have ot6 := own_less hot (show w.heap.size + 1 + 1 + 1 ≤ _ from hz)
      have at6 := hat.less (show w.heap.size + 1 + 1 + 1 ≤ _ from hz)
      have lt := rattrs_val m.2
      clear B5 hR5 hf5 op5 od5 om5 hot hat hz
      generalize ha : rattrs m.2 = a at hct B6 ot6 at6 lt ⊢
      have Ka := Lib.hid ha
      clear ha
      go_wp2_with fail
      refine (rattrs_o _ _ _ w5 B6.rd (by omega)).mono ?_
      rintro e w6 ⟨⟨Au, cu, xu, rfl, hcu, hou, hau⟩, hR6, hf6⟩
      have B7 := B6.next hR6 hf6
      have hz := B6.size
      have op7 := own_up op6 (Nat.lt_succ_self _) (Up.grown hf6 (Nat.le_succ _))
      have od7 := own_up od6 (Nat.lt_succ_self _) (Up.grown hf6 (Nat.le_succ _))
      have om7 := own_up om6 (Nat.lt_succ_self _) (Up.grown hf6 (Nat.le_succ _))
      have ot7 := own_up ot6 (Nat.lt_succ_self _) (Up.grown hf6 (Nat.le_succ _))
      have at7 := at6.up (Nat.lt_succ_self _) (Up.grown hf6 (Nat.le_succ _))
      have ou7 := own_less hou (show w.heap.size + 1 + 1 + 1 ≤ _ from hz)
      have au7 := hau.less (show w.heap.size + 1 + 1 + 1 ≤ _ from hz)
      have lu := rattrs_val a.2
      clear B6 hR6 hf6 op6 od6 om6 ot6 at6 hou hau hz
      generalize hb : rattrs a.2 = b at hcu B7 ou7 au7 lu ⊢
      have Kb := Lib.hid hb
      clear hb
      have g9 : w6.cell? ⟨w.heap.size + 1 + 1, 9, none⟩ = some (.slice none 0 0) := B7.cell 9
      have g10 : w6.cell? ⟨w.heap.size + 1 + 1, 10, none⟩ = some (.slice none 0 0) := B7.cell 10
      have e9 := B7.frozen 9
      have e10 := B7.frozen 10
      have B8 := (B7.store 9 (.slice At a.1.length ct)).store 10 (.slice Au b.1.length cu)
      have hU : Up (w.heap.size + 1 + 1) w6 ((w6.setCell ⟨w.heap.size + 1 + 1, 9, none⟩ (.slice At a.1.length ct)).setCell ⟨w.heap.size + 1 + 1, 10, none⟩ (.slice Au b.1.length cu)) :=
        (Up.store w6 (Nat.le_refl _) 9 _).trans (Up.store _ (Nat.le_refl _) 10 _)
      have op8 := own_up op7 (Nat.lt_succ_self _) hU
      have od8 := own_up od7 (Nat.lt_succ_self _) hU
      have om8 := own_up om7 (Nat.lt_succ_self _) hU
      have ot8 := own_up ot7 (Nat.lt_succ_self _) hU
      have at8 := at7.up (Nat.lt_succ_self _) hU
      have ou8 := own_up ou7 (Nat.lt_succ_self _) hU
      have au8 := au7.up (Nat.lt_succ_self _) hU
      clear hU op7 od7 om7 ot7 at7 ou7 au7
      have hX := parseCall_val HF.out HV.out Kp.out Kd.out Km.out Ka.out Kb.out HV5.out
      have HX := Lib.hid hX
      clear hX
      have q0 : w6.cell? ⟨w.heap.size + 1 + 1, 0, none⟩ = some (.int .i64 (f.1 : Int)) := B7.cell 0
      have q1 : w6.cell? ⟨w.heap.size + 1 + 1, 1, none⟩ = some (.int .i64 n1) := B7.cell 1
      have q2 : w6.cell? ⟨w.heap.size + 1 + 1, 2, none⟩ = some (.int .i64 n2) := B7.cell 2
      have q3 : w6.cell? ⟨w.heap.size + 1 + 1, 3, none⟩ = some (.int .i64 n3) := B7.cell 3
      have q4 : w6.cell? ⟨w.heap.size + 1 + 1, 4, none⟩ = some (.int .i64 n4) := B7.cell 4
      have q5 : w6.cell? ⟨w.heap.size + 1 + 1, 5, none⟩ = some (.int .i64 n5) := B7.cell 5
      have q6 : w6.cell? ⟨w.heap.size + 1 + 1, 6, none⟩ = some (.slice Ap p.1.length cp) := B7.cell 6
      have q7 : w6.cell? ⟨w.heap.size + 1 + 1, 7, none⟩ = some (.slice Ad d.1.length cd) := B7.cell 7
      have q8 : w6.cell? ⟨w.heap.size + 1 + 1, 8, none⟩ = some (.slice Am m.1.length cm) := B7.cell 8
      clear B7
      go_wp2_with fail
      clear g9 g10 e9 e10 q0 q1 q2 q3 q4 q5 q6 q7 q8
      have hU : CallU ((w6.setCell ⟨w.heap.size + 1 + 1, 9, none⟩ (.slice At a.1.length ct)).setCell ⟨w.heap.size + 1 + 1, 10, none⟩ (.slice Au b.1.length cu)) ((w6.setCell ⟨w.heap.size + 1 + 1, 9, none⟩ (.slice At a.1.length ct)).setCell ⟨w.heap.size + 1 + 1, 10, none⟩ (.slice Au b.1.length cu)).heap.size ⟨f.1, n1, n2, n3, n4, n5, p.1, d.1, m.1, a.1, b.1⟩ ⟨Ap, cp, Ad, cd, Am, cm, At, ct, Au, cu⟩ :=
        ⟨(Rd.own op8).rdU, hcp, (Rd.own od8).rdU, hcd, (Rd.own om8).rdU, hcm, at8.atU ot8, hct, au8.atU ou8, hcu⟩
      have hM : CallM 100000 ⟨f.1, n1, n2, n3, n4, n5, p.1, d.1, m.1, a.1, b.1⟩ :=
        ⟨by show p.1.length ≤ _; omega, by show d.1.length ≤ _; omega, by show m.1.length ≤ _; omega, by show a.1.length ≤ _; omega, by show b.1.length ≤ _; omega, fun x hx => Nat.le_trans (lt.1 x hx) (by omega), fun x hx => Nat.le_trans (lu.1 x hx) (by omega)⟩
      refine (call_o ⟨f.1, n1, n2, n3, n4, n5, p.1, d.1, m.1, a.1, b.1⟩ ⟨Ap, cp, Ad, cd, Am, cm, At, ct, Au, cu⟩ 100000 _ hU hM (Nat.le_refl _)).mono ?_
      have h4 : ∀ l, encCall ⟨f.1, n1, n2, n3, n4, n5, p.1, d.1, m.1, a.1, b.1⟩ = some l → 4 ≤ l.length := fun l hl => enc_four hl
      generalize hr : encCall ⟨f.1, n1, n2, n3, n4, n5, p.1, d.1, m.1, a.1, b.1⟩ = r at h4 ⊢
      have HR := Lib.hid hr
      clear hr
      intro e w7 hG
      obtain ⟨Ae, ce, rfl, hce, hoe, hbe⟩ := hG
      have B9 := B8.kept hbe
      have op9 := own_below op8 hbe
      have od9 := own_below od8 hbe
      have om9 := own_below om8 hbe
      have ot9 := own_below ot8 hbe
      have at9 := at8.kept (grown_of_below (g := none) hbe) (by simp)
      have ou9 := own_below ou8 hbe
      have au9 := au8.kept (grown_of_below (g := none) hbe) (by simp)
      clear hU hbe B8 op8 od8 om8 ot8 at8 ou8 au8
      obtain ⟨Ar, cr, hRr⟩ := B9.rd
      have r1 : w7.cell? ⟨w.heap.size + 1, 1, none⟩ = some (.bool b.2.2) := cell_of_row w7 _ 1 _ 68 (0, 0) hRr.blk
      have hb7 := hb.below B9.below
      cases hbad : b.2.2 with
      | true =>
        rw [hbad] at r1
        have hno : readCall body = (zeroCall, false) := by
          unfold readCall okCall
          rw [HX.out, hbad]
          simp
        go_wp2_with (with_reducible refine Stop.store 27 ?_)
        refine Stop.mk ?_
        refine wpList_store_row rfl 27 _ _ rfl w.heap.size (callCells zeroCall zeroP) rfl rfl 27 _ B9.res (by rw [size27]; rfl) rfl (cells_one _ _) ?_
        go_wp2_with fail
        refine bodyPost_ret (res11 _ _ w.heap.size (callCells zeroCall zeroP) (.bool false) rfl rfl (setRow_heap _ _ _ _ _ _ B9.res) rfl) rfl ?_
        rw [hno]
        exact ⟨zeroP, rfl, zero_U _ _, below_setRow B9.below (Nat.le_refl _) _⟩
      | false =>
        rw [hbad] at r1
        go_wp2_with fail
        refine (same_o (r.getD []) body r.isSome Ae A ce c w7 (Rd.own hoe) hb7 hce (by intro hs; cases r with | none => simp at hs | some l => exact h4 l rfl)).mono ?_
        rintro e w8 ⟨rfl, rfl⟩
        cases hok : (r.isSome && (r.getD []).drop 4 == body) with
        | false =>
          have hno : readCall body = (zeroCall, false) := by
            unfold readCall okCall
            rw [HX.out, hbad, HR.out]
            cases r with
            | none => simp
            | some l => simp at hok ⊢; simp [hok]
          go_wp2_with (with_reducible refine Stop.store 27 ?_)
          refine Stop.mk ?_
          refine wpList_store_row rfl 27 _ _ rfl w.heap.size (callCells zeroCall zeroP) rfl rfl 27 _ B9.res (by rw [size27]; rfl) rfl (cells_one _ _) ?_
          go_wp2_with fail
          refine bodyPost_ret (res11 _ _ w.heap.size (callCells zeroCall zeroP) (.bool false) rfl rfl (setRow_heap _ _ _ _ _ _ B9.res) rfl) rfl ?_
          rw [hno]
          exact ⟨zeroP, rfl, zero_U _ _, below_setRow B9.below (Nat.le_refl _) _⟩
        | true =>
          have hyes : readCall body = (⟨f.1, n1, n2, n3, n4, n5, p.1, d.1, m.1, a.1, b.1⟩, true) := by
            unfold readCall okCall
            rw [HX.out, hbad, HR.out]
            cases r with
            | none => simp at hok
            | some l => simp at hok ⊢; simp [hok]
          go_wp2_with (with_reducible refine Stop.load 27 ?_)
          refine Stop.mk ?_
          refine wpList_load_row rfl 27 _ rfl (w.heap.size + 1 + 1) rfl 27 _ _ _ B9.call Try.underlying27 rfl size27 ?_
          go_wp2_with (with_reducible refine Stop.store 27 ?_)
          refine Stop.mk ?_
          refine wpList_store_row rfl 27 _ _ rfl w.heap.size (callCells ⟨f.1, n1, n2, n3, n4, n5, p.1, d.1, m.1, a.1, b.1⟩ ⟨Ap, cp, Ad, cd, Am, cm, At, ct, Au, cu⟩) rfl rfl 27 _ B9.res (by rw [size27]; rfl) rfl (cells_one _ _) ?_
          go_wp2_with fail
          refine bodyPost_ret (res11 _ _ w.heap.size (callCells ⟨f.1, n1, n2, n3, n4, n5, p.1, d.1, m.1, a.1, b.1⟩ ⟨Ap, cp, Ad, cd, Am, cm, At, ct, Au, cu⟩) (.bool true) rfl rfl (setRow_heap _ _ _ _ _ _ B9.res) rfl) rfl ?_
          rw [hyes]
          have hu : Up (w.heap.size + 1 + 1) w7 (w7.setRow w.heap.size (callCells ⟨f.1, n1, n2, n3, n4, n5, p.1, d.1, m.1, a.1, b.1⟩ ⟨Ap, cp, Ad, cd, Am, cm, At, ct, Au, cu⟩)) := ⟨by simp, fun k hk _ => setRow_other _ _ _ _ (by omega)⟩
          have ht := own_up ot9 (Nat.lt_succ_self _) hu
          have hv := own_up ou9 (Nat.lt_succ_self _) hu
          refine ⟨⟨Ap, cp, Ad, cd, Am, cm, At, ct, Au, cu⟩, rfl, ⟨(Rd.own (own_up op9 (Nat.lt_succ_self _) hu)).rdU, hcp, (Rd.own (own_up od9 (Nat.lt_succ_self _) hu)).rdU, hcd, (Rd.own (own_up om9 (Nat.lt_succ_self _) hu)).rdU, hcm,
            (at9.up (Nat.lt_succ_self _) hu).atU ht, hct, (au9.up (Nat.lt_succ_self _) hu).atU hv, hcu⟩, below_setRow B9.below (Nat.le_refl _) _⟩
end Go.Proofs.Ytekblnaogncplaa
