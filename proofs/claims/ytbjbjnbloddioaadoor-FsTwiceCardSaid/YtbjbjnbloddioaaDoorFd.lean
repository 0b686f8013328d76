/- A disk's functions: New, Crash. -/
import Derived.Test.YtbjbjnbloddioaaDoorFc
set_option linter.unusedVariables false
set_option linter.unusedSimpArgs false
namespace Go.Proofs.YtbjbjnbloddioaaDoor
open Go.RowKit Go.Shelf

theorem wpList_make_exact {P : Program} (w : World) {ops : Array Oper} {rest : List Oper} {o : Oper} {a : Act} {Q : Exit → Act → World → Prop}
    (hg : o.guard = none) (l c : Operand) (t : TypeId) (hop : o.op = Op.makeSlice t l c)
    (e : TypeId) (z : Value) (size bytes : Nat) (h1 : P.underlying t = some (.slice e)) (hinfo : (P.info? e).map (fun i => (i.zero, i.size, i.bytes)) = some (some z, size, bytes))
    (kl kc : IntKind) (n : Nat) (hl : a.eval l = .int kl (n : Int)) (hc : a.eval c = .int kc (n : Int)) (b2 : bytes * n ≤ 281474976710656) (b3 : n ≤ 9223372036854775807)
    (hK : wpList P ops Q rest (a.put o.dst (.slice (some ⟨w.heap.size, 0, none⟩) n n)) (w.alloc (.cells (madeCells z.cells (n * size)) e))) :
    wpList P ops Q (o :: rest) a w := by
  refine wpList_plain hg fun K hK' => ?_
  obtain ⟨i, hi, hzz⟩ := Option.map_eq_some_iff.1 hinfo
  simp only [Prod.mk.injEq] at hzz
  obtain ⟨hz, rfl, rfl⟩ := hzz
  have hb' : (i.bytes : Int) * (n : Int) ≤ 281474976710656 := by
    have h : ((i.bytes * n : Nat) : Int) ≤ 281474976710656 := by omega
    rwa [Int.natCast_mul] at h
  have hr := run_make (P := P) w t e i z h1 hi hz kl kc n n (by omega) (Int.le_refl _) hb' (by omega)
  simp only [Int.toNat_natCast] at hr
  unfold Oper.wp
  simp [execOp, hop, hl, hc, hr, Result.andThen]
  exact hK' _ _ hK
theorem new_cells (w : World) (n : Nat) : (madeCells (Value.cells (.agg #[.slice none 0 0, .slice none 0 0, .bool false])) (n * 3)).size = n * 3 ∧
    ∀ i s, (DiskD.new n).secs[i]? = some s → SecAt w (madeCells (Value.cells (.agg #[.slice none 0 0, .slice none 0 0, .bool false])) (n * 3)) i s := by
  refine ⟨size_madeCells _ _, fun i s hs => ?_⟩
  have hi : i < n := by
    have := (List.getElem?_eq_some_iff.1 hs).1
    simpa [DiskD.new] using this
  have hs' : s = ⟨zs 256, zs 256, false⟩ := by
    simp [DiskD.new, hi] at hs
    exact hs.symm
  subst hs'
  have m0 : i * 3 % 3 = 0 := by omega
  have m1 : (i * 3 + 1) % 3 = 1 := by omega
  have m2 : (i * 3 + 2) % 3 = 2 := by omega
  have hc : Value.cells (.agg #[.slice none 0 0, .slice none 0 0, .bool false]) = #[.slice none 0 0, .slice none 0 0, .bool false] := rfl
  refine ⟨.slice none 0 0, .slice none 0 0, ?_, ?_, ?_, SecV.zero w, SecV.zero w⟩
  · rw [hc]; simp [madeCells, show i * 3 < n * 3 by omega, m0]
  · rw [hc]; simp [madeCells, show i * 3 + 1 < n * 3 by omega, m1]
  · rw [hc]; simp [madeCells, show i * 3 + 2 < n * 3 by omega, m2]

set_option maxRecDepth 100000 in
theorem newd_out (n : Int) (hn : n < 1 ∨ 65536 < n) (w : World) : Calls Tryd.prog 16 #[.int .i64 n] w (fun e w' => e = .returned (.pointer none) ∧ w = w') := by
  by_cases h0 : n < 1
  · go_enter Tryd.func16, Tryd.ntmps16
    go_wp2_with fail
    go_ret
    exact ⟨rfl, rfl⟩
  · have h1 : 65536 < n := by omega
    go_enter Tryd.func16, Tryd.ntmps16
    go_wp2_with fail
    go_ret
    exact ⟨rfl, rfl⟩
set_option maxRecDepth 100000 in
theorem newd_o (n : Nat) (h1 : 1 ≤ n) (h2 : n ≤ 65536) (w : World) : Calls Tryd.prog 16 #[.int .i64 (n : Int)] w (fun e w' => ∃ g gl, e = .returned (.pointer (some ⟨g, 0, none⟩)) ∧ w.heap.size ≤ g ∧ w.heap.size ≤ gl ∧ DiskAt w' g gl (DiskD.new n) ∧ Below w.heap.size w w') := by
  have hl : (DiskD.new n).secs.length = n := by simp [DiskD.new]
  go_enter Tryd.func16, Tryd.ntmps16
  go_wp2_with (at_make; refine Stop.out ?_)
  refine Stop.mk ?_
  refine wpList_make_exact w rfl _ _ 67 rfl 71 _ 3 56 Tryd.underlying67 info71 .i64 .i64 n rfl rfl (by omega) (by omega) ?_
  have hk1 := heap_alloc_new w (.cells (madeCells (Value.cells (.agg #[.slice none 0 0, .slice none 0 0, .bool false])) (n * 3)) 71)
  have hb1 := below_alloc w (.cells (madeCells (Value.cells (.agg #[.slice none 0 0, .slice none 0 0, .bool false])) (n * 3)) 71)
  generalize w.alloc (.cells (madeCells (Value.cells (.agg #[.slice none 0 0, .slice none 0 0, .bool false])) (n * 3)) 71) = w1 at hk1 hb1 ⊢
  go_wp2_with fail
  go_ret
  have hb2 := below_alloc w1 (.cells #[.slice (some ⟨w.heap.size, 0, none⟩) n n, .bool false, .int .i64 0, .bool false, .int .i64 0] 69)
  have hlt : w.heap.size < w1.heap.size := (Array.getElem?_eq_some_iff.1 hk1).1
  refine ⟨w1.heap.size, w.heap.size, rfl, hb1.size, Nat.le_refl _, ⟨⟨0, ?_⟩, ⟨_, (hb2.block _ hlt).trans hk1, by rw [hl]; exact (new_cells w n).1, (new_cells _ n).2⟩, (fun m e => by cases e), by rw [hl]; exact h2⟩, hb1.trans (hb2.mono hb1.size)⟩
  rw [hl]
  exact heap_alloc_new w1 _

def SecD.crash (s : SecD) (k : Bool) : SecD := ⟨if s.dirty && k then s.now else s.syn, if s.dirty && k then s.now else s.syn, false⟩
def DiskD.crash (D : DiskD) (kf : Nat → Bool) : DiskD := { secs := D.secs.mapIdx fun i s => s.crash (kf i), fuse := none }
def DiskD.crashTo (D : DiskD) (kf : Nat → Bool) : Nat → DiskD
  | 0 => DiskD.new D.secs.length
  | k + 1 => { D.crashTo kf k with secs := (D.crashTo kf k).secs.set k (((D.secs[k]?).getD ⟨[], [], false⟩).crash (kf k)) }
theorem crashTo_len (D : DiskD) (kf : Nat → Bool) : ∀ k, (D.crashTo kf k).secs.length = D.secs.length
  | 0 => by simp [DiskD.crashTo, DiskD.new]
  | k + 1 => by simp [DiskD.crashTo, crashTo_len D kf k]
theorem crashTo_fuse (D : DiskD) (kf : Nat → Bool) : ∀ k, (D.crashTo kf k).fuse = none
  | 0 => rfl
  | k + 1 => crashTo_fuse D kf k
theorem crashTo_at (D : DiskD) (kf : Nat → Bool) (j : Nat) : ∀ k, k ≤ D.secs.length → j < k → (D.crashTo kf k).secs[j]? = D.secs[j]?.map fun s => s.crash (kf j)
  | 0, _, h => by omega
  | k + 1, hk, h => by
    simp only [DiskD.crashTo, List.getElem?_set, crashTo_len]
    by_cases e : k = j
    · subst e
      have : k < D.secs.length := by omega
      simp [this]
    · rw [if_neg e, crashTo_at D kf j k (by omega) (by omega)]
theorem crashTo_all (D : DiskD) (kf : Nat → Bool) : D.crashTo kf D.secs.length = D.crash kf := by
  have h1 := crashTo_fuse D kf D.secs.length
  have h2 : (D.crashTo kf D.secs.length).secs = (D.crash kf).secs := by
    apply List.ext_getElem?
    intro j
    by_cases h : j < D.secs.length
    · rw [crashTo_at D kf j _ (Nat.le_refl _) h]
      simp [DiskD.crash]
    · rw [List.getElem?_eq_none (by rw [crashTo_len]; omega), List.getElem?_eq_none (by simp [DiskD.crash]; omega)]
  calc D.crashTo kf D.secs.length = ⟨(D.crashTo kf D.secs.length).secs, (D.crashTo kf D.secs.length).fuse⟩ := rfl
    _ = D.crash kf := by rw [h1, h2]; rfl
/-- A sector of the new disk laid. -/
theorem crash_step {W0 : World} {g gl k : Nat} {D : DiskD} {v : Value} {b : List UInt8} (h : DiskAt W0 g gl D) (hk : k < D.secs.length) (hv : SecV W0 v b) :
    DiskAt (((W0.setCell ⟨gl, k * 3, none⟩ v).setCell ⟨gl, k * 3 + 1, none⟩ v).setCell ⟨gl, k * 3 + 2, none⟩ (.bool false)) g gl { D with secs := D.secs.set k ⟨b, b, false⟩ } ∧
      Fr (two g gl) W0 (((W0.setCell ⟨gl, k * 3, none⟩ v).setCell ⟨gl, k * 3 + 1, none⟩ v).setCell ⟨gl, k * 3 + 2, none⟩ (.bool false)) := by
  obtain ⟨cnt, hd⟩ := h.dk
  obtain ⟨cs, hs, hz, hc⟩ := h.ss
  have hfr := (((Fr.refl (two g gl) W0).set (p := ⟨gl, k * 3, none⟩) (.inr rfl) v).set (p := ⟨gl, k * 3 + 1, none⟩) (.inr rfl) v).set (p := ⟨gl, k * 3 + 2, none⟩) (.inr rfl) (.bool false)
  have hg3 := heap_setCell_same _ gl (k * 3 + 2) _ 71 (.bool false) (heap_setCell_same _ gl (k * 3 + 1) _ 71 v (heap_setCell_same W0 gl (k * 3) _ 71 v hs))
  have hoth : ∀ (W : World) (j : Nat) (v : Value), (W.setCell ⟨gl, j, none⟩ v).heap[g]? = W.heap[g]? := fun W j v => heap_setCell_other _ _ _ _ h.ne
  refine ⟨⟨⟨cnt, by rw [List.length_set]; exact (hoth _ _ _).trans ((hoth _ _ _).trans ((hoth _ _ _).trans hd))⟩, ⟨_, hg3, by rw [List.length_set]; simpa using hz, fun j s hj => ?_⟩, h.small, by rw [List.length_set]; exact h.len⟩, hfr⟩
  refine SecAt.fr (w := W0) ?_ hfr h.no5
  by_cases e : k = j
  · subst e
    simp only [List.getElem?_set, if_pos hk] at hj
    simp at hj
    subst hj
    refine ⟨v, v, ?_, ?_, ?_, hv, hv⟩
    · rw [setIf_other _ (by omega), setIf_other _ (by omega), setIf_same _ (by omega)]
    · rw [setIf_other _ (by omega), setIf_same _ (by simp; omega)]
    · rw [setIf_same _ (by simp; omega)]
  · simp only [List.getElem?_set, if_neg e] at hj
    obtain ⟨nv, sv, s1, s2, s3, v0, v1⟩ := hc j s hj
    refine ⟨nv, sv, ?_, ?_, ?_, v0, v1⟩
    · rw [setIf_other _ (by omega), setIf_other _ (by omega), setIf_other _ (by omega), s1]
    · rw [setIf_other _ (by omega), setIf_other _ (by omega), setIf_other _ (by omega), s2]
    · rw [setIf_other _ (by omega), setIf_other _ (by omega), setIf_other _ (by omega), s3]
/-- What is kept at a crash. -/
def Keeps (kv : Value) (kf : Nat → Bool) (n : Nat) (w : World) : Prop :=
  (kv = .nilFunc ∧ ∀ i, kf i = false) ∨ ∃ p q, kv = .func (.func 37) #[] #[p, q] ∧ ∀ i, i < n → ∀ W, Below w.heap.size w W → Calls Tryd.prog 37 #[.int .i64 (i : Int), p, q] W (fun e w' => e = .returned (.bool (kf i)) ∧ (w' = W ∨ w' = W.drew))

theorem neq_nilF (w : World) : (binOp .neq 54 .nilFunc .nilFunc).run Tryd.prog w = .ok (.bool false) w := by kernel_rfl
theorem neq_fn (w : World) (p q : Value) : (binOp .neq 54 (.func (.func 37) #[] #[p, q]) .nilFunc).run Tryd.prog w = .ok (.bool true) w := by kernel_rfl
set_option maxRecDepth 100000 in
set_option maxHeartbeats 3200000 in
theorem crash_o (g gl : Nat) (D : DiskD) (kv : Value) (kf : Nat → Bool) (w : World) (h : DiskAt w g gl D) (h1 : 1 ≤ D.secs.length) (hk : Keeps kv kf D.secs.length w) :
    Calls Tryd.prog 21 #[.pointer (some ⟨g, 0, none⟩), kv] w (fun e w' => ∃ g' gl', e = .returned (.pointer (some ⟨g', 0, none⟩)) ∧ w.heap.size ≤ g' ∧ w.heap.size ≤ gl' ∧ DiskAt w' g' gl' (D.crash kf) ∧ Below w.heap.size w w') := by
  obtain ⟨cnt, hd⟩ := h.dk
  obtain ⟨cs, hs, hz, hc⟩ := h.ss
  have hgl := h.lt
  have c0 : w.cell? ⟨g, 0, none⟩ = some (.slice (some ⟨gl, 0, none⟩) D.secs.length D.secs.length) := cell_of_row _ g 0 _ 69 (0, 0) hd
  have hlen := h.len
  go_enter Tryd.func21, Tryd.ntmps21
  go_wp2_with fail
  refine (newd_o D.secs.length h1 hlen w).mono ?_
  rintro e w1 ⟨g1, gl1, rfl, hg1, hgl1, hD1, hb1⟩
  have c01 := (hb1.cell (p := ⟨g, 0, none⟩) hgl.1).trans c0
  clear c0
  go_wp2_with fail
  go_loopw [22] (fun i wr => ∃ k : Nat, k ≤ D.secs.length ∧ i = .int .i64 k ∧ DiskAt wr g1 gl1 (D.crashTo kf k) ∧ Below w.heap.size w wr) (fun i _ => D.secs.length - (intOf i).toNat)
  case atStart => exact ⟨0, by omega, rfl, hD1, hb1⟩
  case round =>
    clear c01
    obtain ⟨k, hk', rfl, h2, hb2⟩ := hrel
    by_cases hlt : k < D.secs.length
    · obtain ⟨nv, sv, s0, s1, s2, v0, v1⟩ := hc k _ (List.getElem?_eq_getElem hlt)
      obtain ⟨An, ln, cn, rfl⟩ := v0.shape
      obtain ⟨As, ls, ccs, rfl⟩ := v1.shape
      have hsr := (hb2.block gl hgl.2).trans hs
      have a0 : wr.cell? ⟨gl, k * 3, none⟩ = some (.slice An ln cn) := (cell_of_row wr gl (k * 3) _ 71 (0, 0) hsr).trans s0
      have a1 : wr.cell? ⟨gl, k * 3 + 1, none⟩ = some (.slice As ls ccs) := (cell_of_row wr gl (k * 3 + 1) _ 71 (0, 0) hsr).trans s1
      have a2 : wr.cell? ⟨gl, k * 3 + 2, none⟩ = some (.bool D.secs[k].dirty) := (cell_of_row wr gl (k * 3 + 2) _ 71 (0, 0) hsr).trans s2
      obtain ⟨cnt2, hd2⟩ := h2.dk
      obtain ⟨cs2, hs2, hz2, hc2⟩ := h2.ss
      rw [crashTo_len] at hd2 hz2
      have b0 : wr.cell? ⟨g1, 0, none⟩ = some (.slice (some ⟨gl1, 0, none⟩) D.secs.length D.secs.length) := cell_of_row wr g1 0 _ 69 (0, 0) hd2
      have d0 : wr.cell? ⟨gl1, k * 3, none⟩ = some cs2[k * 3] := by rw [cell_of_row wr gl1 (k * 3) _ 71 (0, 0) hs2]; simp
      have d1 : wr.cell? ⟨gl1, k * 3 + 1, none⟩ = some cs2[k * 3 + 1] := by rw [cell_of_row wr gl1 (k * 3 + 1) _ 71 (0, 0) hs2]; simp
      have d2 : wr.cell? ⟨gl1, k * 3 + 2, none⟩ = some cs2[k * 3 + 2] := by rw [cell_of_row wr gl1 (k * 3 + 2) _ 71 (0, 0) hs2]; simp
      have f0 : wr.frozen? ⟨gl1, k * 3, none⟩ = false := frozen_of_row wr gl1 (k * 3) _ 71 hs2
      have f1 : wr.frozen? ⟨gl1, k * 3 + 1, none⟩ = false := frozen_of_row wr gl1 (k * 3 + 1) _ 71 hs2
      have f2 : wr.frozen? ⟨gl1, k * 3 + 2, none⟩ = false := frozen_of_row wr gl1 (k * 3 + 2) _ 71 hs2
      generalize cs2[k * 3] = x0 at d0
      generalize cs2[k * 3 + 1] = x1 at d1
      generalize cs2[k * 3 + 2] = x2 at d2
      have hgz := h2.lt
      have hge : D.secs[k]? = some D.secs[k] := List.getElem?_eq_getElem hlt
      -- the end of a round
      have HE : ∀ (v : Value) (b : List UInt8) (dt : Bool), ∀ W0 : World, (W0 = wr ∨ W0 = wr.drew) → SecV w v b → D.secs[k].crash (kf k) = ⟨b, b, false⟩ →
          DiskAt ((((W0.setCell ⟨gl1, k * 3, none⟩ v).setCell ⟨gl1, k * 3 + 1, none⟩ v).setCell ⟨gl1, k * 3 + 2, none⟩ (.bool false)).alloc (.cells #[.slice An ln cn, .slice As ls ccs, .bool dt] 71)) g1 gl1 (D.crashTo kf (k + 1)) ∧ Below w.heap.size w ((((W0.setCell ⟨gl1, k * 3, none⟩ v).setCell ⟨gl1, k * 3 + 1, none⟩ v).setCell ⟨gl1, k * 3 + 2, none⟩ (.bool false)).alloc (.cells #[.slice An ln cn, .slice As ls ccs, .bool dt] 71)) := fun v b dt W0 hW0 hv hb => by
        obtain ⟨h2, hb2⟩ : DiskAt W0 g1 gl1 (D.crashTo kf k) ∧ Below w.heap.size w W0 := by
          rcases hW0 with rfl | rfl
          · exact ⟨h2, hb2⟩
          · exact ⟨h2.below (below_drew _), hb2.trans ((below_drew _).mono hb2.size)⟩
        have hvw : SecV W0 v b := hv.fr (S := fun _ => False) (Fr.below hb2) (fun _ h => h.elim)
        obtain ⟨q1, q2⟩ := crash_step h2 (by rw [crashTo_len]; exact hlt) hvw
        have q3 := hb2.trans (q2.to (B := w.heap.size) (fun k hk => by rcases hk with rfl | rfl <;> assumption) hb2.size)
        have hbA := below_alloc (((W0.setCell ⟨gl1, k * 3, none⟩ v).setCell ⟨gl1, k * 3 + 1, none⟩ v).setCell ⟨gl1, k * 3 + 2, none⟩ (.bool false)) (.cells #[.slice An ln cn, .slice As ls ccs, .bool dt] 71)
        refine ⟨?_, q3.trans (hbA.mono q3.size)⟩
        simp only [DiskD.crashTo, hge, Option.getD_some, hb]
        exact q1.below hbA
      have HH := Lib.hid HE
      clear HE s0 s1 s2 hsr hd2 hs2 hc2 hge
      have hcr : D.secs[k].crash (kf k) = ⟨if D.secs[k].dirty && kf k then D.secs[k].now else D.secs[k].syn, if D.secs[k].dirty && kf k then D.secs[k].now else D.secs[k].syn, false⟩ := rfl
      generalize D.secs[k].dirty = dt at a2 hcr
      have HC := Lib.hid hcr
      clear hcr
      cases dt with
      | false =>
        go_wp2_with fail
        go_roundw
        case rel =>
          have q := HH.out (.slice As ls ccs) _ false wr (.inl rfl) v1 (by rw [HC.out]; rfl)
          exact ⟨k + 1, hlt, by go_num, q⟩
        case measure => simp [intOf]; omega
      | true =>
        rcases hk with ⟨rfl, hkf⟩ | ⟨p, q, rfl, hkf⟩
        · have hq := neq_nilF
          have hkk := hkf k
          go_wp2_with fail
          go_roundw
          case rel =>
            have q := HH.out (.slice As ls ccs) _ true wr (.inl rfl) v1 (by rw [HC.out, hkk]; rfl)
            exact ⟨k + 1, hlt, by go_num, q⟩
          case measure => simp [intOf]; omega
        · have hq := neq_fn
          have hbA : Below w.heap.size w (wr.alloc (.cells #[.slice An ln cn, .slice As ls ccs, .bool true] 71)) := hb2.trans ((below_alloc wr _).mono hb2.size)
          have hcall := hkf k hlt _ hbA
          cases hkk : kf k with
          | false =>
            rw [hkk] at hcall
            have HKK := Lib.hid hkk
            clear hkk
            go_wp2_with fail
            refine hcall.mono ?_
            rintro e w' ⟨rfl, rfl | rfl⟩
            · go_wp2_with fail
              go_roundw
              case rel =>
                have q := HH.out (.slice As ls ccs) _ true wr (.inl rfl) v1 (by rw [HC.out, HKK.out]; rfl)
                exact ⟨k + 1, hlt, by go_num, q⟩
              case measure => simp [intOf]; omega
            · go_wp2_with fail
              go_roundw
              case rel =>
                have q := HH.out (.slice As ls ccs) _ true wr.drew (.inr rfl) v1 (by rw [HC.out, HKK.out]; rfl)
                exact ⟨k + 1, hlt, by go_num, q⟩
              case measure => simp [intOf]; omega
          | true =>
            rw [hkk] at hcall
            have HKK := Lib.hid hkk
            clear hkk
            go_wp2_with fail
            refine hcall.mono ?_
            rintro e w' ⟨rfl, rfl | rfl⟩
            · go_wp2_with fail
              go_roundw
              case rel =>
                have q := HH.out (.slice An ln cn) _ true wr (.inl rfl) v0 (by rw [HC.out, HKK.out]; rfl)
                exact ⟨k + 1, hlt, by go_num, q⟩
              case measure => simp [intOf]; omega
            · go_wp2_with fail
              go_roundw
              case rel =>
                have q := HH.out (.slice An ln cn) _ true wr.drew (.inr rfl) v0 (by rw [HC.out, HKK.out]; rfl)
                exact ⟨k + 1, hlt, by go_num, q⟩
              case measure => simp [intOf]; omega
    · obtain rfl : k = D.secs.length := by omega
      rw [crashTo_all] at h2
      go_wp2_with fail
      go_ret
      exact ⟨g1, gl1, rfl, hg1, hgl1, h2, hb2⟩
end Go.Proofs.YtbjbjnbloddioaaDoor
