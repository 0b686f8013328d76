/- RpcCall. -/
import Derived.Test.YtekblnaogncplaaW
import Derived.Test.YtekblnaogncplaaP
import Derived.Test.YtekblnaogncplaaXb
set_option linter.unusedVariables false
set_option linter.unusedSimpArgs false
namespace Go.Proofs.Ytekblnaogncplaa
open Go.RowKit

theorem cutA_len (n : Nat) (L : List AttrD) : (cutA n L).length ≤ 14 ∧ ∀ a ∈ cutA n L, a.2.length ≤ n := by
  refine ⟨by simp [cutA]; omega, fun a ha => ?_⟩
  obtain ⟨b, hb, rfl⟩ := List.mem_map.1 ha
  simp
  omega
theorem cutCall_M (x : CallD) : CallM 100000 (cutCall x) :=
  ⟨by simp [cutCall]; omega, by simp [cutCall]; omega, by simp [cutCall]; omega, Nat.le_trans (cutA_len _ _).1 (by omega), Nat.le_trans (cutA_len _ _).1 (by omega), fun a ha => Nat.le_trans ((cutA_len _ _).2 a ha) (by omega), fun a ha => Nat.le_trans ((cutA_len _ _).2 a ha) (by omega)⟩

theorem wpList_load_rowG {P : Program} {ops : Array Oper} {rest : List Oper} {o : Oper} {a : Act} {w : World} {Q : Exit → Act → World → Prop} (hw : Region.wanted o (yielded ops a.tmps) = true) (ty : TypeId) (x : Operand) (ho : o.op = .load ty x)
    (g : Nat) (hx : a.eval x = .pointer (some ⟨g, 0, none⟩)) (t : TypeId) (cs : Array Value) (fr : Nat × Nat) (d : TypeDesc) (hg : w.heap[g]? = some (.cells cs t fr))
    (hu : P.underlying ty = some d) (hd : (match d with | .struct _ | .array _ _ => true | _ => false) = true) (hi : (P.info? ty).map (·.size) = some cs.size)
    (h : wpList P ops Q rest (a.put o.dst (.agg cs)) w) : wpList P ops Q (o :: rest) a w := by
  rw [wpList, if_pos hw]
  exact .inl (wp_load_row ty x ho g hx t cs fr d hg hu hd hi h)
theorem encL_len (n : Nat) : ∀ L : List AttrD, (∀ a ∈ L, a.2.length ≤ n) → (encL L).length ≤ L.length * (n + 4)
  | [], _ => by simp [encL]
  | a :: L, h => by
    have h1 := encL_len n L (fun b hb => h b (List.mem_cons_of_mem _ hb))
    have h2 := h a List.mem_cons_self
    rw [encL_cons, List.length_cons, Nat.add_mul]
    simp [be_length]
    omega
theorem attrs_small {L : List AttrD} {t : List UInt8} (h : oattrs (some []) L = some t) (h1 : L.length ≤ 14 ∧ ∀ a ∈ L, a.2.length ≤ 300) : t.length ≤ 5000 := by
  obtain ⟨ht, _, _⟩ := oattrs_list h
  have h2 := encL_len 300 L h1.2
  have h3 : L.length * (300 + 4) ≤ 14 * 304 := Nat.mul_le_mul h1.1 (Nat.le_refl _)
  rw [ht]
  simp [be_length]
  omega
theorem frame_small {x : CallD} {f : List UInt8} (h : encCall x = some f) (hp : x.param.length ≤ 300) (hd : x.data.length ≤ 400) (hm : x.more.length ≤ 200) (h1 : x.t1.length ≤ 14 ∧ ∀ a ∈ x.t1, a.2.length ≤ 300) (h2 : x.t2.length ≤ 14 ∧ ∀ a ∈ x.t2, a.2.length ≤ 300) : f.length ≤ 100000 := by
  obtain ⟨t1, t2, ht1, ht2, body, hf, _, hb⟩ := (enc_made h).body
  have e1 := attrs_small ht1 h1
  have e2 := attrs_small ht2 h2
  have : body.length ≤ 12000 := by rw [hb]; simp [be_length]; omega
  rw [hf]
  simp [be_length]
  omega
theorem frame_gt {x : CallD} {f : List UInt8} (h : encCall x = some f) : 4 < f.length := by
  obtain ⟨t1, t2, _, _, body, hf, _, hb⟩ := (enc_made h).body
  rw [hf]
  have : 0 < body.length := by rw [hb]; simp [be_length]; omega
  simp [be_length]
  omega

set_option maxRecDepth 100000 in
set_option maxHeartbeats 1600000 in
theorem rpcCall_o (x : CallD) (p : CallP) (w : World) (hx : CallU w w.heap.size x p) (hl : x.t1.length ≤ 9223372036854775807 ∧ x.t2.length ≤ 9223372036854775807) :
    Calls Try.prog 3 #[.agg (callCells x p)] w (fun e w' => e = .returned (.bool true) ∧ Below w.heap.size w w') := by
  have hb0 := below_alloc w (.cells (callCells x p) 27)
  have hk0 : (w.alloc (.cells (callCells x p) 27)).heap[w.heap.size]? = some (.cells (callCells x p) 27 (0, 0)) := heap_alloc_new w _
  have hx0 := hx.below hb0
  unfold callCells at hb0 hk0 hx0 ⊢
  go_enter Try.func3, Try.ntmps3
  go_wp2_with fail
  refine (begun_o _).mono ?_
  rintro e w1 ⟨rfl, hb1⟩
  have hbw1 : Below w.heap.size w w1 := hb0.trans (hb1.mono (by simp))
  have hk1 := (hb1.block w.heap.size (by simp)).trans hk0
  have hz1 : w.heap.size < w1.heap.size := by have := hb1.size; simp at this; omega
  have hx1 := hx.below hbw1
  clear hb0 hk0 hx0 hb1
  go_wp2_with (with_reducible refine Stop.load 27 ?_)
  refine Stop.mk ?_
  refine wpList_load_row rfl 27 _ rfl w.heap.size rfl 27 _ _ _ hk1 Try.underlying27 rfl size27 ?_
  go_wp2_with fail
  refine (cutCall_o x p w1 w.heap.size hbw1.size hx1 hl).mono ?_
  rintro e w2 ⟨q, rfl, hU2, hb2⟩
  have hM := cutCall_M x
  have hsm : ∀ f, encCall (cutCall x) = some f → f.length ≤ 100000 := fun f hf => frame_small hf (by simp [cutCall]; omega) (by simp [cutCall]; omega) (by simp [cutCall]; omega) (cutA_len _ _) (cutA_len _ _)
  generalize cutCall x = y at hU2 hM hsm ⊢
  have hk2 := (hb2.block w.heap.size hz1).trans hk1
  have hbw2 := hbw1.trans (hb2.mono hbw1.size)
  clear hx1 hk1
  go_wp2_with (with_reducible refine Stop.store 27 ?_)
  refine Stop.mk ?_
  refine wpList_store_row rfl 27 _ _ rfl w.heap.size (callCells y q) rfl rfl 27 _ hk2 (by rw [size27]; rfl) rfl (cells_one _ _) ?_
  obtain ⟨w3, hw3⟩ : ∃ w3, w3 = w2.setRow w.heap.size (callCells y q) := ⟨_, rfl⟩
  have hk3 : w3.heap[w.heap.size]? = some (.cells (callCells y q) 27 (0, 0)) := by rw [hw3]; exact setRow_heap _ _ _ _ _ _ hk2
  have hbw3 : Below w.heap.size w w3 := by rw [hw3]; exact below_setRow hbw2 (Nat.le_refl _) _
  have hz3 : w.heap.size < w3.heap.size := by rw [hw3]; simp; exact Nat.lt_of_lt_of_le hz1 hb2.size
  have hU3 : CallF w3 w.heap.size w1.heap.size y q := hU2.next (by rw [hw3]; exact below_setRow (Below.refl _ _) (Nat.le_refl _) _) (g := w.heap.size) (by rw [hw3]; exact ⟨by simp, fun k hk _ => setRow_other _ _ _ _ (by omega)⟩) hz1
  rw [← hw3]
  clear hw3 hU2 hk2 hbw2 hb2
  go_wp2_with (with_reducible refine Stop.load 27 ?_)
  refine Stop.mk ?_
  refine wpList_load_row rfl 27 _ rfl w.heap.size rfl 27 _ _ _ hk3 Try.underlying27 rfl size27 ?_
  go_wp2_with fail
  refine (call_o y q 100000 w3 (hU3.toU (Nat.le_of_lt hz3)) hM (Nat.le_refl _)).mono ?_
  intro e w4 hG
  obtain ⟨A, c, rfl, hc, ho, hb4⟩ := hG
  have hk4 := (hb4.block w.heap.size hz3).trans hk3
  have hU4 := hU3.next (hb4.mono (Nat.le_of_lt hz3)) (Up.below hb4) (g := w.heap.size) hz1
  have hz4 : w.heap.size < w4.heap.size := Nat.lt_of_lt_of_le hz3 hb4.size
  have hrb : ∀ f, encCall y = some f → (readCall (f.drop 4) = (y, true) ∧ 4 ≤ f.length ∧ f.length ≤ 262148) ∧ 4 < f.length ∧ f.length ≤ 100000 := fun f hf => ⟨read_back hf, frame_gt hf, hsm f hf⟩
  have hes := enc_same y
  generalize encCall y = r at hc ho hrb hes ⊢
  have HES := Lib.hid hes
  have HRB := Lib.hid hrb
  clear hes hrb hsm
  have hbw4 := hbw3.trans (hb4.mono (Nat.le_of_lt hz3))
  clear hk3 hU3
  go_wp2_with (with_reducible refine Stop.load 27 ?_)
  refine Stop.mk ?_
  refine wpList_load_row rfl 27 _ rfl w.heap.size rfl 27 _ _ _ hk4 Try.underlying27 rfl size27 ?_
  go_wp2_with fail
  refine (refCall_o y q w4 (hU4.toU (Nat.le_of_lt hz4)) hM).mono ?_
  intro e w5 hG
  rw [← HES.out] at hG
  obtain ⟨A2, c2, rfl, hc2, ho2, hb5⟩ := hG
  have hk5 := (hb5.block w.heap.size hz4).trans hk4
  have hU5 := hU4.next (hb5.mono (Nat.le_of_lt hz4)) (Up.below hb5) (g := w.heap.size) hz1
  have hz5 : w.heap.size < w5.heap.size := Nat.lt_of_lt_of_le hz4 hb5.size
  have hbw5 := hbw4.trans (hb5.mono (Nat.le_of_lt hz4))
  have hR1 := (Rd.own ho).below hb5
  have hR2 := Rd.own ho2
  have s1 := run_str (P := Try.prog) w5 hR1 22 9 5 Try.underlying22 Try.underlying5 Try.underlying9 (r.getD []).length c rfl
  have s2 := run_str (P := Try.prog) w5 hR2 22 9 5 Try.underlying22 Try.underlying5 Try.underlying9 (r.getD []).length c2 rfl
  unfold str at s1 s2
  clear HES hk4 hU4 ho ho2
  cases r with
  | none =>
    simp only [Option.getD_none, List.length_nil] at s1 s2
    clear HRB
    go_wp2_with fail
    go_ret
    exact ⟨rfl, hbw5⟩
  | some f =>
    obtain ⟨⟨hrd, hf4, hfl⟩, hgt, hfs⟩ := HRB.out f rfl
    simp only [Option.getD_some] at hc hc2 hR1 hR2 s1 s2
    have hR3 := hR1.dropS 4 (by decide)
    rw [show (bvs f).drop 4 = bvs (f.drop 4) by simp [bvs]] at hR3
    obtain ⟨g, o, rfl⟩ : ∃ g o, A = some ⟨g, o, none⟩ := hR1.some_ (by simp [bvs_length]; omega)
    have hR3 : Rd w5 (some ⟨g, o + 4, none⟩) (bvs (f.drop 4)) := hR3
    have hi1 : (4 : Int) ≤ (f.length : Int) := by omega
    have hi2 : ¬ (c = 4) := by omega
    have hcall := readCall_o (f.drop 4) (some ⟨g, o + 4, none⟩) (c - 4) w5 hR3 (by simp; omega) (by simp; omega)
    rw [hrd] at hcall
    have hdl : (f.drop 4).length = f.length - 4 := by simp
    rw [hdl] at hcall
    clear HRB hrd hR1 hR2 hR3
    go_wp2_with fail
    refine hcall.mono ?_
    clear hcall
    rintro e w6 ⟨q6, rfl, hU6, hb6⟩
    have hk6 := (hb6.block w.heap.size hz5).trans hk5
    have hU5' := hU5.next (hb6.mono (Nat.le_of_lt hz5)) (Up.below hb6) (g := w.heap.size) hz1
    have hz6 : w.heap.size < w6.heap.size := Nat.lt_of_lt_of_le hz5 hb6.size
    have hbw6 := hbw5.trans (hb6.mono (Nat.le_of_lt hz5))
    clear s1 s2 hk5 hU5
    go_wp2_with (with_reducible refine Stop.store 27 ?_)
    refine Stop.mk ?_
    refine wpList_new27 rfl _ _ rfl w6 w6.heap.size rfl y q6 rfl rfl rfl ?_
    obtain ⟨w7, hw7⟩ : ∃ w7, w7 = w6.alloc (.cells (callCells y q6) 27) := ⟨_, rfl⟩
    have hb7 : Below w6.heap.size w6 w7 := by rw [hw7]; exact below_alloc w6 _
    have hk7 : w7.heap[w6.heap.size]? = some (.cells (callCells y q6) 27 (0, 0)) := by rw [hw7]; exact heap_alloc_new w6 _
    have hz7 : w6.heap.size ≤ w7.heap.size := hb7.size
    have hk8 := (hb7.block w.heap.size hz6).trans hk6
    have hUa := (hU6.below hb7).more_ hz7
    have hUb := ((hU5'.toU (Nat.le_of_lt hz6)).below hb7).more_ hz7
    have hbw7 := hbw6.trans (hb7.mono (Nat.le_of_lt hz6))
    rw [← hw7]
    clear hw7 hU6 hU5' hk6
    go_wp2_with (with_reducible refine Stop.load 27 ?_)
    refine Stop.mk ?_
    refine wpList_load_rowG rfl 27 _ rfl w6.heap.size rfl 27 _ _ _ hk7 Try.underlying27 rfl size27 ?_
    go_wp2_with (with_reducible refine Stop.load 27 ?_)
    refine Stop.mk ?_
    refine wpList_load_rowG rfl 27 _ rfl w.heap.size rfl 27 _ _ _ hk8 Try.underlying27 rfl size27 ?_
    go_wp2_with fail
    refine (eq_o y q6 q w7 hUa hUb ⟨Nat.le_trans hM.t1 (by omega), Nat.le_trans hM.t2 (by omega)⟩).mono ?_
    rintro e w8 ⟨rfl, hb8⟩
    go_wp2_with fail
    go_ret
    exact ⟨rfl, hbw7.trans (hb8.mono hbw7.size)⟩
end Go.Proofs.Ytekblnaogncplaa
