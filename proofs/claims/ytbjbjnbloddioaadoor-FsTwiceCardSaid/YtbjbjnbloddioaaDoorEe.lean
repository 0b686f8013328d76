/- A hash state's sum, over 24 bytes. -/
import Derived.Test.YtbjbjnbloddioaaDoorEd
set_option linter.unusedVariables false
set_option linter.unusedSimpArgs false
namespace Go.Proofs.YtbjbjnbloddioaaDoor
open Go.RowKit Go.Shelf

/-- A state's words as bytes. -/
def outB (h : List Int) : Nat → List UInt8
  | 0 => []
  | k + 1 => outB h k ++ be (h.getD k 0 % 4294967296).toNat 4
theorem outB_len (h : List Int) : ∀ k, (outB h k).length = 4 * k
  | 0 => rfl
  | k + 1 => by simp [outB, outB_len h k, be_length]; omega
/-- What stands behind 24 bytes. -/
def pad24 : List UInt8 := (128 :: zs 31) ++ be 192 8
/-- The sum of 24 bytes. -/
def sumOf (h : List Int) (l : List UInt8) : List UInt8 := outB (hwH h (l ++ pad24)) 8
theorem sumOf_len (h : List Int) (l : List UInt8) : (sumOf h l).length = 32 := outB_len _ _
theorem own_row {w : World} {base g n cap : Nat} {e : TypeId} {cur xs : List Value} (hb : base ≤ g) (hh : w.heap[g]? = some (.cells cur.toArray e (0, 0))) (hn : n ≤ cap) (hm : cap ≤ maxLen) (hs : cur.length = cap) (hx : cur.take n = xs) :
    w.ownsRow base e 1 (.slice (some ⟨g, 0, none⟩) n cap) n xs :=
  ⟨by subst hx; simp; omega, .inr ⟨g, cap, cur.toArray, rfl, hb, hh, hn, hm, by simpa using hs, by simpa using hx⟩⟩

theorem run_loadVar_at {P : Program} (w : World) (ad : Addr) (ty : TypeId) (cs : List Value) (d : TypeDesc) (hc : ∀ j v, cs[j]? = some v → w.cell? (ad.add j) = some v)
    (hu : P.underlying ty = some d) (hd : (match d with | .struct _ | .array _ _ => true | _ => false) = true) (hi : (P.info? ty).map (·.size) = some cs.length) :
    (loadVar ty ad).run P w = .ok (.agg cs.toArray) w := by
  have hl : (loadCells ad cs.length).run P w = .ok cs.toArray w := run_loadCells_list (P := P) w ad cs hc
  cases hq : P.info? ty with
  | none => simp [hq] at hi
  | some i =>
    have hs : i.size = cs.length := by simpa [hq] using hi
    have hagg : (isAgg ty).run P w = .ok true w := by
      unfold isAgg
      rw [Sem.run_bind, run_underlying hu w]
      cases d <;> simp_all
    simp [loadVar, Sem.run_bind, hagg, sizeOf, typeInfo, hq, hs, hl]
theorem wpList_load_at {P : Program} {ops : Array Oper} {rest : List Oper} {o : Oper} {a : Act} {w : World} {Q : Exit → Act → World → Prop} (hgd : o.guard = none) (ty : TypeId) (x : Operand) (ho : o.op = .load ty x)
    (ad : Addr) (hx : a.eval x = .pointer (some ad)) (cs : List Value) (d : TypeDesc) (hc : ∀ j v, cs[j]? = some v → w.cell? (ad.add j) = some v)
    (hu : P.underlying ty = some d) (hd : (match d with | .struct _ | .array _ _ => true | _ => false) = true) (hi : (P.info? ty).map (·.size) = some cs.length)
    (h : wpList P ops Q rest (a.put o.dst (.agg cs.toArray)) w) : wpList P ops Q (o :: rest) a w :=
  wpList_plain hgd fun _ hK => by
    unfold Oper.wp execOp
    simp only [ho, hx, Instr.loadAt, Instr.sureAddr, Sem.run_bind, Sem.run_pure, Result.andThen_ok, run_loadVar_at w ad ty cs d hc hu hd hi]
    exact hK _ _ h
theorem hsCells_h (k : Int) (h : List Int) (hl : h.length = 8) (a : Value) (n : Int) (j : Nat) (v : Value) (hv : (h.map (Value.int .u64))[j]? = some v) : (hsCells k h a n)[1 + j]? = some v := by
  obtain ⟨a0, a1, a2, a3, a4, a5, a6, a7, rfl⟩ := eight hl
  match j, hv with
  | 0, hv => exact hv
  | 1, hv => exact hv
  | 2, hv => exact hv
  | 3, hv => exact hv
  | 4, hv => exact hv
  | 5, hv => exact hv
  | 6, hv => exact hv
  | 7, hv => exact hv
  | k + 8, hv => simp at hv
theorem own_lt {w w' : World} {b n k L : Nat} {e : TypeId} {v : Value} {xs : List Value} (h : w.ownsRow b e k v n xs) (hlt : ∀ k, v.ownBlock = some k → k < L) (hb : Below L w w') : w'.ownsRow b e k v n xs := by
  refine ⟨h.1, ?_⟩
  rcases h.2 with h2 | ⟨g, cap, cur, rfl, hg, hh, rest⟩
  · exact .inl h2
  · exact .inr ⟨g, cap, cur, rfl, hg, (hb.block g (hlt g rfl)).trans hh, rest⟩
theorem HsAt.mono_ {w1 w2 w3 : World} {B g : Nat} {h : List Int} {l : List UInt8} {A : Option Addr} {c : Nat} {n : Int} (H2 : HsAt w2 B g h l A c n) (hb : Below w1.heap.size w2 w3) (hg : g < w1.heap.size) (H1 : HsAt w1 B g h l A c n) : HsAt w3 B g h l A c n :=
  ⟨(hb.block g hg).trans H2.blk, own_lt H2.own (fun k e => (H1.own.lt k e).2) hb, H2.len, H2.le⟩
set_option maxRecDepth 100000 in
set_option maxHeartbeats 3200000 in
theorem sum_o (g B : Nat) (h : List Int) (l : List UInt8) (A : Option Addr) (c : Nat) (w : World) (H : HsAt w B g h l A c 24) (hl : l.length = 24) (hK : Kg w) :
    Calls Tryd.prog 49 #[.pointer (some ⟨g, 0, none⟩)] w (fun e w' => ∃ A' c', e = .returned (.slice A' 32 c') ∧ 32 ≤ c' ∧ w'.ownsRow w.heap.size 5 1 (.slice A' 32 c') 32 (bvs (sumOf h l)) ∧ Below w.heap.size w w') := by
  obtain ⟨i, hi, hz, hs, hby⟩ := info_parts info5
  have hK0 := hK.pos
  have hgl := H.lt
  go_enter Tryd.func49, Tryd.ntmps49
  go_wp2_with fail
  refine wp_region_seg [6] [[0, 2, 3, 4, 5, 1], [6, 7, 8]] (by kernel_rfl) (by kernel_rfl) ?_
  simp only [Seg, pick_cons, pick_nil, List.getElem?_toArray, List.getElem?_cons_zero, List.getElem?_cons_succ, Option.toList_some, List.cons_append, List.nil_append]
  have H0 := H.kept (below_drew w)
  have c0 : w.drew.cell? ⟨g, 0, none⟩ = some (.int .i64 3) := cell_of_row _ g 0 _ 91 (0, 0) H0.blk
  go_wp2_with fail
  refine (copy_o g B h l A c 24 w.drew H0 (by omega)).mono ?_
  rintro e w1 ⟨g1, A1, c1, rfl, H1, hb1⟩
  have hB1 : Below w.heap.size w w1 := of_drew hb1
  go_wp2_with fail
  refine Fin.intro ⟨by kernel_rfl, Old.of_below hb1, ?_⟩
  have c01 : w1.cell? ⟨g, 0, none⟩ = some (.int .i64 3) := (hB1.cell (p := ⟨g, 0, none⟩) hgl).trans (cell_of_row _ g 0 _ 91 (0, 0) H.blk)
  go_wp2_with fail
  refine (block_o _).mono ?_
  rintro e _ ⟨rfl, rfl⟩
  go_wp2_with fail
  refine Fin.intro ⟨by kernel_rfl, ?_⟩
  have c91 : w1.cell? ⟨g1, 9, none⟩ = some (.slice A1 l.length c1) := (cell_of_row _ g1 9 _ 91 (0, 0) H1.blk).trans (hsCells_9 _ _ H1.len _ _)
  rw [hl] at c91
  go_wp2_with (at_make; refine Stop.out ?_)
  refine Stop.mk ?_
  refine wpList_make_row w1 rfl _ _ 28 rfl 5 i (.int .u8 0) Tryd.underlying28 hi hz hs rfl .i64 .i64 32 rfl rfl (by rw [hby]; omega) (by omega) ?_
  have hd2 : (w1.alloc (.cells (madeCells #[.int .u8 0] 32) 5)).heap[w1.heap.size]? = some (.cells (bvs (zs 32)).toArray 5 (0, 0)) := by
    rw [heap_alloc_new]
    exact congrArg (fun x => some (Obj.cells x 5 (0, 0))) (Array.ext' (by rw [toList_madeCells_one]; simp [zs, bvs, bv]))
  have hbE := below_alloc w1 (.cells (madeCells #[.int .u8 0] 32) 5)
  have H2 := H1.kept hbE
  have hB2 := hB1.trans (hbE.mono hB1.size)
  generalize w1.alloc (.cells (madeCells #[.int .u8 0] 32) 5) = w2 at hd2 hbE H2 hB2 ⊢
  have c92 : w2.cell? ⟨g1, 9, none⟩ = some (.slice A1 l.length c1) := (cell_of_row _ g1 9 _ 91 (0, 0) H2.blk).trans (hsCells_9 _ _ H2.len _ _)
  rw [hl] at c92
  have cd2 : w2.cell? ⟨w1.heap.size, 0, none⟩ = some (.int .u8 0) := cell_of_row _ _ 0 _ 5 (0, 0) hd2
  have fd2 : w2.frozen? ⟨w1.heap.size, 0, none⟩ = false := frozen_of_row _ _ 0 _ 5 hd2
  go_wp2_with (at_make; refine Stop.out ?_)
  refine Stop.mk ?_
  have hs3 := heap_setCell_same w2 w1.heap.size 0 _ 5 (.int .u8 128) hd2
  have e3 : ((bvs (zs 32)).toArray).setIfInBounds 0 (.int .u8 128) = (bvs (128 :: zs 31)).toArray := by rfl
  rw [e3] at hs3
  have hz2 : w1.heap.size < w2.heap.size := (Array.getElem?_eq_some_iff.1 hd2).1
  have hg1 := H1.lt
  have H3 : HsAt (w2.setCell ⟨w1.heap.size, 0, none⟩ (.int .u8 128)) w.heap.size g1 h l A1 c1 24 :=
    H2.mono_ ((Below.refl w1.heap.size w2).setCell (p := ⟨w1.heap.size, 0, none⟩) (Nat.le_refl _) _) hg1 H1
  have hB3 := hB2.setCell (p := ⟨w1.heap.size, 0, none⟩) hB1.size (.int .u8 128)
  have hz3 : (w2.setCell ⟨w1.heap.size, 0, none⟩ (.int .u8 128)).heap.size = w2.heap.size := by simp
  generalize w2.setCell ⟨w1.heap.size, 0, none⟩ (.int .u8 128) = w3 at hs3 H3 hB3 hz3 ⊢
  clear hd2 c92 cd2 fd2 H2 hB2 e3 c91 c01
  have HZ3 := Lib.hid hz3
  refine wpList_make_row w3 rfl _ _ 28 rfl 5 i (.int .u8 0) Tryd.underlying28 hi hz hs rfl .i64 .i64 8 rfl rfl (by rw [hby]; omega) (by omega) ?_
  have hd4 : (w3.alloc (.cells (madeCells #[.int .u8 0] 8) 5)).heap[w3.heap.size]? = some (.cells (bvs (zs 8)).toArray 5 (0, 0)) := by
    rw [heap_alloc_new]
    exact congrArg (fun x => some (Obj.cells x 5 (0, 0))) (Array.ext' (by rw [toList_madeCells_one]; simp [zs, bvs, bv]))
  have hbE4 := below_alloc w3 (.cells (madeCells #[.int .u8 0] 8) 5)
  have H4 := H3.kept hbE4
  have hB4 := hB3.trans (hbE4.mono hB3.size)
  have hs4 := (hbE4.block _ (by omega)).trans hs3
  generalize w3.alloc (.cells (madeCells #[.int .u8 0] 8) 5) = w4 at hd4 hbE4 H4 hB4 hs4 ⊢
  have hz4 : w3.heap.size < w4.heap.size := (Array.getElem?_eq_some_iff.1 hd4).1
  clear hz3
  go_wp2_with fail
  refine wp_region_seg [9] [[0, 1, 2, 3, 4, 5, 6, 7, 8, 9]] (by kernel_rfl) (by kernel_rfl) ?_
  simp only [Seg, pick_cons, pick_nil, List.getElem?_toArray, List.getElem?_cons_zero, List.getElem?_cons_succ, Option.toList_some, List.cons_append, List.nil_append]
  have cn : w4.drew.cell? ⟨g, 10, none⟩ = some (.int .u64 24) := (hB4.cell (p := ⟨g, 10, none⟩) hgl).trans ((cell_of_row _ g 10 _ 91 (0, 0) H.blk).trans (hsCells_10 _ _ H.len _ _))
  go_wp2_with fail
  refine (put64_o 192 (by omega) w3.heap.size 8 (bvs (zs 8)) w4.drew hd4 (by simp [bvs_length, zs_length]) (by omega)).mono ?_
  rintro e w5 ⟨rfl, hs5, hg5⟩
  have hg5' := undrew hg5
  clear hg5 cn
  go_wp2_with fail
  refine Fin.intro ⟨by kernel_rfl, ?_⟩
  go_wp2_with (at_builtin; refine Stop.out ?_)
  refine Stop.mk ?_
  have hne : w1.heap.size < w3.heap.size := by rw [HZ3.out]; exact hz2
  have hB31 : w1.heap.size ≤ w3.heap.size := Nat.le_of_lt hne
  have hs5p := (hg5'.block _ (by omega) (fun e => by injection e with e; omega)).trans hs4
  have hB5 : Below w.heap.size w w5 := hB4.grown hg5' (Nat.le_trans hB1.size (by omega)) (fun k e => by injection e with e; have := hB1.size; omega)
  have H5 := H4.mono_ (grown_below hg5' hB31 (by omega)) hg1 H1
  have hz5 := hg5'.size
  clear hg5' H4 hs4 hd4 hB4 hbE4 hbE hB3 H3 hs3
  refine wpList_app _ rfl (.tmp 76) (.tmp 77) 28 rfl 5 (.int .u8 0) 1 1 w1.heap.size Tryd.underlying28 info5 rfl (by omega) (.slice (some ⟨w1.heap.size, 0, none⟩) 32 32) 32 (bvs (128 :: zs 31)) rfl
    (own_row (Nat.le_refl _) hs5p (by omega) (by simp [maxLen]) (by simp [bvs_length, zs_length]) (List.take_of_length_le (by simp [bvs_length, zs_length]))) (some ⟨w3.heap.size, 0, none⟩) 8 8 (bvs (be 192 8)) rfl (by simp [bvs_length, be_length]) (by have := Rd.blk hs5; simpa using this) (bvs_one _) (by omega) (by omega) (by omega) ?_
  intro A6 c6 w6 ho6 hg6 _
  have hg6' : w5.grownBy w6 (some w1.heap.size) := hg6
  have H6 := H5.mono_ (grown_below hg6' (Nat.le_refl _) (by omega)) hg1 H1
  have hB6 : Below w.heap.size w w6 := hB5.grown hg6' hB5.size (fun k e => by injection e with e; have := hB1.size; omega)
  have hz6 := hg6'.size
  rw [← bvs_append, show (128 :: zs 31) ++ be 192 8 = pad24 from rfl] at ho6
  have hpl : pad24.length = 40 := by rfl
  have hw6 := write_o g1 w.heap.size h l A1 c1 24 pad24 A6 c6 w6 H6 (fun v => Rd.own (ho6.kept (row := some g1) ⟨rfl, rfl, rfl, by simp, fun k hk hne => heap_setCell_other w6 _ k _ (fun e => hne (by simp [e]))⟩ (.inr fun e => by have := (ho6.lt _ e).1; omega))) (hK.below hB6 hK0) (by rw [hpl]; omega) (by omega) hK0
  rw [hpl] at hw6
  clear hg6 hg6' ho6
  go_wp2_with fail
  refine hw6.mono ?_
  rintro e w7 ⟨A7, c7, rfl, H7, hB7⟩
  have hst7 := H7.blk
  have hB7 := hB6.trans hB7
  have hlen7 := H7.len
  generalize hX : hwH h (l ++ pad24) = X at hst7 hlen7
  have HX := Lib.hid hX
  clear hw6 hX H7
  go_wp2_with (with_reducible refine Stop.load 88 ?_)
  refine Stop.mk ?_
  refine wpList_load_at rfl 88 _ rfl ⟨g1, 1, none⟩ rfl (X.map (Value.int .u64)) _ (fun j v hv => by rw [add_lit]; exact (cell_of_row _ g1 (1 + j) _ 91 (0, 0) hst7).trans (hsCells_h _ _ hlen7 _ _ j v hv)) Tryd.underlying88 rfl (by rw [size88]; simp [hlen7]) ?_
  have hB7s := hB7.size
  have hB7' : w1.heap.size ≤ w7.heap.size := by have := hz6; have := hz5; have := ‹Below w.heap.size w6 w7›.size; omega
  go_wp2_with fail
  go_loopw [84, 8] (fun i v wr => ∃ (k : Nat) (Ao : Option Addr) (co : Nat), k ≤ 8 ∧ i = .int .i64 k ∧ v = .slice Ao (outB X k).length co ∧ wr.ownsRow w.heap.size 5 1 (.slice Ao (outB X k).length co) (outB X k).length (bvs (outB X k)) ∧ Below w.heap.size w7 wr ) (fun i _ _ => 8 - (intOf i).toNat)
  case atStart => exact ⟨0, none, 0, by omega, rfl, rfl, World.ownsRow_nil _ _ _ _, Below.refl _ _⟩
  case round =>
    obtain ⟨k, Ao, co, hk, rfl, rfl, ho, hb⟩ := hrel
    by_cases hlt : k < 8
    · have hxa : (X.map (Value.int .u64)).toArray[k]? = some (.int .u64 (X.getD k 0)) := by
        simp [hlen7, hlt]
      have hix : ∀ w0 : World, (Instr.index 88 (.agg (X.map (Value.int .u64)).toArray) (.int .i64 (k : Int))).run Tryd.prog w0 = .ok (.int .u64 (X.getD k 0)) w0 := fun w0 =>
        run_index_arr w0 88 76 8 _ Tryd.underlying88 (by kernel_rfl) (fun w => by kernel_rfl) k hlt _ hxa
      have hob : outB X (k + 1) = outB X k ++ be (X.getD k 0 % 4294967296).toNat 4 := rfl
      have hol := outB_len X k
      generalize X.getD k 0 = xk at hix hob
      have hxn : (((xk % 4294967296).toNat : Nat) : Int) = xk % 4294967296 := by omega
      have hcall := append32_o (xk % 4294967296).toNat (by omega) wr w.heap.size Ao co (outB X k) ho (Nat.le_trans hB7s hb.size) (by omega)
      rw [hxn] at hcall
      have HOB := Lib.hid hob
      clear hxa hob hxn
      generalize outB X k = ob at ho hol hcall HOB ⊢
      have HOL := Lib.hid hol
      clear hol
      go_wp2_with fail
      refine hcall.mono ?_
      rintro e w8 ⟨A8, c8, rfl, ho8, hg8, _⟩
      have hb8 := hb.grown hg8 (Nat.le_trans hB7s hb.size) (fun k e => (ho.lt k e).1)
      clear hcall hg8
      go_wp2_with fail
      go_roundw
      case rel =>
        refine ⟨k + 1, A8, c8, hlt, by go_num, ?_, ?_, hb8⟩
        · rw [HOB.out, List.length_append]
        · rw [HOB.out]; exact ho8
      case measure => simp [intOf]; omega
    · obtain rfl : k = 8 := by omega
      have hol := outB_len X 8
      rw [hol] at ho ⊢
      have hc8 := (own_cap ho).2.1
      have c0r : wr.cell? ⟨g, 0, none⟩ = some (.int .i64 3) := ((hB7.trans hb).cell (p := ⟨g, 0, none⟩) hgl).trans (cell_of_row _ g 0 _ 91 (0, 0) H.blk)
      clear hol
      go_wp2_with fail
      refine (size_o _).mono ?_
      rintro e _ ⟨rfl, rfl⟩
      go_wp2_with fail
      go_ret
      refine ⟨Ao, co, rfl, hc8, ?_, hB7.trans hb⟩
      unfold sumOf
      rw [HX.out]
      exact ho

/-- The hash of 24 bytes. -/
def H24 (l : List UInt8) : List UInt8 := sumOf h256 l
theorem H24_len (l : List UInt8) : (H24 l).length = 32 := sumOf_len _ _
theorem hw_short {h : List Int} {l : List UInt8} (hl : l.length < 64) : hwH h l = h ∧ hwL l = l := by
  obtain ⟨u1, u2⟩ := hw_of (h := h) (all := l) (k := 0) (by omega) (by omega)
  exact ⟨u1, u2⟩

set_option maxRecDepth 100000 in
set_option maxHeartbeats 3200000 in
/-- hashes.Of one row of 24 bytes. -/
theorem of_o (l : List UInt8) (hl : l.length = 24) (A : Option Addr) (c gp : Nat) (w : World) (hr : Rd w A (bvs l)) (hp : w.cell? ⟨gp, 0, none⟩ = some (.slice A 24 c)) (hK : Kg w) :
    Calls Tryd.prog 42 #[.int .i64 3, .slice (some ⟨gp, 0, none⟩) 1 1] w (fun e w' => ∃ A' c', e = .returned (.slice A' 32 c') ∧ 32 ≤ c' ∧ w'.ownsRow w.heap.size 5 1 (.slice A' 32 c') 32 (bvs (H24 l)) ∧ Below w.heap.size w w') := by
  have hK0 := hK.pos
  have hgp := World.block_lt_of_cell? w _ hp
  go_enter Tryd.func42, Tryd.ntmps42
  go_wp2_with fail
  refine (new_o _).mono ?_
  rintro e w1 ⟨g, rfl, hg, hst, hb1⟩
  have H1 : HsAt w1 w.heap.size g h256 [] none 0 0 := ⟨hst, World.ownsRow_nil _ _ _ _, rfl, hg⟩
  have hp1 := (hb1.cell (p := ⟨gp, 0, none⟩) hgp).trans hp
  have hr1 := (hr.rdU).below hb1
  go_wp2_with fail
  have hwr := write_o g w.heap.size h256 [] none 0 0 l A c w1 H1 (fun v => (hr1.below ((Below.refl w.heap.size w1).setCell (p := ⟨g, 10, none⟩) hg v)).rd) (hK.below hb1 hK0) (by simp [hl]) (by omega) hK0
  rw [List.nil_append, (hw_short (h := h256) (l := l) (by omega)).1, (hw_short (h := h256) (l := l) (by omega)).2, hl] at hwr
  have hwr' : Calls Tryd.prog 48 #[.pointer (some ⟨g, 0, none⟩), .slice A 24 c] w1 (fun e w' => ∃ A' c', e = .returned (.tuple #[]) ∧ HsAt w' w.heap.size g h256 l A' c' 24 ∧ Below w.heap.size w1 w') := hwr
  clear hwr
  go_loopw [12] (fun i wr => (i = .int .i64 0 ∧ wr = w1) ∨ (i = .int .i64 1 ∧ ∃ A' c', HsAt wr w.heap.size g h256 l A' c' 24 ∧ Below w.heap.size w1 wr)) (fun i _ => 1 - (intOf i).toNat)
  case atStart => exact .inl ⟨rfl, rfl⟩
  case round =>
    rcases hrel with ⟨rfl, rfl⟩ | ⟨rfl, A', c', H2, hb2⟩
    · go_wp2_with fail
      refine hwr'.mono ?_
      rintro e w2 ⟨A2, c2, rfl, H2, hb2⟩
      go_wp2_with fail
      go_roundw
      case rel => exact .inr ⟨rfl, A2, c2, H2, hb2⟩
      case measure => simp [intOf]
    · have hb3 := hb1.trans hb2
      go_wp2_with fail
      refine (sum_o g w.heap.size h256 l A' c' wr H2 hl (hK.below hb3 hK0)).mono ?_
      rintro e w3 ⟨A3, c3, rfl, hc3, ho3, hb4⟩
      go_wp2_with fail
      go_ret
      exact ⟨A3, c3, rfl, hc3, own_less ho3 hb3.size, hb3.trans (hb4.mono hb3.size)⟩
end Go.Proofs.YtbjbjnbloddioaaDoor
