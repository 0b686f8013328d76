/- Hash states: made, copied; a number laid over bytes. -/
import Derived.Test.YtbjbjnbloddioaaDoorEa
set_option linter.unusedVariables false
set_option linter.unusedSimpArgs false
namespace Go.Proofs.YtbjbjnbloddioaaDoor
open Go.RowKit

theorem Stop.copy {P : Program} {ops : Array Oper} {Q : Exit → Act → World → Prop} {rest : List Oper} {a : Act} {w : World} {xs : Array Operand} {ts : Array TypeId} {dst : Option Tmp} {ty : TypeId} {pos : String} {aft : Array Edge} {g : Option (Nat × Bool)}
    (h : Stop (wpList P ops Q (⟨dst, .call { callee := .builtin .copy, args := xs, argTypes := ts }, ty, pos, aft, g⟩ :: rest) a w)) : wpList P ops Q (⟨dst, .call { callee := .builtin .copy, args := xs, argTypes := ts }, ty, pos, aft, g⟩ :: rest) a w := h.out
theorem h256_lit : (h256.map (Value.int .u64)).toArray = #[.int .u64 1779033703, .int .u64 3144134277, .int .u64 1013904242, .int .u64 2773480762, .int .u64 1359893119, .int .u64 2600822924, .int .u64 528734635, .int .u64 1541459225] := by rfl
theorem h256_len : h256.length = 8 := rfl

set_option maxRecDepth 100000 in
theorem new_o (w : World) : Calls Tryd.prog 47 #[.int .i64 3] w (fun e w' => ∃ g, e = .returned (.pointer (some ⟨g, 0, none⟩)) ∧ w.heap.size ≤ g ∧ w'.heap[g]? = some (.cells (hsCells 3 h256 (.slice none 0 0) 0) 91 (0, 0)) ∧ Below w.heap.size w w') := by
  go_enter Tryd.func47, Tryd.ntmps47
  go_wp2_with fail
  refine (size_o _).mono ?_
  rintro e w1 ⟨rfl, rfl⟩
  go_wp2_with fail
  refine (start_o _).mono ?_
  rw [h256_lit]
  rintro e w1 ⟨rfl, hb⟩
  go_wp2_with fail
  go_ret
  exact ⟨w1.heap.size, rfl, hb.size, heap_alloc_new w1 _, hb.trans ((below_alloc w1 _).mono hb.size)⟩

/-- A state where it stands: what was taken in, what waits, how many bytes there were. -/
structure HsAt (w : World) (B g : Nat) (h : List Int) (l : List UInt8) (A : Option Addr) (c : Nat) (n : Int) : Prop where
  blk : w.heap[g]? = some (.cells (hsCells 3 h (.slice A l.length c) n) 91 (0, 0))
  own : w.ownsRow B 5 1 (.slice A l.length c) l.length (bvs l)
  len : h.length = 8
  le : B ≤ g
section
variable {w w' : World} {B g : Nat} {h : List Int} {l : List UInt8} {A : Option Addr} {c : Nat} {n : Int}
theorem HsAt.lt (H : HsAt w B g h l A c n) : g < w.heap.size := (Array.getElem?_eq_some_iff.1 H.blk).1
theorem HsAt.cells (H : HsAt w B g h l A c n) : ∃ a0 a1 a2 a3 a4 a5 a6 a7, h = [a0, a1, a2, a3, a4, a5, a6, a7] ∧
    w.heap[g]? = some (.cells #[.int .i64 3, .int .u64 a0, .int .u64 a1, .int .u64 a2, .int .u64 a3, .int .u64 a4, .int .u64 a5, .int .u64 a6, .int .u64 a7, .slice A l.length c, .int .u64 n] 91 (0, 0)) := by
  obtain ⟨a0, a1, a2, a3, a4, a5, a6, a7, rfl⟩ := eight H.len
  exact ⟨a0, a1, a2, a3, a4, a5, a6, a7, rfl, H.blk⟩
theorem HsAt.kept (H : HsAt w B g h l A c n) (hb : Below w.heap.size w w') : HsAt w' B g h l A c n :=
  ⟨(hb.block _ H.lt).trans H.blk, own_below H.own hb, H.len, H.le⟩
theorem hsCells_wait (k : Int) (h : List Int) (hl : h.length = 8) (a b : Value) (n : Int) : (hsCells k h a n).setIfInBounds 9 b = hsCells k h b n := by
  obtain ⟨a0, a1, a2, a3, a4, a5, a6, a7, rfl⟩ := eight hl
  rfl
theorem hsCells_n (k : Int) (h : List Int) (hl : h.length = 8) (a : Value) (n m : Int) : (hsCells k h a n).setIfInBounds 10 (.int .u64 m) = hsCells k h a m := by
  obtain ⟨a0, a1, a2, a3, a4, a5, a6, a7, rfl⟩ := eight hl
  rfl
theorem hsCells_9 (k : Int) (h : List Int) (hl : h.length = 8) (a : Value) (n : Int) : (hsCells k h a n)[9]? = some a := by
  obtain ⟨a0, a1, a2, a3, a4, a5, a6, a7, rfl⟩ := eight hl
  rfl
theorem hsCells_10 (k : Int) (h : List Int) (hl : h.length = 8) (a : Value) (n : Int) : (hsCells k h a n)[10]? = some (.int .u64 n) := by
  obtain ⟨a0, a1, a2, a3, a4, a5, a6, a7, rfl⟩ := eight hl
  rfl
theorem hsCells_0 (k : Int) (h : List Int) (a : Value) (n : Int) : (hsCells k h a n)[0]? = some (.int .i64 k) := rfl
end

set_option maxRecDepth 100000 in
set_option maxHeartbeats 800000 in
/-- A state copied. -/
theorem copy_o (g B : Nat) (h : List Int) (l : List UInt8) (A : Option Addr) (c : Nat) (n : Int) (w : World) (H : HsAt w B g h l A c n) (hl : l.length ≤ 1000000) :
    Calls Tryd.prog 55 #[.pointer (some ⟨g, 0, none⟩)] w (fun e w' => ∃ g' A' c', e = .returned (.pointer (some ⟨g', 0, none⟩)) ∧ HsAt w' w.heap.size g' h l A' c' n ∧ Below w.heap.size w w') := by
  obtain ⟨a0, a1, a2, a3, a4, a5, a6, a7, rfl, hk⟩ := H.cells
  have hgl := H.lt
  go_enter Tryd.func55, Tryd.ntmps55
  go_wp2_with (with_reducible refine Stop.load 91 ?_)
  refine Stop.mk ?_
  refine wpList_load_row rfl 91 _ rfl g rfl 91 _ _ _ hk Tryd.underlying91 rfl (by rw [size91]; rfl) ?_
  go_wp2_with (with_reducible refine Stop.store 91 ?_)
  refine Stop.mk ?_
  refine wpList_newRow rfl 91 _ _ rfl w w.heap.size rfl #[.int .i64 3, .int .u64 a0, .int .u64 a1, .int .u64 a2, .int .u64 a3, .int .u64 a4, .int .u64 a5, .int .u64 a6, .int .u64 a7, .slice A l.length c, .int .u64 n] rfl rfl (by rw [size91]; rfl) rfl (by simp [Value.oneCell']) ?_
  obtain ⟨w1, hw1⟩ : ∃ w1, w1 = w.alloc (.cells #[.int .i64 3, .int .u64 a0, .int .u64 a1, .int .u64 a2, .int .u64 a3, .int .u64 a4, .int .u64 a5, .int .u64 a6, .int .u64 a7, .slice A l.length c, .int .u64 n] 91) := ⟨_, rfl⟩
  have hb1 : Below w.heap.size w w1 := by rw [hw1]; exact below_alloc w _
  have hk1 : w1.heap[w.heap.size]? = some (.cells (hsCells 3 [a0, a1, a2, a3, a4, a5, a6, a7] (.slice A l.length c) n) 91 (0, 0)) := by rw [hw1]; exact heap_alloc_new w _
  have hz1 : w.heap.size < w1.heap.size := (Array.getElem?_eq_some_iff.1 hk1).1
  have hg1 := (hb1.block g hgl).trans hk
  rw [← hw1]
  clear hw1
  have c9 : w1.cell? ⟨g, 9, none⟩ = some (.slice A l.length c) := cell_of_row w1 g 9 _ 91 (0, 0) hg1
  go_wp2_with fail
  refine (clone_o l A c w1 ((Rd.own H.own).below hb1) (by omega)).mono ?_
  rintro e w2 ⟨A', c', rfl, hc', ho, hb2, _⟩
  have hk2 := (hb2.block _ hz1).trans hk1
  have d9 : w2.cell? ⟨w.heap.size, 9, none⟩ = some (.slice A l.length c) := cell_of_row w2 _ 9 _ 91 (0, 0) hk2
  have f9 : w2.frozen? ⟨w.heap.size, 9, none⟩ = false := frozen_of_row w2 _ 9 _ 91 hk2
  go_wp2_with fail
  go_ret
  refine ⟨w.heap.size, A', c', rfl, ⟨?_, ?_, rfl, Nat.le_refl _⟩, (hb1.trans (hb2.mono (Nat.le_of_lt hz1))).setCell (p := ⟨w.heap.size, 9, none⟩) (Nat.le_refl _) _⟩
  · have := heap_setCell_same w2 w.heap.size 9 _ 91 (.slice A' l.length c') hk2
    rw [hsCells_wait _ _ rfl] at this
    exact this
  · exact (own_less ho hb1.size).kept (row := some w.heap.size) ⟨rfl, rfl, rfl, by simp, fun k hk hne => heap_setCell_other w2 _ k _ (fun e => hne (by simp [e]))⟩ (own_ne (t := 91) (cs' := []) ho (fun cs fr e => by rw [hk2] at e; injection e with e; injection e with _ e2 _; exact absurd e2 (by decide)))

set_option maxRecDepth 100000 in
set_option maxHeartbeats 800000 in
/-- A number laid over eight bytes. -/
theorem put64_o (x : Nat) (hx : x < 18446744073709551616) (g c : Nat) (cur : List Value) (w : World) (hg : w.heap[g]? = some (.cells cur.toArray 5 (0, 0))) (hl : cur.length = 8) (hc : 8 ≤ c) :
    Calls Tryd.prog 56 #[.slice (some ⟨g, 0, none⟩) 8 c, .int .u64 (x : Int)] w (fun e w' => e = .returned (.tuple #[]) ∧ w'.heap[g]? = some (.cells (bvs (be x 8)).toArray 5 (0, 0)) ∧ w.grownBy w' (some g)) := by
  have hgl : g < w.heap.size := (Array.getElem?_eq_some_iff.1 hg).1
  go_enter Tryd.func56, Tryd.ntmps56
  go_wp2_with fail
  refine wp_region_seg [3, 4] [[0, 1, 2, 3, 4]] (by kernel_rfl) (by kernel_rfl) ?_
  simp only [Seg, pick_cons, pick_nil, List.getElem?_toArray, List.getElem?_cons_zero, List.getElem?_cons_succ, Option.toList_some, List.cons_append, List.nil_append]
  go_wp2_with fail
  refine (append64_o x hx w.drew w.heap.size none 0 [] (World.ownsRow_nil _ _ _ _) (Nat.le_refl _) (by simp)).mono ?_
  rintro e w1 ⟨A1, c1, rfl, ho1, hg1, _⟩
  have hlen : ([] ++ be x 8).length = 8 := by simp [be_length]
  rw [hlen] at ho1 ⊢
  rw [List.nil_append] at ho1
  obtain ⟨g1, o1, rfl⟩ := (Rd.own ho1).some_ (by simp [bvs_length, be_length])
  have hg1' := (hg1.block g hgl (by simp [Value.ownBlock])).trans (show w.drew.heap[g]? = _ from hg)
  go_wp2_with (with_reducible refine Stop.copy ?_)
  refine Stop.mk ?_
  refine wpList_copy_own rfl (.tmp 5) (.tmp 7) 28 28 rfl 5 Tryd.underlying28 (by kernel_rfl) g 0 8 c ⟨g1, o1, none⟩ 8 c1 rfl rfl cur.toArray 5 hg1' (bvs (be x 8)) (by simp [bvs_length, be_length]) (fun j v hv => (Rd.own ho1).cell hv) (by simp [bvs_length, be_length, hl]) (bvs_one _) ?_
  have e2 : (cur.toArray.toList.take 0 ++ (bvs (be x 8) ++ cur.toArray.toList.drop (0 + (bvs (be x 8)).length))).toArray = (bvs (be x 8)).toArray := by
    simp [bvs_length, be_length, List.drop_of_length_le, hl]
  rw [e2]
  have hfin := setRow_heap w1 g _ (bvs (be x 8)).toArray 5 _ hg1'
  have hgr : w.grownBy (w1.setRow g (bvs (be x 8)).toArray) (some g) :=
    ⟨hg1.os, hg1.tape, hg1.output, Nat.le_trans hg1.size (by simp [World.setRow]), fun k hk hne => (setRow_other w1 g k _ (fun e => hne (by simp [e]))).trans (hg1.block k hk (by simp [Value.ownBlock]))⟩
  generalize w1.setRow g (bvs (be x 8)).toArray = wf at hfin hgr ⊢
  go_wp2_with fail
  refine Fin.intro ⟨by kernel_rfl, ?_⟩
  go_wp2_with fail
  go_end0
  exact ⟨rfl, hfin, hgr⟩
end Go.Proofs.YtbjbjnbloddioaaDoor
