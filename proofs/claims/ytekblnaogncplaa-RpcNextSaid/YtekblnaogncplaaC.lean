/- The walks of the small functions of bytes, and of the writer of frames. -/
import Derived.Test.YtekblnaogncplaaB
import Derived.Test.YtekblnaogncplaaS
import Derived.Test.YtekblnaogncplaaProg
import Derived.Deep.LoopGhost
set_option linter.unusedVariables false
set_option linter.unusedSimpArgs false
namespace Go.Proofs.Ytekblnaogncplaa
open Go.RowKit

theorem info5 : (Try.prog.info? 5).map (fun i => (i.zero, i.size, i.bytes)) = some (some (.int .u8 0), 1, 1) := by kernel_rfl

set_option maxRecDepth 100000 in
set_option maxHeartbeats 400000 in
theorem append64 (x : Nat) (hx : x < 18446744073709551616) (w : World) : Calls Try.prog 38 #[.slice none 0 0, .int .u64 (x : Int)] w (fun e w' =>
    ∃ A c, e = .returned (.slice A 8 c) ∧ 8 ≤ c ∧ w'.ownsRow w.heap.size 5 1 (.slice A 8 c) 8 (bvs (be x 8)) ∧ Below w.heap.size w w') := by
  have HB := Lib.hid (bvs_be8 x hx)
  go_enter Try.func38, Try.ntmps38
  go_wp2_with (at_builtin; refine Stop.out ?_)
  refine Stop.mk ?_
  refine wpList_app _ rfl (.tmp 5) (.tmp 29) 22 rfl 5 (.int .u8 0) 1 1 w.heap.size Try.underlying22 info5 rfl (by omega) (.slice none 0 0) 0 [] rfl (World.ownsRow_nil _ _ _ _) (some ⟨w.heap.size, 0, none⟩) 8 8 _ rfl (by rfl) (Rd.lit _ _ _) (by simp [Value.oneCell']) (by omega) (by omega) (by simp) ?_
  intro A c w1 ho hg hat
  go_wp2
  go_ret
  exact ⟨A, c, by simp, (own_cap ho).2.1, by rw [HB.out]; simpa using ho, ((Below.refl _ _).alloc (Nat.le_refl _) _).grown hg (by simp) (by simp [Value.ownBlock])⟩

set_option maxRecDepth 100000 in
set_option maxHeartbeats 400000 in
theorem append32 (x : Nat) (hx : x < 4294967296) (w : World) : Calls Try.prog 39 #[.slice none 0 0, .int .u32 (x : Int)] w (fun e w' =>
    ∃ A c, e = .returned (.slice A 4 c) ∧ 4 ≤ c ∧ w'.ownsRow w.heap.size 5 1 (.slice A 4 c) 4 (bvs (be x 4)) ∧ Below w.heap.size w w') := by
  have HB := Lib.hid (bvs_be4 x hx)
  go_enter Try.func39, Try.ntmps39
  go_wp2_with (at_builtin; refine Stop.out ?_)
  refine Stop.mk ?_
  refine wpList_app _ rfl (.tmp 5) (.tmp 17) 22 rfl 5 (.int .u8 0) 1 1 w.heap.size Try.underlying22 info5 rfl (by omega) (.slice none 0 0) 0 [] rfl (World.ownsRow_nil _ _ _ _) (some ⟨w.heap.size, 0, none⟩) 4 4 _ rfl (by rfl) (Rd.lit _ _ _) (by simp [Value.oneCell']) (by omega) (by omega) (by simp) ?_
  intro A c w1 ho hg hat
  go_wp2
  go_ret
  exact ⟨A, c, by simp, (own_cap ho).2.1, by rw [HB.out]; simpa using ho, ((Below.refl _ _).alloc (Nat.le_refl _) _).grown hg (by simp) (by simp [Value.ownBlock])⟩

/-- The writer behind an append to its row. -/
theorem Wr.next {w w1 w2 : World} {B g : Nat} {A A' : Option Addr} {c c' : Nat} {l l' : List UInt8} {bad : Bool} (hW : Wr w B g A c l bad) (hb : Below w.heap.size w w1)
    (ho : w2.ownsRow B 5 1 (.slice A' (l.length + l'.length) c') (l.length + l'.length) (bvs l ++ bvs l')) (hg : w1.grownBy w2 (Value.slice A l.length c).ownBlock) :
    Wr (w2.setCell ⟨g, 0, none⟩ (.slice A' (l.length + l'.length) c')) B g A' c' (l ++ l') bad ∧ WFr B g w (w2.setCell ⟨g, 0, none⟩ (.slice A' (l.length + l'.length) c')) := by
  have hgl := hW.lt
  have h1 : w1.heap[g]? = some (.cells #[.slice A l.length c, .bool bad] 58 (0, 0)) := (hb.block g hgl).trans hW.blk
  have h2 : w2.heap[g]? = some (.cells #[.slice A l.length c, .bool bad] 58 (0, 0)) := (hg.block g (Nat.lt_of_lt_of_le hgl hb.size) hW.ne).trans h1
  have e1 : (l ++ l').length = l.length + l'.length := by simp
  refine ⟨⟨?_, ?_, hW.le⟩, ?_⟩
  · rw [e1]
    have := heap_setCell_same w2 g 0 _ 58 (.slice A' (l.length + l'.length) c') h2
    simpa using this
  · rw [e1, bvs_append]
    refine ho.kept (w' := w2.setCell ⟨g, 0, none⟩ _) (row := some g) ⟨rfl, rfl, rfl, by simp, fun k hk hne => heap_setCell_other w2 _ k _ (fun e => hne (by simp [e]))⟩ ?_
    rcases ho.2 with ⟨e, _⟩ | ⟨g', cap, cur, e, _, hh, _⟩
    · left; rw [e]; rfl
    · right
      rw [e]
      intro he
      have : g' = g := by simpa [Value.ownBlock] using he
      subst this
      rw [h2] at hh
      injection hh with hh
      injection hh with _ ht _
      exact absurd ht (by decide)
  · refine (WFr.of_below hb).trans ⟨by simp [World.setCell, hg.os], by simp [World.setCell, hg.tape], by simp [World.setCell, hg.output], by simpa [World.setCell] using hg.size, fun k hk hkg hno => ?_⟩
    rw [heap_setCell_other w2 ⟨g, 0, none⟩ k _ (by simpa using hkg)]
    refine hg.block k hk fun e => ?_
    have how := own_below hW.own hb
    rcases how.2 with ⟨e2, _⟩ | ⟨g', cap, cur, e2, hB, hh, _⟩
    · rw [e2] at e; simp [Value.ownBlock] at e
    · rw [e2] at e
      have : k = g' := by simpa [Value.ownBlock] using e
      subst this
      exact hno hB _ _ hh

/-- 'bad' is set. -/
theorem Wr.spoil {w : World} {B g : Nat} {A : Option Addr} {c : Nat} {l : List UInt8} {bad : Bool} (hW : Wr w B g A c l bad) :
    Wr (w.setCell ⟨g, 1, none⟩ (.bool true)) B g A c l true ∧ WFr B g w (w.setCell ⟨g, 1, none⟩ (.bool true)) := by
  refine ⟨⟨?_, ?_, hW.le⟩, ⟨rfl, rfl, rfl, by simp, fun k hk hkg _ => heap_setCell_other w ⟨g, 1, none⟩ k _ (by simpa using hkg)⟩⟩
  · have := heap_setCell_same w g 1 _ 58 (.bool true) hW.blk
    simpa using this
  · refine hW.own.kept (w' := w.setCell ⟨g, 1, none⟩ _) (row := some g) ⟨rfl, rfl, rfl, by simp, fun k hk hne => heap_setCell_other w _ k _ (fun e => hne (by simp [e]))⟩ (.inr fun e => hW.ne e.symm)

set_option maxRecDepth 100000 in
set_option maxHeartbeats 800000 in
theorem put_1 (n : Nat) (most : Int) (hm : (n : Int) ≤ most) (hmost : most ≤ 2147483647) (g B : Nat) (A : Option Addr) (c : Nat) (l : List UInt8) (bad : Bool) (w : World) (hW : Wr w B g A c l bad) (hl : l.length ≤ 1000000000000) :
    Calls Try.prog 22 #[.pointer (some ⟨g, 0, none⟩), .int .i64 (n : Int), .int .i64 1, .int .i64 most] w (fun e w' =>
      e = .returned (.tuple #[]) ∧ (∃ A' c', Wr w' B g A' c' (l ++ be n 1) bad) ∧ WFr B g w w') := by
  have hn : n < 18446744073709551616 := by omega
  have hc0 : w.cell? ⟨g, 0, none⟩ = some (.slice A l.length c) := cell_of_row w g 0 _ 58 (0, 0) hW.blk
  have hf0 : w.frozen? ⟨g, 0, none⟩ = false := frozen_of_row w g 0 _ 58 hW.blk
  have hgl := hW.lt
  have hne := hW.ne
  go_enter Try.func22, Try.ntmps22
  go_wp2_with fail
  refine wp_region_seg [11, 14] [[0, 1, 2, 3, 4, 5, 6, 8, 9, 7], [10, 11, 12, 13, 14]] (by kernel_rfl) (by kernel_rfl) ?_
  simp only [Seg, pick_cons, pick_nil, List.getElem?_toArray, List.getElem?_cons_zero, List.getElem?_cons_succ, Option.toList_some, List.cons_append, List.nil_append]
  go_wp2_with fail
  refine (append64 n hn _).mono ?_
  rintro e w1 ⟨A1, c1, rfl, hc1, ho1, hb1'⟩
  have hb1 := of_drew hb1'
  go_wp2_with fail
  refine Fin.intro ⟨by kernel_rfl, Old.of_below hb1', ?_⟩
  go_wp2_with (at_builtin; refine Stop.out ?_)
  refine Stop.mk ?_
  refine wpList_app _ rfl (.tmp 22) (.tmp 28) 22 rfl 5 (.int .u8 0) 1 1 B Try.underlying22 info5 rfl (by omega) (.slice A l.length c) l.length (bvs l) rfl (own_below hW.own hb1) _ 1 _ (bvs (be n 1)) rfl (by simp [bvs_length, be_length]) (be_rd (j := 7) (k := 1) ho1 (by omega)) (bvs_one _) (by omega) (by omega) (Nat.le_trans hW.le (Nat.le_of_lt (Nat.lt_of_lt_of_le hgl hb1.size))) ?_
  intro A' c' w2 ho2 hg hat
  have hc2 := (hg.cell_far ⟨g, 0, none⟩ (Nat.lt_of_lt_of_le hgl hb1.size) hne).trans ((hb1.cell (p := ⟨g, 0, none⟩) hgl).trans hc0)
  have hf2 := (hg.frozen_far ⟨g, 0, none⟩ (Nat.lt_of_lt_of_le hgl hb1.size) hne).trans ((hb1.frozen (p := ⟨g, 0, none⟩) hgl).trans hf0)
  go_wp2
  refine Fin.intro ⟨by kernel_rfl, ?_⟩
  go_wp2
  go_end0
  have H := hW.next (l' := be n 1) hb1 (by simpa [be_length] using ho2) hg
  simp only [be_length] at H
  exact ⟨rfl, ⟨A', c', H.1⟩, H.2⟩

set_option maxRecDepth 100000 in
set_option maxHeartbeats 800000 in
theorem put_2 (n : Nat) (most : Int) (hm : (n : Int) ≤ most) (hmost : most ≤ 2147483647) (g B : Nat) (A : Option Addr) (c : Nat) (l : List UInt8) (bad : Bool) (w : World) (hW : Wr w B g A c l bad) (hl : l.length ≤ 1000000000000) :
    Calls Try.prog 22 #[.pointer (some ⟨g, 0, none⟩), .int .i64 (n : Int), .int .i64 2, .int .i64 most] w (fun e w' =>
      e = .returned (.tuple #[]) ∧ (∃ A' c', Wr w' B g A' c' (l ++ be n 2) bad) ∧ WFr B g w w') := by
  have hn : n < 18446744073709551616 := by omega
  have hc0 : w.cell? ⟨g, 0, none⟩ = some (.slice A l.length c) := cell_of_row w g 0 _ 58 (0, 0) hW.blk
  have hf0 : w.frozen? ⟨g, 0, none⟩ = false := frozen_of_row w g 0 _ 58 hW.blk
  have hgl := hW.lt
  have hne := hW.ne
  go_enter Try.func22, Try.ntmps22
  go_wp2_with fail
  refine wp_region_seg [11, 14] [[0, 1, 2, 3, 4, 5, 6, 8, 9, 7], [10, 11, 12, 13, 14]] (by kernel_rfl) (by kernel_rfl) ?_
  simp only [Seg, pick_cons, pick_nil, List.getElem?_toArray, List.getElem?_cons_zero, List.getElem?_cons_succ, Option.toList_some, List.cons_append, List.nil_append]
  go_wp2_with fail
  refine (append64 n hn _).mono ?_
  rintro e w1 ⟨A1, c1, rfl, hc1, ho1, hb1'⟩
  have hb1 := of_drew hb1'
  go_wp2_with fail
  refine Fin.intro ⟨by kernel_rfl, Old.of_below hb1', ?_⟩
  go_wp2_with (at_builtin; refine Stop.out ?_)
  refine Stop.mk ?_
  refine wpList_app _ rfl (.tmp 22) (.tmp 28) 22 rfl 5 (.int .u8 0) 1 1 B Try.underlying22 info5 rfl (by omega) (.slice A l.length c) l.length (bvs l) rfl (own_below hW.own hb1) _ 2 _ (bvs (be n 2)) rfl (by simp [bvs_length, be_length]) (be_rd (j := 6) (k := 2) ho1 (by omega)) (bvs_one _) (by omega) (by omega) (Nat.le_trans hW.le (Nat.le_of_lt (Nat.lt_of_lt_of_le hgl hb1.size))) ?_
  intro A' c' w2 ho2 hg hat
  have hc2 := (hg.cell_far ⟨g, 0, none⟩ (Nat.lt_of_lt_of_le hgl hb1.size) hne).trans ((hb1.cell (p := ⟨g, 0, none⟩) hgl).trans hc0)
  have hf2 := (hg.frozen_far ⟨g, 0, none⟩ (Nat.lt_of_lt_of_le hgl hb1.size) hne).trans ((hb1.frozen (p := ⟨g, 0, none⟩) hgl).trans hf0)
  go_wp2
  refine Fin.intro ⟨by kernel_rfl, ?_⟩
  go_wp2
  go_end0
  have H := hW.next (l' := be n 2) hb1 (by simpa [be_length] using ho2) hg
  simp only [be_length] at H
  exact ⟨rfl, ⟨A', c', H.1⟩, H.2⟩

set_option maxRecDepth 100000 in
set_option maxHeartbeats 800000 in
theorem put_4 (n : Nat) (most : Int) (hm : (n : Int) ≤ most) (hmost : most ≤ 2147483647) (g B : Nat) (A : Option Addr) (c : Nat) (l : List UInt8) (bad : Bool) (w : World) (hW : Wr w B g A c l bad) (hl : l.length ≤ 1000000000000) :
    Calls Try.prog 22 #[.pointer (some ⟨g, 0, none⟩), .int .i64 (n : Int), .int .i64 4, .int .i64 most] w (fun e w' =>
      e = .returned (.tuple #[]) ∧ (∃ A' c', Wr w' B g A' c' (l ++ be n 4) bad) ∧ WFr B g w w') := by
  have hn : n < 18446744073709551616 := by omega
  have hc0 : w.cell? ⟨g, 0, none⟩ = some (.slice A l.length c) := cell_of_row w g 0 _ 58 (0, 0) hW.blk
  have hf0 : w.frozen? ⟨g, 0, none⟩ = false := frozen_of_row w g 0 _ 58 hW.blk
  have hgl := hW.lt
  have hne := hW.ne
  go_enter Try.func22, Try.ntmps22
  go_wp2_with fail
  refine wp_region_seg [11, 14] [[0, 1, 2, 3, 4, 5, 6, 8, 9, 7], [10, 11, 12, 13, 14]] (by kernel_rfl) (by kernel_rfl) ?_
  simp only [Seg, pick_cons, pick_nil, List.getElem?_toArray, List.getElem?_cons_zero, List.getElem?_cons_succ, Option.toList_some, List.cons_append, List.nil_append]
  go_wp2_with fail
  refine (append64 n hn _).mono ?_
  rintro e w1 ⟨A1, c1, rfl, hc1, ho1, hb1'⟩
  have hb1 := of_drew hb1'
  go_wp2_with fail
  refine Fin.intro ⟨by kernel_rfl, Old.of_below hb1', ?_⟩
  go_wp2_with (at_builtin; refine Stop.out ?_)
  refine Stop.mk ?_
  refine wpList_app _ rfl (.tmp 22) (.tmp 28) 22 rfl 5 (.int .u8 0) 1 1 B Try.underlying22 info5 rfl (by omega) (.slice A l.length c) l.length (bvs l) rfl (own_below hW.own hb1) _ 4 _ (bvs (be n 4)) rfl (by simp [bvs_length, be_length]) (be_rd (j := 4) (k := 4) ho1 (by omega)) (bvs_one _) (by omega) (by omega) (Nat.le_trans hW.le (Nat.le_of_lt (Nat.lt_of_lt_of_le hgl hb1.size))) ?_
  intro A' c' w2 ho2 hg hat
  have hc2 := (hg.cell_far ⟨g, 0, none⟩ (Nat.lt_of_lt_of_le hgl hb1.size) hne).trans ((hb1.cell (p := ⟨g, 0, none⟩) hgl).trans hc0)
  have hf2 := (hg.frozen_far ⟨g, 0, none⟩ (Nat.lt_of_lt_of_le hgl hb1.size) hne).trans ((hb1.frozen (p := ⟨g, 0, none⟩) hgl).trans hf0)
  go_wp2
  refine Fin.intro ⟨by kernel_rfl, ?_⟩
  go_wp2
  go_end0
  have H := hW.next (l' := be n 4) hb1 (by simpa [be_length] using ho2) hg
  simp only [be_length] at H
  exact ⟨rfl, ⟨A', c', H.1⟩, H.2⟩

set_option maxRecDepth 100000 in
theorem put_bad (n : Int) (sz : Int) (most : Int) (hm : n < 0 ∨ most < n) (g B : Nat) (A : Option Addr) (c : Nat) (l : List UInt8) (bad : Bool) (w : World) (hW : Wr w B g A c l bad) :
    Calls Try.prog 22 #[.pointer (some ⟨g, 0, none⟩), .int .i64 n, .int .i64 sz, .int .i64 most] w (fun e w' =>
      e = .returned (.tuple #[]) ∧ (∃ A' c', Wr w' B g A' c' l true) ∧ WFr B g w w') := by
  have hc0 : w.cell? ⟨g, 1, none⟩ = some (.bool bad) := cell_of_row w g 1 _ 58 (0, 0) hW.blk
  have hf0 : w.frozen? ⟨g, 1, none⟩ = false := frozen_of_row w g 1 _ 58 hW.blk
  have H := hW.spoil
  by_cases hneg : n < 0
  · go_enter Try.func22, Try.ntmps22
    go_wp2
    refine bodyPost_ret (results_none rfl _ _ _) rfl ?_
    exact ⟨rfl, ⟨A, c, H.1⟩, H.2⟩
  · have hgt : most < n := by omega
    go_enter Try.func22, Try.ntmps22
    go_wp2
    refine bodyPost_ret (results_none rfl _ _ _) rfl ?_
    exact ⟨rfl, ⟨A, c, H.1⟩, H.2⟩

/-- **put**, whatever the number. -/
theorem put_any (n : Int) (k : Nat) (hk : k = 1 ∨ k = 2 ∨ k = 4) (most : Int) (hmost : most ≤ 2147483647) (g B : Nat) (A : Option Addr) (c : Nat) (l : List UInt8) (bad : Bool) (w : World) (hW : Wr w B g A c l bad) (hl : l.length ≤ 1000000000000) :
    Calls Try.prog 22 #[.pointer (some ⟨g, 0, none⟩), .int .i64 n, .int .i64 (k : Int), .int .i64 most] w (fun e w' =>
      e = .returned (.tuple #[]) ∧ (∃ A' c', Wr w' B g A' c' (wput (l, bad) n k most).1 (wput (l, bad) n k most).2) ∧ WFr B g w w') := by
  by_cases hm : n < 0 ∨ n > most
  · unfold wput
    rw [if_pos hm]
    exact put_bad n k most hm g B A c l bad w hW
  · unfold wput
    rw [if_neg hm]
    obtain ⟨m, rfl⟩ := Int.eq_ofNat_of_zero_le (show 0 ≤ n by omega)
    rw [Int.toNat_natCast]
    rcases hk with rfl | rfl | rfl
    · exact put_1 m most (by omega) hmost g B A c l bad w hW hl
    · exact put_2 m most (by omega) hmost g B A c l bad w hW hl
    · exact put_4 m most (by omega) hmost g B A c l bad w hW hl
end Go.Proofs.Ytekblnaogncplaa
