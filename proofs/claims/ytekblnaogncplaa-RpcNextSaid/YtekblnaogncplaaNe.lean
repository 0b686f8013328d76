/- RpcNext, walked. -/
import Derived.Test.YtekblnaogncplaaNd
set_option linter.unusedVariables false
set_option linter.unusedSimpArgs false
namespace Go.Proofs.Ytekblnaogncplaa
open Go.RowKit Go.Shelf
attribute [local go_sem] Oper.semAt_some

set_option maxRecDepth 100000 in
set_option maxHeartbeats 3200000 in
theorem rpcNext_o (L : List CallD) (Ac : Option Addr) (cc : Nat) (mo : List UInt8) (Am : Option Addr) (cm : Nat) (most : Int) (w : World) (hL : CallsU w w.heap.size Ac L) (hm : RdU w w.heap.size Am (bvs mo)) (hmc : mo.length ≤ cm) (hl : L.length ≤ 9223372036854775807) :
    Calls Try.prog 4 #[.slice Ac L.length cc, .slice Am mo.length cm, .int .i64 most] w (fun e w' => e = .returned (.bool true) ∧ Below w.heap.size w w') := by
  refine (callsIn_wide (n := 5)).1 ?_
  refine callsIn_of_wp_marks Try.func4 rfl trivial ?_ rfl
  simp only [Try.ntmps4, List.size_toArray, List.length_cons, List.length_nil, Nat.reduceAdd, Nat.reduceSub, Array.replicate_succ, Array.replicate_zero, List.push_toArray, List.append_toArray, List.nil_append, List.cons_append]
  refine wpIn_wide.2 ?_
  have hb0 : Below w.heap.size w ((w.alloc (.cells #[.int .i64 most] 3)).alloc (.cells #[.bool false] 4)) := (below_alloc w _).alloc (by simp) _
  have k5 : ((w.alloc (.cells #[.int .i64 most] 3)).alloc (.cells #[.bool false] 4)).heap[w.heap.size]? = some (.cells #[.int .i64 most] 3 (0, 0)) := (Below.heap_alloc _ _ _ (by simp)).trans (heap_alloc_new w _)
  have k6 : ((w.alloc (.cells #[.int .i64 most] 3)).alloc (.cells #[.bool false] 4)).heap[w.heap.size + 1]? = some (.cells #[.bool false] 4 (0, 0)) := by
    simpa using heap_alloc_new (w.alloc (.cells #[.int .i64 most] 3)) (.cells #[.bool false] 4)
  go_wp2_with fail
  refine (begun_o _).mono ?_
  rintro e w1 ⟨rfl, hb1⟩
  have hs1 : w.heap.size + 2 ≤ w1.heap.size := by have := hb1.size; simp at this; omega
  have k5 := (hb1.block _ (by simp; omega)).trans k5
  have k6 := (hb1.block _ (by simp)).trans k6
  have hb1 := hb0.trans (hb1.mono hb0.size)
  have N0 : NAt w w1.heap.size ((w1.alloc (.cells #[.bool true] 4)).alloc (.cells #[.slice none 0 0] 22)) most none 0 [] :=
    ⟨(Below.heap_alloc _ _ _ (by simp; omega)).trans ((Below.heap_alloc _ _ _ (by omega)).trans k5), (Below.heap_alloc _ _ _ (by simp; omega)).trans ((Below.heap_alloc _ _ _ (by omega)).trans k6),
      (Below.heap_alloc _ _ _ (by simp)).trans (heap_alloc_new w1 _), by simpa using heap_alloc_new (w1.alloc (.cells #[.bool true] 4)) (.cells #[.slice none 0 0] 22), World.ownsRow_nil _ _ _ _,
      (hb1.alloc hb1.size _).alloc (by simp; omega) _, hs1⟩
  clear hb0 hb1 k5 k6
  go_wp2_with fail
  go_loopw [9] (fun i wr => ∃ k : Nat, k ≤ L.length ∧ k ≤ 5 ∧ i = .int .i64 k ∧ ∃ A c l, NAt w w1.heap.size wr most A c l ∧ l.length ≤ k * 262148) (fun i _ => 5 - (intOf i).toNat)
  case atStart => exact ⟨0, by omega, by omega, rfl, none, 0, [], N0, Nat.zero_le _⟩
  case round =>
    obtain ⟨k, hk, hk5, rfl, A, c, l, N1, hll⟩ := hrel
    clear N0
    by_cases hgo : k < L.length ∧ k < 5
    · obtain ⟨hlt, h5⟩ := hgo
      obtain ⟨g, o, q, hA, hgU, hcs, hq, ht1, ht2⟩ := hL k L[k] (by simp [hlt])
      subst hA
      have hcw : ∀ (j : Nat) (v : Value), (callCells L[k] q)[j]? = some v → wr.cell? ⟨g, o + k * 11 + j, none⟩ = some v := fun j v hv => (N1.below.cell (p := ⟨g, o + k * 11 + j, none⟩) hgU).trans (hcs j v hv)
      generalize L[k] = x at hq ht1 ht2 hcw
      have c0 : wr.cell? ⟨g, o + k * 11, none⟩ = some (.int .i64 x.fn) := hcw 0 _ rfl
      have c1 := hcw 1 _ rfl
      have c2 := hcw 2 _ rfl
      have c3 := hcw 3 _ rfl
      have c4 := hcw 4 _ rfl
      have c5 := hcw 5 _ rfl
      have c6 := hcw 6 _ rfl
      have c7 := hcw 7 _ rfl
      have c8 := hcw 8 _ rfl
      have c9 := hcw 9 _ rfl
      have c10 := hcw 10 _ rfl
      have hqw := hq.below N1.below
      have hsz := N1.below.size
      clear hcw hcs hq
      go_wp2_with fail
      clear c0 c1 c2 c3 c4 c5 c6 c7 c8 c9 c10
      refine (cutCall_o x q wr w.heap.size hsz hqw ⟨ht1, ht2⟩).mono ?_
      rintro e w2 ⟨q', rfl, hU2, hb2⟩
      have hM := cutCall_MN x
      have hle : ∀ f, encRef (cutCall x) = some f → f.length ≤ 262148 := fun f hf => ref_le hf
      generalize cutCall x = y at hU2 hM hle ⊢
      have N2 := N1.kept hb2
      have hsz2 : w.heap.size ≤ w2.heap.size := N2.below.size
      clear N1 hqw hb2
      go_wp2_with fail
      refine (refCall_o y q' w2 (hU2.toU hsz2) hM).mono ?_
      intro e w3 hG
      generalize encRef y = r at hG hle
      obtain ⟨A3, c3, rfl, hc3, ho3, hb3⟩ := hG
      have N3 := N2.kept hb3
      clear N2 hU2 hM hb3
      cases r with
      | none =>
        go_wp2_with fail
        go_roundw
        case rel => exact ⟨k + 1, hlt, h5, by go_num, A, c, l, N3, Nat.le_trans hll (Nat.mul_le_mul_right _ (Nat.le_succ k))⟩
        case measure => simp [intOf]; omega
      | some f =>
        have hfl := hle f rfl
        simp only [Option.getD_some] at hc3 ho3
        have g8 : w3.cell? ⟨w1.heap.size + 1, 0, none⟩ = some (.slice A l.length c) := cell_of_row w3 _ 0 _ 22 (0, 0) N3.h8
        go_wp2_with (at_builtin; refine Stop.out ?_)
        refine Stop.mk ?_
        refine wpList_app _ rfl (.tmp 47) (.tmp 48) 22 rfl 5 (.int .u8 0) 1 1 (w1.heap.size + 2) Try.underlying22 info5 rfl (by omega) (.slice A l.length c) l.length (bvs l) rfl N3.own A3 f.length c3 (bvs f) rfl (by simp [bvs_length]) (Rd.own ho3) (bvs_one _) (by omega) (by omega) (by have := N3.size; omega) ?_
        intro A4 c4 w4 ho4 hg4 hat4
        obtain ⟨m8, e8⟩ := N3.mid hg4
        have N4 := N3.app hg4 rfl ho4
        have hlf : (l ++ f).length = l.length + f.length := by simp
        clear N3 g8 hg4 ho4 hat4 ho3
        go_wp2_with fail
        clear m8 e8
        go_roundw
        case rel => exact ⟨k + 1, hlt, h5, by go_num, A4, c4, l ++ f, N4, by rw [hlf, Nat.succ_mul]; exact Nat.add_le_add hll hfl⟩
        case measure => simp [intOf]; omega
    · have hll : l.length ≤ 1310740 := by omega
      rcases Nat.lt_or_ge k L.length with hx | hx
      · obtain rfl : k = 5 := by omega
        go_wp2_with fail
        have g8 : wr.drew.cell? ⟨w1.heap.size + 1, 0, none⟩ = some (.slice A l.length c) := cell_of_row wr _ 0 _ 22 (0, 0) N1.h8
        have N2 := N1.kept (below_drew wr)
        refine KK.wp_region_segK (KK.Kp [⟨w1.heap.size + 1, 0, none⟩]) (KK.Kp.rel _) [3, 4] [[0, 1, 2], [3, 4]] (by kernel_rfl) (by kernel_rfl) ?_
        simp only [KK.Seg, pick_cons, pick_nil, List.getElem?_toArray, List.getElem?_cons_zero, List.getElem?_cons_succ, Option.toList_some, List.cons_append, List.nil_append]
        go_wp2_with fail
        have hsh := short_o mo 60 (by omega) Am cm wr.drew (hm.below N2.below).rd hmc
        have hrm : Rd wr.drew Am (bvs (mo.take 60)) := by
          have := (hm.below N2.below).rd.take 60
          rwa [show (bvs mo).take 60 = bvs (mo.take 60) by simp [bvs]] at this
        have hml : (mo.take 60).length ≤ 60 := by simp; omega
        generalize mo.take 60 = mt at hsh hrm hml
        refine hsh.mono ?_
        clear hsh
        rintro e w2 ⟨rfl, rfl⟩
        go_wp2_with fail
        refine Fin.intro ⟨⟨by kernel_rfl, KK.loads_one (j := 0) (by kernel_rfl) rfl (KK.stab_loadOp (ad := ⟨w1.heap.size + 1, 0, none⟩) List.mem_cons_self rfl rfl (by kernel_rfl))⟩, KK.Kp.one g8 g8, ?_⟩
        go_wp2_with (at_builtin; refine Stop.out ?_)
        refine Stop.mk ?_
        refine wpList_app _ rfl (.tmp 50) (.tmp 52) 22 rfl 5 (.int .u8 0) 1 1 (w1.heap.size + 2) Try.underlying22 info5 rfl (by omega) (.slice A l.length c) l.length (bvs l) rfl N2.own Am mt.length cm (bvs mt) rfl (by simp [bvs_length]) hrm (bvs_one _) (by omega) (by omega) (by have := N2.size; omega) ?_
        intro A4 c4 w4 ho4 hg4 hat4
        obtain ⟨m8, e8⟩ := N2.mid hg4
        have N4 := N2.app hg4 rfl ho4
        have hlf : (l ++ mt).length = l.length + mt.length := by simp
        have hbl : (l ++ mt).length ≤ 1400000 := by omega
        rw [← hlf] at N4
        clear N1 N2 hg4 ho4 hat4 hrm g8
        go_wp2_with fail
        refine Fin.intro ⟨⟨by kernel_rfl, KK.loads_none (by kernel_rfl)⟩, ?_⟩
        clear m8 e8
        rw [← hlf]
        generalize w4.setCell ⟨w1.heap.size + 1, 0, none⟩ (.slice A4 (l ++ mt).length c4) = w5 at N4 ⊢
        generalize l ++ mt = b at N4 hbl hlf ⊢
        clear hlf
        have hcap : b.length ≤ c4 := (own_cap N4.own).2.1
        have g8 : w5.cell? ⟨w1.heap.size + 1, 0, none⟩ = some (.slice A4 b.length c4) := cell_of_row w5 _ 0 _ 22 (0, 0) N4.h8
        go_wp2_with fail
        refine (next_o b A4 c4 w5 (Rd.own N4.own) (by omega) hcap).mono ?_
        rintro e w6 ⟨B6, d6, rfl, hd6, ho6, hb6⟩
        have N6 := N4.kept hb6
        clear N4 g8
        have g8 : w6.cell? ⟨w1.heap.size + 1, 0, none⟩ = some (.slice A4 b.length c4) := cell_of_row w6 _ 0 _ 22 (0, 0) N6.h8
        go_wp2_with fail
        refine (refNext_o b A4 c4 w6 (Rd.own N6.own) (by omega) hcap).mono ?_
        rintro e w7 ⟨B7, d7, rfl, hd7, ho7, hb7⟩
        have N7 := N6.kept hb7
        have hR1 := (Rd.own ho6).below hb7
        have hR2 := Rd.own ho7
        generalize nextOf b = nx at hR1 hR2 ⊢
        obtain ⟨body, m, ok⟩ := nx
        dsimp only at hR1 hR2 ⊢
        have s1 := run_str (P := Try.prog) w7 hR1 22 9 5 Try.underlying22 Try.underlying5 Try.underlying9 body.length d6 rfl
        have s2 := run_str (P := Try.prog) w7 hR2 22 9 5 Try.underlying22 Try.underlying5 Try.underlying9 body.length d7 rfl
        unfold str at s1 s2
        clear N6 g8 hb6 hb7 ho6 ho7 hd6 hd7 hR1 hR2
        have g8 : w7.cell? ⟨w1.heap.size + 1, 0, none⟩ = some (.slice A4 b.length c4) := cell_of_row w7 _ 0 _ 22 (0, 0) N7.h8
        go_wp2_with fail
        clear s1 s2 g8
        refine (bodies_o A4 b.length c4 w7).mono ?_
        rintro e w8 ⟨rfl, hw8⟩
        have hef := eql_func (.func 37) #[] #[.pointer (some ⟨w7.heap.size, 0, none⟩)] w8
        have hb8 : Below w7.heap.size w7 w8 := by rw [hw8]; exact below_alloc w7 _
        have hk8 : w8.heap[w7.heap.size]? = some (.cells #[.slice A4 b.length c4] 22 (0, 0)) := by rw [hw8]; exact heap_alloc_new w7 _
        have hz8 : w7.heap.size < w8.heap.size := by rw [hw8]; simp
        have N8 := N7.kept hb8
        clear hw8 N7 hb8
        go_wp2_with fail
        clear hef
        obtain ⟨w9, hw9⟩ : ∃ w9, w9 = (w8.alloc (.cells #[.int .i64 0] 3)).alloc (.cells #[.int .i64 0] 3) := ⟨_, rfl⟩
        have hb9 : Below w8.heap.size w8 w9 := by rw [hw9]; exact (below_alloc w8 _).alloc (by simp) _
        have hk9 : w9.heap[w8.heap.size]? = some (.cells #[.int .i64 0] 3 (0, 0)) := by rw [hw9, Below.heap_alloc _ _ _ (by simp)]; exact heap_alloc_new w8 _
        have hk10 : w9.heap[w8.heap.size + 1]? = some (.cells #[.int .i64 0] 3 (0, 0)) := by rw [hw9]; simpa using heap_alloc_new (w8.alloc (.cells #[.int .i64 0] 3)) (.cells #[.int .i64 0] 3)
        have hz9 : w8.heap.size + 1 < w9.heap.size := (Array.getElem?_eq_some_iff.1 hk10).1
        have hn9 : w8.heap.size ≤ w9.heap.size := by omega
        have N9 := N8.kept hb9
        have hbox : w9.cell? ⟨w7.heap.size, 0, none⟩ = some (.slice A4 b.length c4) := (hb9.cell (p := ⟨w7.heap.size, 0, none⟩) hz8).trans (cell_of_row w8 _ 0 _ 22 (0, 0) hk8)
        have hrd9 : RdU w9 w8.heap.size A4 (bvs b) := (Rd.own N8.own).rdU.below hb9
        rw [← hw9]
        clear hw9 hk8
        have hst := bodies_told (5 - 1) (by decide) w7.heap.size w8.heap.size b A4 c4 (by omega) hcap w9 hbox hz8 hn9 hrd9
        have hB8 := N8.size
        refine (wpIn_wide (n := 5)).1 ?_
        refine wpIn_range_told (F := Fence.wide) (n := 5) rfl (by decide) (gf := 37) (lb := #[.pointer (some ⟨w7.heap.size, 0, none⟩)]) rfl trivial (enters_of Try.func37 (by kernel_rfl) rfl) hst belowK_t (belowK_b hn9) (Below.refl _ _) (fun _ => rfl) (gn_put b)
          (fun pre W => (pre.length * 4 ≤ off b pre.length ∧ (W.cell? ⟨w8.heap.size, 0, none⟩ = some (.int .i64 (off b pre.length : Int)) ∧ W.frozen? ⟨w8.heap.size, 0, none⟩ = false) ∧ (W.cell? ⟨w8.heap.size + 1, 0, none⟩ = some (.int .i64 (pre.length : Int)) ∧ W.frozen? ⟨w8.heap.size + 1, 0, none⟩ = false)) ∧ Below w8.heap.size w9 W)
          (fun pre W => W.cell? ⟨w.heap.size + 1, 0, none⟩ = some (.bool true) ∧ Below w.heap.size w W)
          (OwnFrom.and (Own.from (fun s A B row hs hg hr => ⟨hs.1, ⟨cell_kept hs.2.1.1 hg hr, (frozen_kept hs.2.1.1 hg hr).trans hs.2.1.2⟩, ⟨cell_kept hs.2.2.1 hg hr, (frozen_kept hs.2.2.1 hg hr).trans hs.2.2.2⟩⟩) _) (ownFrom_below hn9 hn9))
          (OwnFrom.and (Own.from (fun s A B row hs hg hr => cell_kept hs hg hr) _) (ownFrom_below (Nat.le_refl _) N9.below.size))
          ⟨⟨Nat.zero_le _, ⟨cell_of_row w9 _ 0 _ 3 (0, 0) hk9, frozen_of_row w9 _ 0 _ 3 hk9⟩, ⟨cell_of_row w9 _ 0 _ 3 (0, 0) hk10, frozen_of_row w9 _ 0 _ 3 hk10⟩⟩, Below.refl _ _⟩ ?a1 ?assign ?body ?done ?stop
        case assign =>
          intro l x W K hK
          gi_wp2
          exact hK
        case body =>
          rintro l' pre ⟨xi, xv⟩ W ⟨⟨h4, ⟨ca, fa⟩, cs, fs⟩, hbW⟩ ⟨hx1, hx2, Ax, cx, hx3, hxr⟩
          dsimp only at hx1 hx3
          subst hx1
          subst hx3
          have g8 : W.cell? ⟨w1.heap.size + 1, 0, none⟩ = some (.slice A4 b.length c4) := (hbW.cell (p := ⟨w1.heap.size + 1, 0, none⟩) hB8).trans (cell_of_row w9 _ 0 _ 22 (0, 0) N9.h8)
          have g7 : W.cell? ⟨w1.heap.size, 0, none⟩ = some (.bool true) := (hbW.cell (p := ⟨w1.heap.size, 0, none⟩) (by simp; omega)).trans (cell_of_row w9 _ 0 _ 4 (0, 0) N9.h7)
          have g6 : W.cell? ⟨w.heap.size + 1, 0, none⟩ = some (.bool false) := (hbW.cell (p := ⟨w.heap.size + 1, 0, none⟩) (by simp; omega)).trans (cell_of_row w9 _ 0 _ 4 (0, 0) N9.h6)
          have f6 : W.frozen? ⟨w.heap.size + 1, 0, none⟩ = false := (hbW.frozen (p := ⟨w.heap.size + 1, 0, none⟩) (by simp; omega)).trans (frozen_of_row w9 _ 0 _ 4 N9.h6)
          have g5 : W.cell? ⟨w.heap.size, 0, none⟩ = some (.int .i64 most) := (hbW.cell (p := ⟨w.heap.size, 0, none⟩) (by simp; omega)).trans (cell_of_row w9 _ 0 _ 3 (0, 0) N9.h5)
          have hzW : w8.heap.size + 1 < W.heap.size := World.block_lt_of_cell? W _ cs
          have hole := off_le b pre.length
          have hoff : off b (pre.length + 1) = off b pre.length + (nextOf (b.drop (off b pre.length))).2.1 := rfl
          have hnle := next_le (b.drop (off b pre.length))
          have hge := next_ge (b.drop (off b pre.length)) hx2
          rw [List.length_drop] at hnle
          generalize off b pre.length = t at ca hole hoff hnle hge hx2 hxr h4 ⊢
          have hti : (t : Int) ≤ (b.length : Int) := by omega
          have hct : ¬ c4 = t := by omega
          have hnx := next_cut 15 refNext_o b A4 c4 t W (hrd9.below hbW).rd (by omega) hcap hole (Option.map (fun x => x.add t) A4) (.inl rfl)
          generalize nextOf (b.drop t) = nx at hoff hnle hge hx2 hxr hnx ⊢
          obtain ⟨bd, m, ok⟩ := nx
          dsimp only at hoff hnle hge hx2 hxr hnx ⊢
          have hmi : ¬ (m : Int) = 0 := by omega
          have HO := Lib.hid hoff
          have HBW := Lib.hid hbW
          clear hoff hbW
          gi_wp2_with (refine ⟨trivial, ?_⟩; gi_at_call 15; refine (CallsIn.inRound _ (callsIn_wide.2 hnx)).mono ?_; refine Stop.out ?_)
          refine Stop.mk ?_
          first | rintro e w11 B2 d2 rfl hd2 ho2 hb2 | rintro e w11 ⟨B2, d2, rfl, hd2, ho2, hb2⟩
          clear hnx
          have s1 := run_str (P := Try.prog) w11 (hxr.below hb2) 22 9 5 Try.underlying22 Try.underlying5 Try.underlying9 bd.length cx rfl
          have s2 := run_str (P := Try.prog) w11 (Rd.own ho2) 22 9 5 Try.underlying22 Try.underlying5 Try.underlying9 bd.length d2 rfl
          unfold str at s1 s2
          have ca' := (hb2.cell (p := ⟨w8.heap.size, 0, none⟩) (by simp; omega)).trans ca
          have fa' := (hb2.frozen (p := ⟨w8.heap.size, 0, none⟩) (by simp; omega)).trans fa
          have cs' := (hb2.cell (p := ⟨w8.heap.size + 1, 0, none⟩) hzW).trans cs
          have fs' := (hb2.frozen (p := ⟨w8.heap.size + 1, 0, none⟩) hzW).trans fs
          have g7' := (hb2.cell (p := ⟨w1.heap.size, 0, none⟩) (by simp; omega)).trans g7
          have g6' := (hb2.cell (p := ⟨w.heap.size + 1, 0, none⟩) (by simp; omega)).trans g6
          have f6' := (hb2.frozen (p := ⟨w.heap.size + 1, 0, none⟩) (by simp; omega)).trans f6
          have g5' := (hb2.cell (p := ⟨w.heap.size, 0, none⟩) (by simp; omega)).trans g5
          have hpl : (pre.length : Int) ≤ 100000000 := by omega
          clear ca fa cs fs g8 g7 g6 f6 g5
          have hkO : KeepsOthers W w11 := KeepsOthers.of_grownBy (grown_of_below (g := none) hb2) (by simp)
          have hwB : Below w.heap.size w w11 := (N9.below.trans (HBW.out.mono (by omega))).trans (hb2.mono (by omega))
          have hlen : (pre ++ [((t : Int), Value.slice Ax bd.length cx)]).length = pre.length + 1 := by simp
          by_cases hmo : (pre.length : Int) + 1 = most
          · gi_wp2
            have u1 := (World.cell?_setCell_other (w := w11) (a := ⟨w8.heap.size, 0, none⟩) (v := .int .i64 ((t : Int) + (m : Int))) (b := ⟨w.heap.size + 1, 0, none⟩) (fun e => by injection e with e _; omega)).trans g6'
            have u2 := (World.cell?_setCell_other (w := w11.setCell ⟨w8.heap.size, 0, none⟩ (.int .i64 ((t : Int) + (m : Int)))) (a := ⟨w8.heap.size + 1, 0, none⟩) (v := .int .i64 ((pre.length : Int) + 1)) (b := ⟨w.heap.size + 1, 0, none⟩) (fun e => by injection e with e _; omega)).trans u1
            refine ⟨((hkO.trans (KeepsOthers.setCell _ _ _)).trans (KeepsOthers.setCell _ _ _)).trans (KeepsOthers.setCell _ _ _), ?_, ?_⟩
            · first | exact World.cell?_setCell_same _ _ _ u2 | (rw [← hmo]; exact World.cell?_setCell_same _ _ _ u2) | (rw [hmo] at u2; exact World.cell?_setCell_same _ _ _ u2)
            · exact ((hwB.setCell (p := ⟨w8.heap.size, 0, none⟩) (by simp; omega) _).setCell (p := ⟨w8.heap.size + 1, 0, none⟩) (by simp; omega) _).setCell (p := ⟨w.heap.size + 1, 0, none⟩) (by simp) _
          · gi_wp2
            have hkk : Below w8.heap.size W w11 := hb2.mono (by omega)
            have hkk2 := (hkk.setCell (p := ⟨w8.heap.size, 0, none⟩) (Nat.le_refl _) (.int .i64 ((t : Int) + (m : Int)))).setCell (p := ⟨w8.heap.size + 1, 0, none⟩) (by simp) (.int .i64 ((pre.length : Int) + 1))
            have u1 := (World.cell?_setCell_other (w := w11) (a := ⟨w8.heap.size, 0, none⟩) (v := .int .i64 ((t : Int) + (m : Int))) (b := ⟨w8.heap.size + 1, 0, none⟩) (fun e => by injection e with e _; omega)).trans cs'
            refine ⟨(hkO.trans (KeepsOthers.setCell _ _ _)).trans (KeepsOthers.setCell _ _ _), hkk2, ⟨?_, ⟨?_, ?_⟩, ?_, ?_⟩, HBW.out.trans hkk2⟩
            · rw [hlen, HO.out]; omega
            · rw [hlen, HO.out]
              refine (World.cell?_setCell_other _ _ _ _ (fun e => by injection e with e _; omega)).trans ((World.cell?_setCell_same _ _ _ ca').trans ?_)
              simp
            · rw [World.frozen?_setCell, World.frozen?_setCell]; exact fa'
            · rw [hlen]
              refine (World.cell?_setCell_same _ _ _ u1).trans ?_
              simp
            · rw [World.frozen?_setCell, World.frozen?_setCell]; exact fs'
        case done =>
          rintro D ys W hD hys ⟨⟨h4, ⟨ca, fa⟩, cs, fs⟩, hbW⟩ hK
          have g8 : W.cell? ⟨w1.heap.size + 1, 0, none⟩ = some (.slice A4 b.length c4) := (hbW.cell (p := ⟨w1.heap.size + 1, 0, none⟩) hB8).trans (cell_of_row w9 _ 0 _ 22 (0, 0) N9.h8)
          have g7 : W.cell? ⟨w1.heap.size, 0, none⟩ = some (.bool true) := (hbW.cell (p := ⟨w1.heap.size, 0, none⟩) (by simp; omega)).trans (cell_of_row w9 _ 0 _ 4 (0, 0) N9.h7)
          have g6 : W.cell? ⟨w.heap.size + 1, 0, none⟩ = some (.bool false) := (hbW.cell (p := ⟨w.heap.size + 1, 0, none⟩) (by simp; omega)).trans (cell_of_row w9 _ 0 _ 4 (0, 0) N9.h6)
          have f6 : W.frozen? ⟨w.heap.size + 1, 0, none⟩ = false := (hbW.frozen (p := ⟨w.heap.size + 1, 0, none⟩) (by simp; omega)).trans (frozen_of_row w9 _ 0 _ 4 N9.h6)
          have hzW : w8.heap.size + 1 < W.heap.size := World.block_lt_of_cell? W _ cs
          have hDW : D < W.heap.size := (Array.getElem?_eq_some_iff.1 hK).1
          have hole := off_le b ys.length
          have hnx := fun A' hA' => next_cut 15 refNext_o b A4 c4 (off b ys.length) W (hrd9.below hbW).rd (by omega) hcap hole A' hA'
          generalize off b ys.length = t at ca hole hys hnx
          have hti : (t : Int) ≤ (b.length : Int) := by omega
          generalize nextOf (b.drop t) = nx at hys hnx
          obtain ⟨bd, m, ok⟩ := nx
          dsimp only at hys hnx
          subst hys
          have hfin : ∀ w11 : World, Below W.heap.size W w11 → (w11.cell? ⟨w.heap.size + 1, 0, none⟩ = some (.bool false) ∧ w11.frozen? ⟨w.heap.size + 1, 0, none⟩ = false ∧ w11.cell? ⟨w1.heap.size, 0, none⟩ = some (.bool true)) ∧
              (w11.setCell ⟨w.heap.size + 1, 0, none⟩ (.bool true)).heap[D]? = some (.deferred (some [])) ∧
              ((w11.setCell ⟨w.heap.size + 1, 0, none⟩ (.bool true)).putObj D (.deferred none)).cell? ⟨w.heap.size + 1, 0, none⟩ = some (.bool true) ∧
              Below w.heap.size w ((w11.setCell ⟨w.heap.size + 1, 0, none⟩ (.bool true)).putObj D (.deferred none)) := fun w11 hb2 => by
            have g6' := (hb2.cell (p := ⟨w.heap.size + 1, 0, none⟩) (by simp; omega)).trans g6
            have hd1 : (w11.setCell ⟨w.heap.size + 1, 0, none⟩ (.bool true)).heap[D]? = some (.deferred (some [])) := (heap_setCell_other w11 _ _ _ (by simp; omega)).trans ((hb2.block D hDW).trans hK)
            have hwB : Below w.heap.size w w11 := (N9.below.trans (hbW.mono (by omega))).trans (hb2.mono (by omega))
            refine ⟨⟨g6', (hb2.frozen (p := ⟨w.heap.size + 1, 0, none⟩) (by simp; omega)).trans f6, (hb2.cell (p := ⟨w1.heap.size, 0, none⟩) (by simp; omega)).trans g7⟩, hd1, ?_, ?_⟩
            · exact cell_kept (World.cell?_setCell_same _ _ _ g6') (grownBy_putObj' _ D _) (fun r e => by cases e; exact ⟨_, hd1, rfl⟩)
            · refine (hwB.setCell (p := ⟨w.heap.size + 1, 0, none⟩) (by simp) (.bool true)).grown (grownBy_putObj' _ D _) ?_ (fun k e => by cases e; omega)
              simp
              exact hwB.size
          have HF := Lib.hid hfin
          clear hfin g6 f6 cs fs fa
          by_cases hce : c4 = t
          · obtain rfl : t = b.length := by omega
            have hny := hnx A4 (.inr hce.symm)
            clear hnx
            subst hce
            rw [Nat.sub_self] at hny
            go_wp2_with fail
            refine hny.mono ?_
            rintro e w11 ⟨B2, d2, rfl, hd2, ho2, hb2⟩
            obtain ⟨⟨q6, qf, q7⟩, hd1, hc1, hbE⟩ := HF.out w11 hb2
            clear g8 g7 ca hny
            go_wp2_with fail
            refine ⟨by simp, .inl ⟨_, _, rfl, run_takeDeferred hd1, ?_⟩⟩
            exact ⟨_, results_cell1 rfl _ _ _ _ _ rfl (load_bool hc1), rfl, hbE⟩
          · have hny := hnx (Option.map (fun x => x.add t) A4) (.inl rfl)
            clear hnx
            go_wp2_with fail
            refine hny.mono ?_
            rintro e w11 ⟨B2, d2, rfl, hd2, ho2, hb2⟩
            obtain ⟨⟨q6, qf, q7⟩, hd1, hc1, hbE⟩ := HF.out w11 hb2
            clear g8 g7 ca hny
            go_wp2_with fail
            refine ⟨by simp, .inl ⟨_, _, rfl, run_takeDeferred hd1, ?_⟩⟩
            exact ⟨_, results_cell1 rfl _ _ _ _ _ rfl (load_bool hc1), rfl, hbE⟩
        case stop =>
          rintro D pre W hD ⟨hc6, hbW⟩ hK
          refine wpIn_wide.2 ?_
          go_wp2_with fail
          refine ⟨by simp, .inl ⟨_, _, rfl, run_takeDeferred hK, ?_⟩⟩
          exact ⟨_, results_cell1 rfl _ _ _ _ _ rfl (load_bool (cell_kept hc6 (grownBy_putObj' _ D _) (fun r e => by cases e; exact ⟨_, hK, rfl⟩))), rfl, hbW.grown (grownBy_putObj' _ D _) hbW.size (fun k e => by cases e; have := N9.below.size; omega)⟩
      · obtain rfl : k = L.length := by omega
        go_wp2_with fail
        have g8 : wr.drew.cell? ⟨w1.heap.size + 1, 0, none⟩ = some (.slice A l.length c) := cell_of_row wr _ 0 _ 22 (0, 0) N1.h8
        have N2 := N1.kept (below_drew wr)
        refine KK.wp_region_segK (KK.Kp [⟨w1.heap.size + 1, 0, none⟩]) (KK.Kp.rel _) [3, 4] [[0, 1, 2], [3, 4]] (by kernel_rfl) (by kernel_rfl) ?_
        simp only [KK.Seg, pick_cons, pick_nil, List.getElem?_toArray, List.getElem?_cons_zero, List.getElem?_cons_succ, Option.toList_some, List.cons_append, List.nil_append]
        go_wp2_with fail
        have hsh := short_o mo 60 (by omega) Am cm wr.drew (hm.below N2.below).rd hmc
        have hrm : Rd wr.drew Am (bvs (mo.take 60)) := by
          have := (hm.below N2.below).rd.take 60
          rwa [show (bvs mo).take 60 = bvs (mo.take 60) by simp [bvs]] at this
        have hml : (mo.take 60).length ≤ 60 := by simp; omega
        generalize mo.take 60 = mt at hsh hrm hml
        refine hsh.mono ?_
        clear hsh
        rintro e w2 ⟨rfl, rfl⟩
        go_wp2_with fail
        refine Fin.intro ⟨⟨by kernel_rfl, KK.loads_one (j := 0) (by kernel_rfl) rfl (KK.stab_loadOp (ad := ⟨w1.heap.size + 1, 0, none⟩) List.mem_cons_self rfl rfl (by kernel_rfl))⟩, KK.Kp.one g8 g8, ?_⟩
        go_wp2_with (at_builtin; refine Stop.out ?_)
        refine Stop.mk ?_
        refine wpList_app _ rfl (.tmp 50) (.tmp 52) 22 rfl 5 (.int .u8 0) 1 1 (w1.heap.size + 2) Try.underlying22 info5 rfl (by omega) (.slice A l.length c) l.length (bvs l) rfl N2.own Am mt.length cm (bvs mt) rfl (by simp [bvs_length]) hrm (bvs_one _) (by omega) (by omega) (by have := N2.size; omega) ?_
        intro A4 c4 w4 ho4 hg4 hat4
        obtain ⟨m8, e8⟩ := N2.mid hg4
        have N4 := N2.app hg4 rfl ho4
        have hlf : (l ++ mt).length = l.length + mt.length := by simp
        have hbl : (l ++ mt).length ≤ 1400000 := by omega
        rw [← hlf] at N4
        clear N1 N2 hg4 ho4 hat4 hrm g8
        go_wp2_with fail
        refine Fin.intro ⟨⟨by kernel_rfl, KK.loads_none (by kernel_rfl)⟩, ?_⟩
        clear m8 e8
        rw [← hlf]
        generalize w4.setCell ⟨w1.heap.size + 1, 0, none⟩ (.slice A4 (l ++ mt).length c4) = w5 at N4 ⊢
        generalize l ++ mt = b at N4 hbl hlf ⊢
        clear hlf
        have hcap : b.length ≤ c4 := (own_cap N4.own).2.1
        have g8 : w5.cell? ⟨w1.heap.size + 1, 0, none⟩ = some (.slice A4 b.length c4) := cell_of_row w5 _ 0 _ 22 (0, 0) N4.h8
        go_wp2_with fail
        refine (next_o b A4 c4 w5 (Rd.own N4.own) (by omega) hcap).mono ?_
        rintro e w6 ⟨B6, d6, rfl, hd6, ho6, hb6⟩
        have N6 := N4.kept hb6
        clear N4 g8
        have g8 : w6.cell? ⟨w1.heap.size + 1, 0, none⟩ = some (.slice A4 b.length c4) := cell_of_row w6 _ 0 _ 22 (0, 0) N6.h8
        go_wp2_with fail
        refine (refNext_o b A4 c4 w6 (Rd.own N6.own) (by omega) hcap).mono ?_
        rintro e w7 ⟨B7, d7, rfl, hd7, ho7, hb7⟩
        have N7 := N6.kept hb7
        have hR1 := (Rd.own ho6).below hb7
        have hR2 := Rd.own ho7
        generalize nextOf b = nx at hR1 hR2 ⊢
        obtain ⟨body, m, ok⟩ := nx
        dsimp only at hR1 hR2 ⊢
        have s1 := run_str (P := Try.prog) w7 hR1 22 9 5 Try.underlying22 Try.underlying5 Try.underlying9 body.length d6 rfl
        have s2 := run_str (P := Try.prog) w7 hR2 22 9 5 Try.underlying22 Try.underlying5 Try.underlying9 body.length d7 rfl
        unfold str at s1 s2
        clear N6 g8 hb6 hb7 ho6 ho7 hd6 hd7 hR1 hR2
        have g8 : w7.cell? ⟨w1.heap.size + 1, 0, none⟩ = some (.slice A4 b.length c4) := cell_of_row w7 _ 0 _ 22 (0, 0) N7.h8
        go_wp2_with fail
        clear s1 s2 g8
        refine (bodies_o A4 b.length c4 w7).mono ?_
        rintro e w8 ⟨rfl, hw8⟩
        have hef := eql_func (.func 37) #[] #[.pointer (some ⟨w7.heap.size, 0, none⟩)] w8
        have hb8 : Below w7.heap.size w7 w8 := by rw [hw8]; exact below_alloc w7 _
        have hk8 : w8.heap[w7.heap.size]? = some (.cells #[.slice A4 b.length c4] 22 (0, 0)) := by rw [hw8]; exact heap_alloc_new w7 _
        have hz8 : w7.heap.size < w8.heap.size := by rw [hw8]; simp
        have N8 := N7.kept hb8
        clear hw8 N7 hb8
        go_wp2_with fail
        clear hef
        obtain ⟨w9, hw9⟩ : ∃ w9, w9 = (w8.alloc (.cells #[.int .i64 0] 3)).alloc (.cells #[.int .i64 0] 3) := ⟨_, rfl⟩
        have hb9 : Below w8.heap.size w8 w9 := by rw [hw9]; exact (below_alloc w8 _).alloc (by simp) _
        have hk9 : w9.heap[w8.heap.size]? = some (.cells #[.int .i64 0] 3 (0, 0)) := by rw [hw9, Below.heap_alloc _ _ _ (by simp)]; exact heap_alloc_new w8 _
        have hk10 : w9.heap[w8.heap.size + 1]? = some (.cells #[.int .i64 0] 3 (0, 0)) := by rw [hw9]; simpa using heap_alloc_new (w8.alloc (.cells #[.int .i64 0] 3)) (.cells #[.int .i64 0] 3)
        have hz9 : w8.heap.size + 1 < w9.heap.size := (Array.getElem?_eq_some_iff.1 hk10).1
        have hn9 : w8.heap.size ≤ w9.heap.size := by omega
        have N9 := N8.kept hb9
        have hbox : w9.cell? ⟨w7.heap.size, 0, none⟩ = some (.slice A4 b.length c4) := (hb9.cell (p := ⟨w7.heap.size, 0, none⟩) hz8).trans (cell_of_row w8 _ 0 _ 22 (0, 0) hk8)
        have hrd9 : RdU w9 w8.heap.size A4 (bvs b) := (Rd.own N8.own).rdU.below hb9
        rw [← hw9]
        clear hw9 hk8
        have hst := bodies_told (5 - 1) (by decide) w7.heap.size w8.heap.size b A4 c4 (by omega) hcap w9 hbox hz8 hn9 hrd9
        have hB8 := N8.size
        refine (wpIn_wide (n := 5)).1 ?_
        refine wpIn_range_told (F := Fence.wide) (n := 5) rfl (by decide) (gf := 37) (lb := #[.pointer (some ⟨w7.heap.size, 0, none⟩)]) rfl trivial (enters_of Try.func37 (by kernel_rfl) rfl) hst belowK_t (belowK_b hn9) (Below.refl _ _) (fun _ => rfl) (gn_put b)
          (fun pre W => (pre.length * 4 ≤ off b pre.length ∧ (W.cell? ⟨w8.heap.size, 0, none⟩ = some (.int .i64 (off b pre.length : Int)) ∧ W.frozen? ⟨w8.heap.size, 0, none⟩ = false) ∧ (W.cell? ⟨w8.heap.size + 1, 0, none⟩ = some (.int .i64 (pre.length : Int)) ∧ W.frozen? ⟨w8.heap.size + 1, 0, none⟩ = false)) ∧ Below w8.heap.size w9 W)
          (fun pre W => W.cell? ⟨w.heap.size + 1, 0, none⟩ = some (.bool true) ∧ Below w.heap.size w W)
          (OwnFrom.and (Own.from (fun s A B row hs hg hr => ⟨hs.1, ⟨cell_kept hs.2.1.1 hg hr, (frozen_kept hs.2.1.1 hg hr).trans hs.2.1.2⟩, ⟨cell_kept hs.2.2.1 hg hr, (frozen_kept hs.2.2.1 hg hr).trans hs.2.2.2⟩⟩) _) (ownFrom_below hn9 hn9))
          (OwnFrom.and (Own.from (fun s A B row hs hg hr => cell_kept hs hg hr) _) (ownFrom_below (Nat.le_refl _) N9.below.size))
          ⟨⟨Nat.zero_le _, ⟨cell_of_row w9 _ 0 _ 3 (0, 0) hk9, frozen_of_row w9 _ 0 _ 3 hk9⟩, ⟨cell_of_row w9 _ 0 _ 3 (0, 0) hk10, frozen_of_row w9 _ 0 _ 3 hk10⟩⟩, Below.refl _ _⟩ ?a1_2 ?assign_2 ?body_2 ?done_2 ?stop_2
        case assign_2 =>
          intro l x W K hK
          gi_wp2
          exact hK
        case body_2 =>
          rintro l' pre ⟨xi, xv⟩ W ⟨⟨h4, ⟨ca, fa⟩, cs, fs⟩, hbW⟩ ⟨hx1, hx2, Ax, cx, hx3, hxr⟩
          dsimp only at hx1 hx3
          subst hx1
          subst hx3
          have g8 : W.cell? ⟨w1.heap.size + 1, 0, none⟩ = some (.slice A4 b.length c4) := (hbW.cell (p := ⟨w1.heap.size + 1, 0, none⟩) hB8).trans (cell_of_row w9 _ 0 _ 22 (0, 0) N9.h8)
          have g7 : W.cell? ⟨w1.heap.size, 0, none⟩ = some (.bool true) := (hbW.cell (p := ⟨w1.heap.size, 0, none⟩) (by simp; omega)).trans (cell_of_row w9 _ 0 _ 4 (0, 0) N9.h7)
          have g6 : W.cell? ⟨w.heap.size + 1, 0, none⟩ = some (.bool false) := (hbW.cell (p := ⟨w.heap.size + 1, 0, none⟩) (by simp; omega)).trans (cell_of_row w9 _ 0 _ 4 (0, 0) N9.h6)
          have f6 : W.frozen? ⟨w.heap.size + 1, 0, none⟩ = false := (hbW.frozen (p := ⟨w.heap.size + 1, 0, none⟩) (by simp; omega)).trans (frozen_of_row w9 _ 0 _ 4 N9.h6)
          have g5 : W.cell? ⟨w.heap.size, 0, none⟩ = some (.int .i64 most) := (hbW.cell (p := ⟨w.heap.size, 0, none⟩) (by simp; omega)).trans (cell_of_row w9 _ 0 _ 3 (0, 0) N9.h5)
          have hzW : w8.heap.size + 1 < W.heap.size := World.block_lt_of_cell? W _ cs
          have hole := off_le b pre.length
          have hoff : off b (pre.length + 1) = off b pre.length + (nextOf (b.drop (off b pre.length))).2.1 := rfl
          have hnle := next_le (b.drop (off b pre.length))
          have hge := next_ge (b.drop (off b pre.length)) hx2
          rw [List.length_drop] at hnle
          generalize off b pre.length = t at ca hole hoff hnle hge hx2 hxr h4 ⊢
          have hti : (t : Int) ≤ (b.length : Int) := by omega
          have hct : ¬ c4 = t := by omega
          have hnx := next_cut 15 refNext_o b A4 c4 t W (hrd9.below hbW).rd (by omega) hcap hole (Option.map (fun x => x.add t) A4) (.inl rfl)
          generalize nextOf (b.drop t) = nx at hoff hnle hge hx2 hxr hnx ⊢
          obtain ⟨bd, m, ok⟩ := nx
          dsimp only at hoff hnle hge hx2 hxr hnx ⊢
          have hmi : ¬ (m : Int) = 0 := by omega
          have HO := Lib.hid hoff
          have HBW := Lib.hid hbW
          clear hoff hbW
          gi_wp2_with (refine ⟨trivial, ?_⟩; gi_at_call 15; refine (CallsIn.inRound _ (callsIn_wide.2 hnx)).mono ?_; refine Stop.out ?_)
          refine Stop.mk ?_
          first | rintro e w11 B2 d2 rfl hd2 ho2 hb2 | rintro e w11 ⟨B2, d2, rfl, hd2, ho2, hb2⟩
          clear hnx
          have s1 := run_str (P := Try.prog) w11 (hxr.below hb2) 22 9 5 Try.underlying22 Try.underlying5 Try.underlying9 bd.length cx rfl
          have s2 := run_str (P := Try.prog) w11 (Rd.own ho2) 22 9 5 Try.underlying22 Try.underlying5 Try.underlying9 bd.length d2 rfl
          unfold str at s1 s2
          have ca' := (hb2.cell (p := ⟨w8.heap.size, 0, none⟩) (by simp; omega)).trans ca
          have fa' := (hb2.frozen (p := ⟨w8.heap.size, 0, none⟩) (by simp; omega)).trans fa
          have cs' := (hb2.cell (p := ⟨w8.heap.size + 1, 0, none⟩) hzW).trans cs
          have fs' := (hb2.frozen (p := ⟨w8.heap.size + 1, 0, none⟩) hzW).trans fs
          have g7' := (hb2.cell (p := ⟨w1.heap.size, 0, none⟩) (by simp; omega)).trans g7
          have g6' := (hb2.cell (p := ⟨w.heap.size + 1, 0, none⟩) (by simp; omega)).trans g6
          have f6' := (hb2.frozen (p := ⟨w.heap.size + 1, 0, none⟩) (by simp; omega)).trans f6
          have g5' := (hb2.cell (p := ⟨w.heap.size, 0, none⟩) (by simp; omega)).trans g5
          have hpl : (pre.length : Int) ≤ 100000000 := by omega
          clear ca fa cs fs g8 g7 g6 f6 g5
          have hkO : KeepsOthers W w11 := KeepsOthers.of_grownBy (grown_of_below (g := none) hb2) (by simp)
          have hwB : Below w.heap.size w w11 := (N9.below.trans (HBW.out.mono (by omega))).trans (hb2.mono (by omega))
          have hlen : (pre ++ [((t : Int), Value.slice Ax bd.length cx)]).length = pre.length + 1 := by simp
          by_cases hmo : (pre.length : Int) + 1 = most
          · gi_wp2
            have u1 := (World.cell?_setCell_other (w := w11) (a := ⟨w8.heap.size, 0, none⟩) (v := .int .i64 ((t : Int) + (m : Int))) (b := ⟨w.heap.size + 1, 0, none⟩) (fun e => by injection e with e _; omega)).trans g6'
            have u2 := (World.cell?_setCell_other (w := w11.setCell ⟨w8.heap.size, 0, none⟩ (.int .i64 ((t : Int) + (m : Int)))) (a := ⟨w8.heap.size + 1, 0, none⟩) (v := .int .i64 ((pre.length : Int) + 1)) (b := ⟨w.heap.size + 1, 0, none⟩) (fun e => by injection e with e _; omega)).trans u1
            refine ⟨((hkO.trans (KeepsOthers.setCell _ _ _)).trans (KeepsOthers.setCell _ _ _)).trans (KeepsOthers.setCell _ _ _), ?_, ?_⟩
            · first | exact World.cell?_setCell_same _ _ _ u2 | (rw [← hmo]; exact World.cell?_setCell_same _ _ _ u2) | (rw [hmo] at u2; exact World.cell?_setCell_same _ _ _ u2)
            · exact ((hwB.setCell (p := ⟨w8.heap.size, 0, none⟩) (by simp; omega) _).setCell (p := ⟨w8.heap.size + 1, 0, none⟩) (by simp; omega) _).setCell (p := ⟨w.heap.size + 1, 0, none⟩) (by simp) _
          · gi_wp2
            have hkk : Below w8.heap.size W w11 := hb2.mono (by omega)
            have hkk2 := (hkk.setCell (p := ⟨w8.heap.size, 0, none⟩) (Nat.le_refl _) (.int .i64 ((t : Int) + (m : Int)))).setCell (p := ⟨w8.heap.size + 1, 0, none⟩) (by simp) (.int .i64 ((pre.length : Int) + 1))
            have u1 := (World.cell?_setCell_other (w := w11) (a := ⟨w8.heap.size, 0, none⟩) (v := .int .i64 ((t : Int) + (m : Int))) (b := ⟨w8.heap.size + 1, 0, none⟩) (fun e => by injection e with e _; omega)).trans cs'
            refine ⟨(hkO.trans (KeepsOthers.setCell _ _ _)).trans (KeepsOthers.setCell _ _ _), hkk2, ⟨?_, ⟨?_, ?_⟩, ?_, ?_⟩, HBW.out.trans hkk2⟩
            · rw [hlen, HO.out]; omega
            · rw [hlen, HO.out]
              refine (World.cell?_setCell_other _ _ _ _ (fun e => by injection e with e _; omega)).trans ((World.cell?_setCell_same _ _ _ ca').trans ?_)
              simp
            · rw [World.frozen?_setCell, World.frozen?_setCell]; exact fa'
            · rw [hlen]
              refine (World.cell?_setCell_same _ _ _ u1).trans ?_
              simp
            · rw [World.frozen?_setCell, World.frozen?_setCell]; exact fs'
        case done_2 =>
          rintro D ys W hD hys ⟨⟨h4, ⟨ca, fa⟩, cs, fs⟩, hbW⟩ hK
          have g8 : W.cell? ⟨w1.heap.size + 1, 0, none⟩ = some (.slice A4 b.length c4) := (hbW.cell (p := ⟨w1.heap.size + 1, 0, none⟩) hB8).trans (cell_of_row w9 _ 0 _ 22 (0, 0) N9.h8)
          have g7 : W.cell? ⟨w1.heap.size, 0, none⟩ = some (.bool true) := (hbW.cell (p := ⟨w1.heap.size, 0, none⟩) (by simp; omega)).trans (cell_of_row w9 _ 0 _ 4 (0, 0) N9.h7)
          have g6 : W.cell? ⟨w.heap.size + 1, 0, none⟩ = some (.bool false) := (hbW.cell (p := ⟨w.heap.size + 1, 0, none⟩) (by simp; omega)).trans (cell_of_row w9 _ 0 _ 4 (0, 0) N9.h6)
          have f6 : W.frozen? ⟨w.heap.size + 1, 0, none⟩ = false := (hbW.frozen (p := ⟨w.heap.size + 1, 0, none⟩) (by simp; omega)).trans (frozen_of_row w9 _ 0 _ 4 N9.h6)
          have hzW : w8.heap.size + 1 < W.heap.size := World.block_lt_of_cell? W _ cs
          have hDW : D < W.heap.size := (Array.getElem?_eq_some_iff.1 hK).1
          have hole := off_le b ys.length
          have hnx := fun A' hA' => next_cut 15 refNext_o b A4 c4 (off b ys.length) W (hrd9.below hbW).rd (by omega) hcap hole A' hA'
          generalize off b ys.length = t at ca hole hys hnx
          have hti : (t : Int) ≤ (b.length : Int) := by omega
          generalize nextOf (b.drop t) = nx at hys hnx
          obtain ⟨bd, m, ok⟩ := nx
          dsimp only at hys hnx
          subst hys
          have hfin : ∀ w11 : World, Below W.heap.size W w11 → (w11.cell? ⟨w.heap.size + 1, 0, none⟩ = some (.bool false) ∧ w11.frozen? ⟨w.heap.size + 1, 0, none⟩ = false ∧ w11.cell? ⟨w1.heap.size, 0, none⟩ = some (.bool true)) ∧
              (w11.setCell ⟨w.heap.size + 1, 0, none⟩ (.bool true)).heap[D]? = some (.deferred (some [])) ∧
              ((w11.setCell ⟨w.heap.size + 1, 0, none⟩ (.bool true)).putObj D (.deferred none)).cell? ⟨w.heap.size + 1, 0, none⟩ = some (.bool true) ∧
              Below w.heap.size w ((w11.setCell ⟨w.heap.size + 1, 0, none⟩ (.bool true)).putObj D (.deferred none)) := fun w11 hb2 => by
            have g6' := (hb2.cell (p := ⟨w.heap.size + 1, 0, none⟩) (by simp; omega)).trans g6
            have hd1 : (w11.setCell ⟨w.heap.size + 1, 0, none⟩ (.bool true)).heap[D]? = some (.deferred (some [])) := (heap_setCell_other w11 _ _ _ (by simp; omega)).trans ((hb2.block D hDW).trans hK)
            have hwB : Below w.heap.size w w11 := (N9.below.trans (hbW.mono (by omega))).trans (hb2.mono (by omega))
            refine ⟨⟨g6', (hb2.frozen (p := ⟨w.heap.size + 1, 0, none⟩) (by simp; omega)).trans f6, (hb2.cell (p := ⟨w1.heap.size, 0, none⟩) (by simp; omega)).trans g7⟩, hd1, ?_, ?_⟩
            · exact cell_kept (World.cell?_setCell_same _ _ _ g6') (grownBy_putObj' _ D _) (fun r e => by cases e; exact ⟨_, hd1, rfl⟩)
            · refine (hwB.setCell (p := ⟨w.heap.size + 1, 0, none⟩) (by simp) (.bool true)).grown (grownBy_putObj' _ D _) ?_ (fun k e => by cases e; omega)
              simp
              exact hwB.size
          have HF := Lib.hid hfin
          clear hfin g6 f6 cs fs fa
          by_cases hce : c4 = t
          · obtain rfl : t = b.length := by omega
            have hny := hnx A4 (.inr hce.symm)
            clear hnx
            subst hce
            rw [Nat.sub_self] at hny
            go_wp2_with fail
            refine hny.mono ?_
            rintro e w11 ⟨B2, d2, rfl, hd2, ho2, hb2⟩
            obtain ⟨⟨q6, qf, q7⟩, hd1, hc1, hbE⟩ := HF.out w11 hb2
            clear g8 g7 ca hny
            go_wp2_with fail
            refine ⟨by simp, .inl ⟨_, _, rfl, run_takeDeferred hd1, ?_⟩⟩
            exact ⟨_, results_cell1 rfl _ _ _ _ _ rfl (load_bool hc1), rfl, hbE⟩
          · have hny := hnx (Option.map (fun x => x.add t) A4) (.inl rfl)
            clear hnx
            go_wp2_with fail
            refine hny.mono ?_
            rintro e w11 ⟨B2, d2, rfl, hd2, ho2, hb2⟩
            obtain ⟨⟨q6, qf, q7⟩, hd1, hc1, hbE⟩ := HF.out w11 hb2
            clear g8 g7 ca hny
            go_wp2_with fail
            refine ⟨by simp, .inl ⟨_, _, rfl, run_takeDeferred hd1, ?_⟩⟩
            exact ⟨_, results_cell1 rfl _ _ _ _ _ rfl (load_bool hc1), rfl, hbE⟩
        case stop_2 =>
          rintro D pre W hD ⟨hc6, hbW⟩ hK
          refine wpIn_wide.2 ?_
          go_wp2_with fail
          refine ⟨by simp, .inl ⟨_, _, rfl, run_takeDeferred hK, ?_⟩⟩
          exact ⟨_, results_cell1 rfl _ _ _ _ _ rfl (load_bool (cell_kept hc6 (grownBy_putObj' _ D _) (fun r e => by cases e; exact ⟨_, hK, rfl⟩))), rfl, hbW.grown (grownBy_putObj' _ D _) hbW.size (fun k e => by cases e; have := N9.below.size; omega)⟩
end Go.Proofs.Ytekblnaogncplaa
