/- The reference: a reply. -/
import Derived.Test.YtekblnaogncplaaJ
import Derived.Test.YtekblnaogncplaaL
import Derived.Test.YtekblnaogncplaaCd
set_option linter.unusedVariables false
set_option linter.unusedSimpArgs false
namespace Go.Proofs.Ytekblnaogncplaa
open Go.RowKit

/-- What stands while a reply is encoded. -/
structure RefRAt (w wk : World) (x : ReplyD) (p : ReplyP) : Prop where
  blk : wk.heap[w.heap.size]? = some (.cells (replyCells x p) 48 (0, 0))
  args : ReplyU wk w.heap.size x p
  below : Below (w.heap.size + 1) (w.alloc (.cells (replyCells x p) 48)) wk
theorem RefRAt.begin_ {w : World} {x : ReplyD} {p : ReplyP} (hx : ReplyU w w.heap.size x p) : RefRAt w (w.alloc (.cells (replyCells x p) 48)) x p :=
  ⟨heap_alloc_new w _, hx.below (below_alloc w _), by simpa using Below.refl _ _⟩
theorem RefRAt.next {w wk w' : World} {x : ReplyD} {p : ReplyP} (h : RefRAt w wk x p) (hb : Below (w.heap.size + 1) wk w') : RefRAt w w' x p :=
  ⟨(hb.block _ (Nat.lt_succ_self _)).trans h.blk, h.args.below (hb.mono (Nat.le_succ _)), h.below.trans hb⟩
theorem RefRAt.cell {w wk : World} {x : ReplyD} {p : ReplyP} (h : RefRAt w wk x p) (j : Nat) : wk.cell? ⟨w.heap.size, j, none⟩ = (replyCells x p)[j]? := cell_of_row wk _ j _ 48 (0, 0) h.blk
theorem RefRAt.out {w wk : World} {x : ReplyD} {p : ReplyP} (h : RefRAt w wk x p) : Below w.heap.size w wk := (below_alloc w _).trans (h.below.mono (Nat.le_succ _))
theorem ints4_at (a b c d : Int) : ∀ (k : Nat) (h : k < 4) (m : Int), [a, b, c, d][k]'h = m → (#[Value.int .i64 a, .int .i64 b, .int .i64 c, .int .i64 d])[k]? = some (.int .i64 m)
  | 0, _, m, h => by subst h; rfl
  | 1, _, m, h => by subst h; rfl
  | 2, _, m, h => by subst h; rfl
  | 3, _, m, h => by subst h; rfl
theorem oattrs_lenR {L : List AttrD} {l : List UInt8} (h : oattrs (some []) L = some l) : l.length ≤ 1048833 := oattrs_len h
theorem own_not {w : World} {base n k g : Nat} {e t : TypeId} {v : Value} {xs : List Value} {cs : Array Value} {fr : Nat × Nat} (h : w.ownsRow base e k v n xs) (hg : w.heap[g]? = some (.cells cs t fr)) (ht : t ≠ e) : some g ≠ v.ownBlock := by
  rcases own_ne (cs' := []) (t := t) h (g := g) (fun cs' fr' e' => by rw [hg] at e'; injection e' with e'; injection e' with _ e2 _; exact ht e2) with h | h
  · rw [h]; simp
  · exact fun e => h e.symm

set_option maxRecDepth 100000 in
set_option maxHeartbeats 6400000 in
theorem refReply_o (x : ReplyD) (p : ReplyP) (w : World) (hx : ReplyU w w.heap.size x p) (hM : ReplyM 100000 x) :
    Calls Try.prog 19 #[.agg (replyCells x p)] w (fun e w' => Gives w w' e (encRefR x)) := by
  have A0 := RefRAt.begin_ hx
  unfold replyCells at A0 ⊢
  go_enter Try.func19, Try.ntmps19
  have l1 := hM.data
  have l2 := hM.list
  go_wp2_with fail
  have hints : Rd ((w.alloc (.cells (replyCells x p) 48)).alloc (.cells #[.int .i64 x.rv, .int .i64 x.a, .int .i64 x.b] 3)) (some ⟨w.heap.size + 1, 0, none⟩) (ints [x.rv, x.a, x.b]) := by
    simpa [ints] using Rd.lit (w.alloc (.cells (replyCells x p) 48)) #[.int .i64 x.rv, .int .i64 x.a, .int .i64 x.b] 3
  have A1 := A0.next (w' := (w.alloc (.cells (replyCells x p) 48)).alloc (.cells #[.int .i64 x.rv, .int .i64 x.a, .int .i64 x.b] 3)) ((Below.refl _ _).alloc (by simp) _)
  clear A0
  refine (fits_o [x.rv, x.a, x.b] _ 3 _ hints (by simp)).mono ?_
  rintro e w1 ⟨rfl, hw1⟩
  unfold replyCells at A1 hw1
  rw [hw1] at A1
  rw [← hw1]
  rw [hw1]
  clear hw1 hints
  have g3 : w1.cell? ⟨w.heap.size, 3, none⟩ = some (.slice p.d x.data.length p.dc) := A1.cell 3
  have g4 : w1.cell? ⟨w.heap.size, 4, none⟩ = some (.slice p.l x.list.length p.lc) := A1.cell 4
  have g5 : w1.cell? ⟨w.heap.size, 5, none⟩ = some (.slice p.t x.attrs.length p.tc) := A1.cell 5
  cases hfit : [x.rv, x.a, x.b].all fit with
  | false =>
    have hno : encRefR x = none := by unfold encRefR refOkR; rw [hfit]; rw [if_neg (by simp)]
    go_wp2_with fail
    go_ret2
    rw [hno]
    exact ⟨none, 0, rfl, Nat.le_refl _, World.ownsRow_nil _ _ _ _, A1.out⟩
  | true =>
    have hfit' := hfit
    clear hfit
    by_cases c1 : 65536 < x.data.length
    · have c1' : (65536 : Int) < (x.data.length : Int) := by omega
      have hno : encRefR x = none := by unfold encRefR refOkR; rw [hfit']; rw [if_neg (by simp; omega)]
      clear hfit' c1
      go_wp2_with fail
      go_ret2
      rw [hno]
      exact ⟨none, 0, rfl, Nat.le_refl _, World.ownsRow_nil _ _ _ _, A1.out⟩
    · have c1' : (x.data.length : Int) ≤ 65536 := by omega
      by_cases c2 : 1024 < x.list.length
      · have c2' : (1024 : Int) < (x.list.length : Int) := by omega
        have hno : encRefR x = none := by unfold encRefR refOkR; rw [hfit']; rw [if_neg (by simp; omega)]
        clear hfit' c1 c2
        go_wp2_with fail
        go_ret2
        rw [hno]
        exact ⟨none, 0, rfl, Nat.le_refl _, World.ownsRow_nil _ _ _ _, A1.out⟩
      · have c2' : (x.list.length : Int) ≤ 1024 := by omega
        have hli := A1.args.list
        go_wp2_with fail
        refine (fits_o x.list p.l p.lc w1 hli.rd (by omega)).mono ?_
        rintro e w1' ⟨rfl, rfl⟩
        cases hfl : x.list.all fit with
        | false =>
          have hno : encRefR x = none := by unfold encRefR refOkR; rw [hfl]; rw [if_neg (by simp)]
          clear hfit' c1 c2
          go_wp2_with fail
          go_ret2
          rw [hno]
          exact ⟨none, 0, rfl, Nat.le_refl _, World.ownsRow_nil _ _ _ _, A1.out⟩
        | true =>
          have hok : refOkR x = true := by unfold refOkR; rw [hfit', hfl]; simp; omega
          have HK := Lib.hid hok
          have HF1 := Lib.hid hfit'
          have HF2 := Lib.hid hfl
          clear hok hfit' hfl c1 c2 hli
          go_wp2_with fail
          clear g3 g4 g5
          refine (rattrsW_o x.attrs p.t p.tc w1 (A1.args.attrs.more A1.out.size) (by have := hM.attrs; omega) (fun a ha => Nat.le_trans (hM.v a ha) (by omega))).mono ?_
          intro e w2 hG
          obtain ⟨Aa, ca, rfl, hca, hoa, hba⟩ := hG
          have hs1 : w.heap.size + 1 ≤ w1.heap.size := by have := A1.below.size; simpa using this
          have A2 := A1.next (hba.mono hs1)
          clear A1 hba
          generalize hr1 : oattrs (some []) x.attrs = r1 at hca hoa ⊢
          have HR1 := Lib.hid hr1
          clear hr1
          cases r1 with
          | none =>
            have hno : encRefR x = none := by unfold encRefR; rw [HK.out, HR1.out]; rfl
            go_wp2_with fail
            go_ret2
            rw [hno]
            exact ⟨none, 0, rfl, Nat.le_refl _, World.ownsRow_nil _ _ _ _, A2.out⟩
          | some t =>
            have hyes : encRefR x = oframe (some (refBodyR x t)) := by unfold encRefR; rw [HK.out, HR1.out]; rfl
            have q0 : w2.cell? ⟨w.heap.size, 0, none⟩ = some (.int .i64 x.rv) := A2.cell 0
            have q1 : w2.cell? ⟨w.heap.size, 1, none⟩ = some (.int .i64 x.a) := A2.cell 1
            have q2 : w2.cell? ⟨w.heap.size, 2, none⟩ = some (.int .i64 x.b) := A2.cell 2
            have q3 : w2.cell? ⟨w.heap.size, 3, none⟩ = some (.slice p.d x.data.length p.dc) := A2.cell 3
            have hs2 : w.heap.size < w2.heap.size := by have := A2.below.size; simp at this; omega
            have ra := (Rd.own hoa).rdU
            simp only [Option.getD_some] at ra
            have hb3 := below_alloc w2 (.cells #[.int .i64 x.rv, .int .i64 x.a, .int .i64 x.b, .int .i64 (x.data.length : Int)] 3)
            have hP3 : (w2.alloc (.cells #[.int .i64 x.rv, .int .i64 x.a, .int .i64 x.b, .int .i64 (x.data.length : Int)] 3)).heap[w2.heap.size]? = some (.cells #[.int .i64 x.rv, .int .i64 x.a, .int .i64 x.b, .int .i64 (x.data.length : Int)] 3 (0, 0)) := heap_alloc_new w2 _
            clear hca hoa
            go_wp2_with fail
            clear q0 q1 q2 q3
            go_loopw [6, 8] (fun v i wr => ∃ k : Nat, k ≤ 4 ∧ i = .int .i64 k ∧ ∃ A c l, v = .slice A l.length c ∧ l = addInts [] ([x.rv, x.a, x.b, (x.data.length : Int)].take k) ∧ l.length ≤ k * 4 ∧
                wr.ownsRow w2.heap.size 5 1 (.slice A l.length c) l.length (bvs l) ∧ Below w2.heap.size w2 wr ∧
                wr.heap[w2.heap.size]? = some (.cells #[.int .i64 x.rv, .int .i64 x.a, .int .i64 x.b, .int .i64 (x.data.length : Int)] 3 (0, 0))) (fun _ i _ => 4 - (intOf i).toNat)
            case atStart => exact ⟨0, by omega, rfl, none, 0, [], rfl, rfl, by simp, World.ownsRow_nil _ _ _ _, hb3, hP3⟩
            case round =>
              obtain ⟨k, hk, rfl, A, c, l, rfl, hle, hlen, ho, hb, hP⟩ := hrel
              clear hb3 hP3
              by_cases hlt : k < 4
              · have hint : ∀ n ∈ [x.rv, x.a, x.b, (x.data.length : Int)], 0 ≤ n ∧ n ≤ 2147483647 := fun n hn => by
                  have h1 := List.all_eq_true.1 HF1.out
                  simp only [List.mem_cons, List.not_mem_nil, or_false] at hn
                  rcases hn with rfl | rfl | rfl | rfl
                  · exact (fit_iff _).1 (h1 _ (by simp))
                  · exact (fit_iff _).1 (h1 _ (by simp))
                  · exact (fit_iff _).1 (h1 _ (by simp))
                  · omega
                have hlt' : k < [x.rv, x.a, x.b, (x.data.length : Int)].length := hlt
                obtain ⟨m, hm⟩ : ∃ m, [x.rv, x.a, x.b, (x.data.length : Int)][k] = m := ⟨_, rfl⟩
                have hmi := hint m (by rw [← hm]; exact List.getElem_mem hlt')
                have hck : wr.cell? ⟨w2.heap.size, k, none⟩ = some (.int .i64 m) := by
                  rw [cell_of_row wr _ k _ 3 (0, 0) hP]
                  exact ints4_at _ _ _ _ k hlt m hm
                have hti : ((m.toNat : Nat) : Int) = m := Int.toNat_of_nonneg hmi.1
                have hnext : l ++ be m.toNat 4 = addInts [] ([x.rv, x.a, x.b, (x.data.length : Int)].take (k + 1)) := by
                  rw [List.take_succ_eq_append_getElem hlt']
                  unfold addInts at hle ⊢
                  rw [List.foldl_append, ← hle, hm]; rfl
                have HN := Lib.hid hnext
                have HE := Lib.hid hle
                clear hnext hle hint hm
                go_wp2_with fail
                rw [← hti]
                refine (num_o m.toNat 4 (.inr rfl) (by omega) wr).mono ?_
                rintro e w5 ⟨A5, rfl, ho5, hb5⟩
                rw [hti]
                have hbn := hb.trans (hb5.mono hb.size)
                have hon := own_below ho hb5
                have hPn := (hb5.block _ (Array.getElem?_eq_some_iff.1 hP).1).trans hP
                clear ho hb hP hck
                go_wp2_with (at_builtin; refine Stop.out ?_)
                refine Stop.mk ?_
                refine wpList_app _ rfl (.tmp 66) (.tmp 67) 22 rfl 5 (.int .u8 0) 1 1 w2.heap.size Try.underlying22 info5 rfl (by omega) (.slice A l.length c) l.length (bvs l) rfl hon A5 4 4 (bvs (be m.toNat 4)) rfl (by simp [bvs_length, be_length]) (Rd.own ho5) (bvs_one _) (by omega) (by omega) hbn.size ?_
                intro A6 c6 w6 ho6 hg6 hat6
                have hb6 := hbn.grown hg6 hbn.size (fun k hk => (hon.lt k hk).1)
                have hP6 := (hg6.block w2.heap.size (Array.getElem?_eq_some_iff.1 hPn).1 (own_not hon hPn (by decide))).trans hPn
                clear hg6 hat6 hbn hon hPn ho5 hb5
                rw [← bvs_append] at ho6
                go_wp2_with fail
                go_roundw
                case rel =>
                  have e6 : (l ++ be m.toNat 4).length = l.length + 4 := by simp [be_length]
                  refine ⟨k + 1, hlt, by go_num, A6, c6, l ++ be m.toNat 4, by rw [e6], HN.out, by rw [e6]; omega, by rw [e6]; exact ho6, hb6, hP6⟩
                case measure => simp [intOf]; omega
              · obtain rfl : k = 4 := by omega
                have hle' : l = addInts [] [x.rv, x.a, x.b, (x.data.length : Int)] := hle
                have HL1 := Lib.hid hle'
                clear hle hle' hP
                have g1 : wr.cell? ⟨w.heap.size, 3, none⟩ = some (.slice p.d x.data.length p.dc) := (hb.cell (p := ⟨w.heap.size, 3, none⟩) hs2).trans (A2.cell 3)
                have rd := (A2.args.data.below (hb.mono (Nat.le_of_lt hs2))).rd
                go_wp2_with (at_builtin; refine Stop.out ?_)
                refine Stop.mk ?_
                refine wpList_app _ rfl (.tmp 69) (.tmp 71) 22 rfl 5 (.int .u8 0) 1 1 w2.heap.size Try.underlying22 info5 rfl (by omega) (.slice A l.length c) l.length (bvs l) rfl ho p.d x.data.length p.dc (bvs x.data) rfl (by simp [bvs_length]) rd (bvs_one _) (by omega) (by omega) hb.size ?_
                intro A7 c7 w7 ho7 hg7 hat7
                have hb7 := hb.grown hg7 hb.size (fun k hk => (ho.lt k hk).1)
                rw [← bvs_append] at ho7
                clear hg7 hat7 ho g1 rd
                have g1 : w7.cell? ⟨w.heap.size, 4, none⟩ = some (.slice p.l x.list.length p.lc) := (hb7.cell (p := ⟨w.heap.size, 4, none⟩) hs2).trans (A2.cell 4)
                have hlq : (l ++ x.data).length = l.length + x.data.length := by simp
                rw [← hlq] at ho7 ⊢
                generalize hq : l ++ x.data = q at ho7 hlq ⊢
                have HQ := Lib.hid hq
                have HLQ := Lib.hid hlq
                have hql : q.length ≤ 200000 := by omega
                clear hq hlq hb
                go_wp2_with fail
                refine (num_o x.list.length 2 (.inl rfl) (by omega) w7).mono ?_
                rintro e w8 ⟨A8, rfl, ho8, hb8⟩
                have hbv8 := hb7.trans (hb8.mono hb7.size)
                have hov8 := own_below ho7 hb8
                clear ho7 hb7 g1
                go_wp2_with (at_builtin; refine Stop.out ?_)
                refine Stop.mk ?_
                refine wpList_app _ rfl (.tmp 77) (.tmp 78) 22 rfl 5 (.int .u8 0) 1 1 w2.heap.size Try.underlying22 info5 rfl (by omega) (.slice A7 q.length c7) q.length (bvs q) rfl hov8 A8 2 2 (bvs (be x.list.length 2)) rfl (by simp [bvs_length, be_length]) (Rd.own ho8) (bvs_one _) (by omega) (by omega) hbv8.size ?_
                intro A9 c9 w9 ho9 hg9 hat9
                have hb9 := hbv8.grown hg9 hbv8.size (fun k hk => (hov8.lt k hk).1)
                rw [← bvs_append] at ho9
                have hlq2 : (q ++ be x.list.length 2).length = q.length + 2 := by simp [be_length]
                rw [← hlq2] at ho9 ⊢
                generalize hq2 : q ++ be x.list.length 2 = q2 at ho9 hlq2 ⊢
                have HQ2 := Lib.hid hq2
                have hql2 : q2.length ≤ 200002 := by omega
                clear hq2 hlq2 hov8 hbv8 hg9 hat9 ho8 hb8
                go_wp2_with fail
                go_loopw [6, 11] (fun v i wr => ∃ k : Nat, k ≤ x.list.length ∧ i = .int .i64 k ∧ ∃ A c l, v = .slice A l.length c ∧ l = addInts q2 (x.list.take k) ∧ l.length ≤ q2.length + k * 4 ∧
                    wr.ownsRow w2.heap.size 5 1 (.slice A l.length c) l.length (bvs l) ∧ Below w2.heap.size w2 wr) (fun _ i _ => x.list.length - (intOf i).toNat)
                case atStart => exact ⟨0, by omega, rfl, A9, c9, q2, rfl, rfl, by omega, ho9, hb9⟩
                case round =>
                  clear hb9 ho9
                  obtain ⟨k, hk, rfl, A, c, l', rfl, hle, hlen', ho, hb⟩ := hrel
                  have g4 : wr.cell? ⟨w.heap.size, 4, none⟩ = some (.slice p.l x.list.length p.lc) := (hb.cell (p := ⟨w.heap.size, 4, none⟩) hs2).trans (A2.cell 4)
                  by_cases hlt : k < x.list.length
                  · obtain ⟨gl, ol, hpl, hgl, hcl⟩ := (A2.args.list.below (hb.mono (Nat.le_of_lt hs2))).at_ (j := k) (by simpa [ints] using hlt)
                    obtain ⟨m, hm⟩ : ∃ m, x.list[k] = m := ⟨_, rfl⟩
                    have hmi := (fit_iff m).1 (List.all_eq_true.1 HF2.out m (by rw [← hm]; exact List.getElem_mem hlt))
                    have hck : wr.cell? ⟨gl, ol + k, none⟩ = some (.int .i64 m) := by rw [← hm]; simpa [ints] using hcl
                    have hti : ((m.toNat : Nat) : Int) = m := Int.toNat_of_nonneg hmi.1
                    have hnext : l' ++ be m.toNat 4 = addInts q2 (x.list.take (k + 1)) := by
                      rw [List.take_succ_eq_append_getElem hlt]
                      unfold addInts at hle ⊢
                      rw [List.foldl_append, ← hle, hm]; rfl
                    have HN := Lib.hid hnext
                    have HE := Lib.hid hle
                    rw [hpl] at g4
                    clear hnext hle hm hcl hpl
                    go_wp2_with fail
                    rw [← hti]
                    refine (num_o m.toNat 4 (.inr rfl) (by omega) wr).mono ?_
                    rintro e w5 ⟨A5, rfl, ho5, hb5⟩
                    rw [hti]
                    have hbn := hb.trans (hb5.mono hb.size)
                    have hon := own_below ho hb5
                    clear ho hb hck g4
                    go_wp2_with (at_builtin; refine Stop.out ?_)
                    refine Stop.mk ?_
                    refine wpList_app _ rfl (.tmp 93) (.tmp 94) 22 rfl 5 (.int .u8 0) 1 1 w2.heap.size Try.underlying22 info5 rfl (by omega) (.slice A l'.length c) l'.length (bvs l') rfl hon A5 4 4 (bvs (be m.toNat 4)) rfl (by simp [bvs_length, be_length]) (Rd.own ho5) (bvs_one _) (by omega) (by omega) hbn.size ?_
                    intro A6 c6 w6 ho6 hg6 hat6
                    have hb6 := hbn.grown hg6 hbn.size (fun k hk => (hon.lt k hk).1)
                    clear hg6 hat6 hbn hon ho5 hb5
                    rw [← bvs_append] at ho6
                    go_wp2_with fail
                    go_roundw
                    case rel =>
                      have e6 : (l' ++ be m.toNat 4).length = l'.length + 4 := by simp [be_length]
                      refine ⟨k + 1, hlt, by go_num, A6, c6, l' ++ be m.toNat 4, by rw [e6], HN.out, by rw [e6]; omega, by rw [e6]; exact ho6, hb6⟩
                    case measure => simp [intOf]; omega
                  · obtain rfl : k = x.list.length := by omega
                    rw [List.take_length] at hle
                    have HE := Lib.hid hle
                    have ht := oattrs_lenR HR1.out
                    clear hle
                    go_wp2_with (at_builtin; refine Stop.out ?_)
                    refine Stop.mk ?_
                    refine wpList_app _ rfl (.tmp 96) (.tmp 97) 22 rfl 5 (.int .u8 0) 1 1 w2.heap.size Try.underlying22 info5 rfl (by omega) (.slice A l'.length c) l'.length (bvs l') rfl ho Aa t.length ca (bvs t) rfl (by simp [bvs_length]) (ra.below hb).rd (bvs_one _) (by omega) (by omega) hb.size ?_
                    intro A8' c8' w8' ho8 hg8 hat8
                    have hb8' := hb.grown hg8 hb.size (fun k hk => (ho.lt k hk).1)
                    rw [← bvs_append] at ho8
                    clear hg8 hat8 ho g4
                    have hfin : refBodyR x t = l' ++ t := by
                      unfold refBodyR
                      rw [← HL1.out, HQ.out, HQ2.out, ← HE.out]
                    have hl8 : (l' ++ t).length = l'.length + t.length := by simp
                    have ho9 := ho8
                    rw [← hl8] at ho9
                    have HF := Lib.hid hfin
                    clear hfin ho8
                    go_wp2_with fail
                    rw [← hl8]
                    refine (rframe_o (l' ++ t) A8' c8' w8' (Rd.own ho9) (by omega)).mono ?_
                    intro e w10 hG
                    rw [← HF.out] at hG
                    obtain ⟨A9', c9', rfl, hc9, ho10, hb10⟩ := hG.from_ (A2.out.trans (hb8'.mono (Nat.le_of_lt hs2)))
                    generalize hE : oframe (some (refBodyR x t)) = E at hc9 ho10 hG ⊢
                    have hE2 : encRefR x = E := hyes.trans hE
                    clear hE hyes
                    go_wp2
                    go_ret2
                    rw [hE2]
                    exact ⟨A9', c9', rfl, hc9, ho10, hb10⟩
end Go.Proofs.Ytekblnaogncplaa
