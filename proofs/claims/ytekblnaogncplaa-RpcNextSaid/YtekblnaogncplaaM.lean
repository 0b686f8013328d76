/- The reference: a call. -/
import Derived.Test.YtekblnaogncplaaJ
import Derived.Test.YtekblnaogncplaaL
import Derived.Test.YtekblnaogncplaaU
set_option linter.unusedVariables false
set_option linter.unusedSimpArgs false
namespace Go.Proofs.Ytekblnaogncplaa
open Go.RowKit

def refOk (x : CallD) : Bool := decide (0 ≤ x.fn) && decide (x.fn ≤ 255) && [x.session, x.a, x.b, x.n, x.kind].all fit && decide (x.param.length ≤ 65535) && decide (x.more.length ≤ 65535) && decide (x.data.length ≤ 65536)
def refHead (x : CallD) : List UInt8 := ([x.session, x.a, x.b, x.n, x.kind].take 5).foldl (fun l n => l ++ be n.toNat 4) (be x.fn.toNat 1)
def refBody (x : CallD) (a b : List UInt8) : List UInt8 :=
  refHead x ++ be x.param.length 2 ++ x.param ++ be x.data.length 4 ++ x.data ++ be x.more.length 2 ++ x.more ++ a ++ b
def encRef (x : CallD) : Option (List UInt8) :=
  if refOk x then match oattrs (some []) x.t1, oattrs (some []) x.t2 with
    | some a, some b => oframe (some (refBody x a b))
    | _, _ => none
  else none

theorem ints5_at (a b c d e : Int) : ∀ (k : Nat) (h : k < 5) (m : Int), [a, b, c, d, e][k]'h = m → (#[Value.int .i64 a, .int .i64 b, .int .i64 c, .int .i64 d, .int .i64 e])[k]? = some (.int .i64 m)
  | 0, _, m, h => by subst h; rfl
  | 1, _, m, h => by subst h; rfl
  | 2, _, m, h => by subst h; rfl
  | 3, _, m, h => by subst h; rfl
  | 4, _, m, h => by subst h; rfl
theorem foldl_len : ∀ (L : List AttrD) (o : Option (List UInt8)) (l : List UInt8), L.foldl oattr o = some l → ∃ l0, o = some l0 ∧ l.length ≤ l0.length + L.length * 16388
  | [], o, l, h => ⟨l, h, by simp⟩
  | a :: L, o, l, h => by
    obtain ⟨l1, h1, h2⟩ := foldl_len L _ l h
    cases o with
    | none => cases h1
    | some l0 =>
      rw [oattr_some] at h1
      split at h1
      · cases h1
      · injection h1 with h1
        refine ⟨l0, rfl, ?_⟩
        rw [← h1] at h2
        simp [be_length] at h2 ⊢
        omega
theorem oattrs_len {L : List AttrD} {l : List UInt8} (h : oattrs (some []) L = some l) : l.length ≤ 1048833 := by
  obtain ⟨l0, h0, h1⟩ := foldl_len L _ l h
  unfold oput at h0
  rw [Option.bind_some] at h0
  split at h0
  · cases h0
  · injection h0 with h0
    rw [← h0] at h1
    simp [be_length] at h1
    omega
theorem undrew {w w' : World} {r : Option Nat} (h : w.drew.grownBy w' r) : w.grownBy w' r := ⟨h.os, h.tape, h.output, h.size, h.block⟩
/-- What stands while a call is encoded. -/
structure RefAt (w wk : World) (x : CallD) (p : CallP) : Prop where
  blk : wk.heap[w.heap.size]? = some (.cells (callCells x p) 27 (0, 0))
  args : CallU wk w.heap.size x p
  below : Below (w.heap.size + 1) (w.alloc (.cells (callCells x p) 27)) wk
theorem RefAt.begin_ {w : World} {x : CallD} {p : CallP} (hx : CallU w w.heap.size x p) : RefAt w (w.alloc (.cells (callCells x p) 27)) x p :=
  ⟨heap_alloc_new w _, hx.below (below_alloc w _), by simpa using Below.refl _ _⟩
theorem RefAt.next {w wk w' : World} {x : CallD} {p : CallP} (h : RefAt w wk x p) (hb : Below (w.heap.size + 1) wk w') : RefAt w w' x p :=
  ⟨(hb.block _ (Nat.lt_succ_self _)).trans h.blk, h.args.below (hb.mono (Nat.le_succ _)), h.below.trans hb⟩
theorem RefAt.cell {w wk : World} {x : CallD} {p : CallP} (h : RefAt w wk x p) (j : Nat) : wk.cell? ⟨w.heap.size, j, none⟩ = (callCells x p)[j]? := cell_of_row wk _ j _ 27 (0, 0) h.blk
theorem RefAt.out {w wk : World} {x : CallD} {p : CallP} (h : RefAt w wk x p) : Below w.heap.size w wk := (below_alloc w _).trans (h.below.mono (Nat.le_succ _))

set_option maxRecDepth 100000 in
set_option maxHeartbeats 6400000 in
theorem refCall_o (x : CallD) (p : CallP) (w : World) (hx : CallU w w.heap.size x p) (hM : CallM 100000 x) :
    Calls Try.prog 10 #[.agg (callCells x p)] w (fun e w' => Gives w w' e (encRef x)) := by
  have A0 := RefAt.begin_ hx
  unfold callCells at A0 ⊢
  go_enter Try.func10, Try.ntmps10
  have l1 := hM.param
  have l2 := hM.data
  have l3 := hM.more
  by_cases h0 : x.fn < 0
  · have hno : encRef x = none := by unfold encRef refOk; rw [if_neg (by simp; omega)]
    go_wp2_with fail
    go_ret2
    rw [hno]
    exact ⟨none, 0, rfl, Nat.le_refl _, World.ownsRow_nil _ _ _ _, below_alloc _ _⟩
  · have h0' : 0 ≤ x.fn := by omega
    by_cases h1 : 255 < x.fn
    · have hno : encRef x = none := by unfold encRef refOk; rw [if_neg (by simp; omega)]
      clear h0
      go_wp2_with fail
      go_ret2
      rw [hno]
      exact ⟨none, 0, rfl, Nat.le_refl _, World.ownsRow_nil _ _ _ _, below_alloc _ _⟩
    · have h1' : x.fn ≤ 255 := by omega
      clear h0 h1
      go_wp2_with fail
      have hints : Rd ((w.alloc (.cells (callCells x p) 27)).alloc (.cells #[.int .i64 x.session, .int .i64 x.a, .int .i64 x.b, .int .i64 x.n, .int .i64 x.kind] 3)) (some ⟨w.heap.size + 1, 0, none⟩) (ints [x.session, x.a, x.b, x.n, x.kind]) := by
        simpa [ints] using Rd.lit (w.alloc (.cells (callCells x p) 27)) #[.int .i64 x.session, .int .i64 x.a, .int .i64 x.b, .int .i64 x.n, .int .i64 x.kind] 3
      have A1 := A0.next (w' := (w.alloc (.cells (callCells x p) 27)).alloc (.cells #[.int .i64 x.session, .int .i64 x.a, .int .i64 x.b, .int .i64 x.n, .int .i64 x.kind] 3)) ((Below.refl _ _).alloc (by simp) _)
      clear A0
      refine (fits_o [x.session, x.a, x.b, x.n, x.kind] _ 5 _ hints (by simp)).mono ?_
      rintro e w1 ⟨rfl, hw1⟩
      unfold callCells at A1 hw1
      rw [hw1] at A1
      rw [← hw1]
      rw [hw1]
      clear hw1 hints
      cases hfit : [x.session, x.a, x.b, x.n, x.kind].all fit with
      | false =>
        have hno : encRef x = none := by unfold encRef refOk; rw [hfit]; rw [if_neg (by simp)]
        go_wp2_with fail
        go_ret2
        rw [hno]
        exact ⟨none, 0, rfl, Nat.le_refl _, World.ownsRow_nil _ _ _ _, A1.out⟩
      | true =>
        have hfit' := hfit
        clear hfit
        by_cases c1 : 65535 < x.param.length
        · have c1' : (65535 : Int) < (x.param.length : Int) := by omega
          have hno : encRef x = none := by unfold encRef refOk; rw [hfit']; rw [if_neg (by simp; omega)]
          have g6 : w1.cell? ⟨w.heap.size, 6, none⟩ = some (.slice p.p x.param.length p.pc) := A1.cell 6
          have g7 : w1.cell? ⟨w.heap.size, 7, none⟩ = some (.slice p.d x.data.length p.dc) := A1.cell 7
          have g8 : w1.cell? ⟨w.heap.size, 8, none⟩ = some (.slice p.m x.more.length p.mc) := A1.cell 8
          have g9 : w1.cell? ⟨w.heap.size, 9, none⟩ = some (.slice p.t1 x.t1.length p.c1) := A1.cell 9
          clear hfit' c1
          go_wp2_with fail
          go_ret2
          rw [hno]
          exact ⟨none, 0, rfl, Nat.le_refl _, World.ownsRow_nil _ _ _ _, A1.out⟩
        · have c1' : (x.param.length : Int) ≤ 65535 := by omega
          by_cases c2 : 65535 < x.more.length
          · have c2' : (65535 : Int) < (x.more.length : Int) := by omega
            have hno : encRef x = none := by unfold encRef refOk; rw [hfit']; rw [if_neg (by simp; omega)]
            have g6 : w1.cell? ⟨w.heap.size, 6, none⟩ = some (.slice p.p x.param.length p.pc) := A1.cell 6
            have g7 : w1.cell? ⟨w.heap.size, 7, none⟩ = some (.slice p.d x.data.length p.dc) := A1.cell 7
            have g8 : w1.cell? ⟨w.heap.size, 8, none⟩ = some (.slice p.m x.more.length p.mc) := A1.cell 8
            have g9 : w1.cell? ⟨w.heap.size, 9, none⟩ = some (.slice p.t1 x.t1.length p.c1) := A1.cell 9
            clear hfit' c1 c2
            go_wp2_with fail
            go_ret2
            rw [hno]
            exact ⟨none, 0, rfl, Nat.le_refl _, World.ownsRow_nil _ _ _ _, A1.out⟩
          · have c2' : (x.more.length : Int) ≤ 65535 := by omega
            by_cases c3 : 65536 < x.data.length
            · have c3' : (65536 : Int) < (x.data.length : Int) := by omega
              have hno : encRef x = none := by unfold encRef refOk; rw [hfit']; rw [if_neg (by simp; omega)]
              have g6 : w1.cell? ⟨w.heap.size, 6, none⟩ = some (.slice p.p x.param.length p.pc) := A1.cell 6
              have g7 : w1.cell? ⟨w.heap.size, 7, none⟩ = some (.slice p.d x.data.length p.dc) := A1.cell 7
              have g8 : w1.cell? ⟨w.heap.size, 8, none⟩ = some (.slice p.m x.more.length p.mc) := A1.cell 8
              have g9 : w1.cell? ⟨w.heap.size, 9, none⟩ = some (.slice p.t1 x.t1.length p.c1) := A1.cell 9
              clear hfit' c1 c2 c3
              go_wp2_with fail
              go_ret2
              rw [hno]
              exact ⟨none, 0, rfl, Nat.le_refl _, World.ownsRow_nil _ _ _ _, A1.out⟩
            · have c3' : (x.data.length : Int) ≤ 65536 := by omega
              have hok : refOk x = true := by unfold refOk; rw [hfit']; simp [h0', h1']; omega
              have g6 : w1.cell? ⟨w.heap.size, 6, none⟩ = some (.slice p.p x.param.length p.pc) := A1.cell 6
              have g7 : w1.cell? ⟨w.heap.size, 7, none⟩ = some (.slice p.d x.data.length p.dc) := A1.cell 7
              have g8 : w1.cell? ⟨w.heap.size, 8, none⟩ = some (.slice p.m x.more.length p.mc) := A1.cell 8
              have g9 : w1.cell? ⟨w.heap.size, 9, none⟩ = some (.slice p.t1 x.t1.length p.c1) := A1.cell 9
              have HK := Lib.hid hok
              have hfs := Lib.hid hfit'
              clear hok hfit' c1 c2 c3
              go_wp2_with fail
              clear g6 g7 g8 g9
              refine (rattrsW_o x.t1 p.t1 p.c1 w1 (A1.args.t1.more A1.out.size) (by have := hM.t1; omega) (fun a ha => Nat.le_trans (hM.v1 a ha) (by omega))).mono ?_
              intro e w2 hG
              obtain ⟨Aa, ca, rfl, hca, hoa, hba⟩ := hG
              have hs1 : w.heap.size + 1 ≤ w1.heap.size := by have := A1.below.size; simpa using this
              have A2 := A1.next (hba.mono hs1)
              have oa2 := own_less hoa hs1
              clear A1 hba hoa
              have g10 : w2.cell? ⟨w.heap.size, 10, none⟩ = some (.slice p.t2 x.t2.length p.c2) := A2.cell 10
              generalize hr1 : oattrs (some []) x.t1 = r1 at hca oa2 ⊢
              have HR1 := Lib.hid hr1
              clear hr1
              go_wp2_with fail
              clear g10
              refine (rattrsW_o x.t2 p.t2 p.c2 w2 (A2.args.t2.more A2.out.size) (by have := hM.t2; omega) (fun a ha => Nat.le_trans (hM.v2 a ha) (by omega))).mono ?_
              intro e w3 hG
              obtain ⟨Ab, cb, rfl, hcb, hob, hbb⟩ := hG
              have hs2 : w.heap.size + 1 ≤ w2.heap.size := by have := A2.below.size; simpa using this
              have A3 := A2.next (hbb.mono hs2)
              have ob3 := own_less hob hs2
              have oa3 := own_below oa2 hbb
              clear A2 hbb hob oa2
              generalize hr2 : oattrs (some []) x.t2 = r2 at hcb ob3 ⊢
              have HR2 := Lib.hid hr2
              clear hr2
              cases r1 with
              | none =>
                have hno : encRef x = none := by unfold encRef; rw [HK.out, HR1.out]; rfl
                go_wp2_with fail
                go_ret2
                rw [hno]
                exact ⟨none, 0, rfl, Nat.le_refl _, World.ownsRow_nil _ _ _ _, A3.out⟩
              | some a =>
                cases r2 with
                | none =>
                  have hno : encRef x = none := by unfold encRef; rw [HK.out, HR1.out, HR2.out]; rfl
                  go_wp2_with fail
                  go_ret2
                  rw [hno]
                  exact ⟨none, 0, rfl, Nat.le_refl _, World.ownsRow_nil _ _ _ _, A3.out⟩
                | some b =>
                  have hyes : encRef x = oframe (some (refBody x a b)) := by unfold encRef; rw [HK.out, HR1.out, HR2.out]; rfl
                  have q0 : w3.cell? ⟨w.heap.size, 0, none⟩ = some (.int .i64 x.fn) := A3.cell 0
                  have q1 : w3.cell? ⟨w.heap.size, 1, none⟩ = some (.int .i64 x.session) := A3.cell 1
                  have q2 : w3.cell? ⟨w.heap.size, 2, none⟩ = some (.int .i64 x.a) := A3.cell 2
                  have q3 : w3.cell? ⟨w.heap.size, 3, none⟩ = some (.int .i64 x.b) := A3.cell 3
                  have q4 : w3.cell? ⟨w.heap.size, 4, none⟩ = some (.int .i64 x.n) := A3.cell 4
                  have q5 : w3.cell? ⟨w.heap.size, 5, none⟩ = some (.int .i64 x.kind) := A3.cell 5
                  have hs3 : w.heap.size < w3.heap.size := by have := A3.below.size; simp at this; omega
                  have hwr : (x.fn.toNat : Int) = x.fn := Int.toNat_of_nonneg h0'
                  clear hca hcb
                  have ra := (Rd.own oa3).rdU
                  have rb := (Rd.own ob3).rdU
                  simp only [Option.getD_some] at ra rb
                  have la := (own_cap oa3).2.2
                  have lb := (own_cap ob3).2.2
                  clear oa3 ob3
                  have hb4 := below_alloc w3 (.cells #[.int .u8 x.fn] 5)
                  have hb5 := hb4.alloc (by simp) (.cells #[.int .i64 x.session, .int .i64 x.a, .int .i64 x.b, .int .i64 x.n, .int .i64 x.kind] 3)
                  have o4 : (w3.alloc (.cells #[.int .u8 x.fn] 5)).ownsRow w3.heap.size 5 1 (.slice (some ⟨w3.heap.size, 0, none⟩) 1 1) 1 (bvs (be x.fn.toNat 1)) := by
                    have e1 : bvs (be x.fn.toNat 1) = [.int .u8 x.fn] := by simp [be, bvs, bv]; omega
                    rw [e1]
                    exact World.ownsRow_lit w3 #[.int .u8 x.fn] 1 (Nat.le_refl _) (by simp [maxLen]) rfl
                  have o5 := own_below o4 (below_alloc _ (.cells #[.int .i64 x.session, .int .i64 x.a, .int .i64 x.b, .int .i64 x.n, .int .i64 x.kind] 3))
                  have hP : ((w3.alloc (.cells #[.int .u8 x.fn] 5)).alloc (.cells #[.int .i64 x.session, .int .i64 x.a, .int .i64 x.b, .int .i64 x.n, .int .i64 x.kind] 3)).heap[w3.heap.size + 1]? = some (.cells #[.int .i64 x.session, .int .i64 x.a, .int .i64 x.b, .int .i64 x.n, .int .i64 x.kind] 3 (0, 0)) := by
                    simpa using heap_alloc_new (w3.alloc (.cells #[.int .u8 x.fn] 5)) (.cells #[.int .i64 x.session, .int .i64 x.a, .int .i64 x.b, .int .i64 x.n, .int .i64 x.kind] 3)
                  clear hwr o4 hb4
                  go_wp2_with fail
                  clear q0 q1 q2 q3 q4 q5
                  go_loopw [8, 10] (fun v i wr => ∃ k : Nat, k ≤ 5 ∧ i = .int .i64 k ∧ ∃ A c l, v = .slice A l.length c ∧ l = ([x.session, x.a, x.b, x.n, x.kind].take k).foldl (fun l n => l ++ be n.toNat 4) (be x.fn.toNat 1) ∧ l.length ≤ 1 + k * 4 ∧
                      wr.ownsRow w3.heap.size 5 1 (.slice A l.length c) l.length (bvs l) ∧ Below w3.heap.size w3 wr ∧
                      wr.heap[w3.heap.size + 1]? = some (.cells #[.int .i64 x.session, .int .i64 x.a, .int .i64 x.b, .int .i64 x.n, .int .i64 x.kind] 3 (0, 0))) (fun _ i _ => 5 - (intOf i).toNat)
                  case atStart => exact ⟨0, by omega, rfl, some ⟨w3.heap.size, 0, none⟩, 1, be x.fn.toNat 1, rfl, rfl, by simp [be_length], by rw [be_length]; exact o5, hb5, hP⟩
                  case round =>
                    obtain ⟨k, hk, rfl, A, c, l, rfl, hle, hlen, ho, hb, hP⟩ := hrel
                    by_cases hlt : k < 5
                    · have hint : ∀ n ∈ [x.session, x.a, x.b, x.n, x.kind], 0 ≤ n ∧ n ≤ 2147483647 := fun n hn => by
                        have := List.all_eq_true.1 hfs.out n hn
                        simpa [fit] using this
                      have hlt' : k < [x.session, x.a, x.b, x.n, x.kind].length := hlt
                      obtain ⟨m, hm⟩ : ∃ m, [x.session, x.a, x.b, x.n, x.kind][k] = m := ⟨_, rfl⟩
                      have hmi := hint m (by rw [← hm]; exact List.getElem_mem hlt')
                      have hck : wr.cell? ⟨w3.heap.size + 1, k, none⟩ = some (.int .i64 m) := by
                        rw [cell_of_row wr _ k _ 3 (0, 0) hP]
                        exact ints5_at _ _ _ _ _ k hlt m hm
                      have hti : ((m.toNat : Nat) : Int) = m := Int.toNat_of_nonneg hmi.1
                      have hnext : l ++ be m.toNat 4 = ([x.session, x.a, x.b, x.n, x.kind].take (k + 1)).foldl (fun l n => l ++ be n.toNat 4) (be x.fn.toNat 1) := by
                        rw [List.take_succ_eq_append_getElem hlt', List.foldl_append, ← hle, hm]; rfl
                      have HN := Lib.hid hnext
                      have HE := Lib.hid hle
                      clear hnext hle hint hm
                      go_wp2_with fail
                      rw [← hti]
                      refine (num_o m.toNat 4 (.inr rfl) (by omega) wr).mono ?_
                      rintro e w5 ⟨A5, rfl, ho5, hb5⟩
                      rw [hti]
                      have hbn := hb.trans (hb5.mono hb.size)
                      have hon := own_below ho hb5
                      have hPn := (hb5.block _ (Array.getElem?_eq_some_iff.1 hP).1).trans hP
                      clear ho hb hP hck
                      go_wp2_with (at_builtin; refine Stop.out ?_)
                      refine Stop.mk ?_
                      refine wpList_app _ rfl (.tmp 101) (.tmp 102) 22 rfl 5 (.int .u8 0) 1 1 w3.heap.size Try.underlying22 info5 rfl (by omega) (.slice A l.length c) l.length (bvs l) rfl hon A5 4 4 (bvs (be m.toNat 4)) rfl (by simp [bvs_length, be_length]) (Rd.own ho5) (bvs_one _) (by omega) (by omega) hbn.size ?_
                      intro A6 c6 w6 ho6 hg6 hat6
                      have hb6 := hbn.grown hg6 hbn.size (fun k hk => (hon.lt k hk).1)
                      have hP6 := (hg6.block (w3.heap.size + 1) (Array.getElem?_eq_some_iff.1 hPn).1 (fun e => by
                        rcases own_ne (t := 3) (cs' := []) hon (g := w3.heap.size + 1) (fun cs fr e => by rw [hPn] at e; cases e) with h | h
                        · rw [h] at e; cases e
                        · exact h e.symm)).trans hPn
                      clear hg6 hat6 hbn hon hPn ho5 hb5
                      rw [← bvs_append] at ho6
                      go_wp2_with fail
                      go_roundw
                      case rel =>
                        have e6 : (l ++ be m.toNat 4).length = l.length + 4 := by simp [be_length]
                        refine ⟨k + 1, hlt, by go_num, A6, c6, l ++ be m.toNat 4, by rw [e6], HN.out, by rw [e6]; omega, by rw [e6]; exact ho6, hb6, hP6⟩
                      case measure => simp [intOf]; omega
                    · obtain rfl : k = 5 := by omega
                      have hhead : l = refHead x := hle
                      subst hhead
                      have HE := hlen
                      clear hle hP
                      have g1 : wr.cell? ⟨w.heap.size, 6, none⟩ = some (.slice p.p x.param.length p.pc) := (hb.cell (p := ⟨w.heap.size, 6, none⟩) hs3).trans (A3.cell 6)
                      go_wp2_with fail
                      refine (num_o x.param.length 2 (.inl rfl) (by omega) wr).mono ?_
                      rintro e v1 ⟨An1, rfl, hon1, hbn1⟩
                      have hbv1 := hb.trans (hbn1.mono hb.size)
                      have hov1 := own_below ho hbn1
                      clear g1 ho hb hbn1
                      have g1 : v1.cell? ⟨w.heap.size, 6, none⟩ = some (.slice p.p x.param.length p.pc) := (hbv1.cell (p := ⟨w.heap.size, 6, none⟩) hs3).trans (A3.cell 6)
                      generalize hq1 : refHead x = q1 at hov1 hlen ⊢
                      have Hq1 := Lib.hid hq1
                      clear hq1
                      go_wp2_with fail
                      refine KK.wp_region_segK (KK.Kp [⟨w.heap.size, 6, none⟩]) (KK.Kp.rel _) [6] [[0, 1, 3, 4, 5, 2], [6, 7]] (by kernel_rfl) (by kernel_rfl) ?_
                      simp only [KK.Seg, pick_cons, pick_nil, List.getElem?_toArray, List.getElem?_cons_zero, List.getElem?_cons_succ, Option.toList_some, List.cons_append, List.nil_append]
                      go_wp2_with (at_builtin; refine Stop.out ?_)
                      refine Stop.mk ?_
                      refine wpList_app _ rfl (.tmp 109) (.tmp 110) 22 rfl 5 (.int .u8 0) 1 1 w3.heap.size Try.underlying22 info5 rfl (by omega) (.slice A q1.length c) q1.length (bvs q1) rfl hov1.drew An1 2 2 (bvs (be x.param.length 2)) rfl (by simp [bvs_length, be_length]) (Rd.own hon1.drew) (bvs_one _) (by omega) (by omega) hbv1.size ?_
                      intro Aa1 ca1 wa1 hoa1 hga1 hata1
                      have hba1 := hbv1.grown (undrew hga1) hbv1.size (fun k hk => (hov1.lt k hk).1)
                      rw [← bvs_append] at hoa1
                      have gg1 : v1.drew.cell? ⟨w.heap.size, 6, none⟩ = some (.slice p.p x.param.length p.pc) := g1
                      have ga1 : wa1.cell? ⟨w.heap.size, 6, none⟩ = some (.slice p.p x.param.length p.pc) := (hba1.cell (p := ⟨w.heap.size, 6, none⟩) hs3).trans (A3.cell 6)
                      clear hga1 hata1 hov1 hbv1 hon1
                      go_wp2_with fail
                      refine Fin.intro ⟨⟨by kernel_rfl, KK.loads_one (j := 5) (by kernel_rfl) rfl (KK.stab_loadOp (ad := ⟨w.heap.size, 6, none⟩) List.mem_cons_self rfl rfl (by kernel_rfl))⟩, KK.Kp.one gg1 ga1, ?_⟩
                      clear g1 gg1
                      go_wp2_with (at_builtin; refine Stop.out ?_)
                      refine Stop.mk ?_
                      refine wpList_app _ rfl (.tmp 111) (.tmp 114) 22 rfl 5 (.int .u8 0) 1 1 w3.heap.size Try.underlying22 info5 rfl (by omega) (.slice Aa1 (q1.length + 2) ca1) (q1.length + 2) (bvs (q1 ++ be x.param.length 2)) rfl hoa1 p.p x.param.length p.pc (bvs x.param) rfl (by simp [bvs_length]) ((A3.args.param.more (Nat.le_of_lt hs3)).below hba1).rd (bvs_one _) (by omega) (by omega) hba1.size ?_
                      intro Ab1 cb1 wb1 hob1 hgb1 hatb1
                      have hbb1 := hba1.grown hgb1 hba1.size (fun k hk => (hoa1.lt k hk).1)
                      rw [← bvs_append] at hob1
                      clear hgb1 hatb1 hoa1 hba1 ga1
                      go_wp2_with fail
                      refine Fin.intro ⟨⟨by kernel_rfl, KK.loads_none (by kernel_rfl)⟩, ?_⟩
                      have hlq1 : (q1 ++ be x.param.length 2 ++ x.param).length = q1.length + 2 + x.param.length := by simp [be_length]; omega
                      have Hl1 := Lib.hid hlq1
                      rw [← hlq1] at hob1 ⊢
                      have hlen' : (q1 ++ be x.param.length 2 ++ x.param).length ≤ 1 + 5 * 4 + 1 * 200000 := by omega
                      clear hlq1 hlen
                      have hlen := hlen'
                      clear hlen'
                      have g2 : wb1.cell? ⟨w.heap.size, 7, none⟩ = some (.slice p.d x.data.length p.dc) := (hbb1.cell (p := ⟨w.heap.size, 7, none⟩) hs3).trans (A3.cell 7)
                      go_wp2_with fail
                      refine (num_o x.data.length 4 (.inr rfl) (by omega) wb1).mono ?_
                      rintro e v2 ⟨An2, rfl, hon2, hbn2⟩
                      have hbv2 := hbb1.trans (hbn2.mono hbb1.size)
                      have hov2 := own_below hob1 hbn2
                      clear g2 hob1 hbb1 hbn2
                      have g2 : v2.cell? ⟨w.heap.size, 7, none⟩ = some (.slice p.d x.data.length p.dc) := (hbv2.cell (p := ⟨w.heap.size, 7, none⟩) hs3).trans (A3.cell 7)
                      generalize hq2 : q1 ++ be x.param.length 2 ++ x.param = q2 at hov2 hlen ⊢
                      have Hq2 := Lib.hid hq2
                      clear hq2
                      go_wp2_with fail
                      refine KK.wp_region_segK (KK.Kp [⟨w.heap.size, 7, none⟩]) (KK.Kp.rel _) [5] [[0, 1, 3, 4, 2], [5, 6]] (by kernel_rfl) (by kernel_rfl) ?_
                      simp only [KK.Seg, pick_cons, pick_nil, List.getElem?_toArray, List.getElem?_cons_zero, List.getElem?_cons_succ, Option.toList_some, List.cons_append, List.nil_append]
                      go_wp2_with (at_builtin; refine Stop.out ?_)
                      refine Stop.mk ?_
                      refine wpList_app _ rfl (.tmp 120) (.tmp 121) 22 rfl 5 (.int .u8 0) 1 1 w3.heap.size Try.underlying22 info5 rfl (by omega) (.slice Ab1 q2.length cb1) q2.length (bvs q2) rfl hov2.drew An2 4 4 (bvs (be x.data.length 4)) rfl (by simp [bvs_length, be_length]) (Rd.own hon2.drew) (bvs_one _) (by omega) (by omega) hbv2.size ?_
                      intro Aa2 ca2 wa2 hoa2 hga2 hata2
                      have hba2 := hbv2.grown (undrew hga2) hbv2.size (fun k hk => (hov2.lt k hk).1)
                      rw [← bvs_append] at hoa2
                      have gg2 : v2.drew.cell? ⟨w.heap.size, 7, none⟩ = some (.slice p.d x.data.length p.dc) := g2
                      have ga2 : wa2.cell? ⟨w.heap.size, 7, none⟩ = some (.slice p.d x.data.length p.dc) := (hba2.cell (p := ⟨w.heap.size, 7, none⟩) hs3).trans (A3.cell 7)
                      clear hga2 hata2 hov2 hbv2 hon2
                      go_wp2_with fail
                      refine Fin.intro ⟨⟨by kernel_rfl, KK.loads_one (j := 4) (by kernel_rfl) rfl (KK.stab_loadOp (ad := ⟨w.heap.size, 7, none⟩) List.mem_cons_self rfl rfl (by kernel_rfl))⟩, KK.Kp.one gg2 ga2, ?_⟩
                      clear g2 gg2
                      go_wp2_with (at_builtin; refine Stop.out ?_)
                      refine Stop.mk ?_
                      refine wpList_app _ rfl (.tmp 122) (.tmp 124) 22 rfl 5 (.int .u8 0) 1 1 w3.heap.size Try.underlying22 info5 rfl (by omega) (.slice Aa2 (q2.length + 4) ca2) (q2.length + 4) (bvs (q2 ++ be x.data.length 4)) rfl hoa2 p.d x.data.length p.dc (bvs x.data) rfl (by simp [bvs_length]) ((A3.args.data.more (Nat.le_of_lt hs3)).below hba2).rd (bvs_one _) (by omega) (by omega) hba2.size ?_
                      intro Ab2 cb2 wb2 hob2 hgb2 hatb2
                      have hbb2 := hba2.grown hgb2 hba2.size (fun k hk => (hoa2.lt k hk).1)
                      rw [← bvs_append] at hob2
                      clear hgb2 hatb2 hoa2 hba2 ga2
                      go_wp2_with fail
                      refine Fin.intro ⟨⟨by kernel_rfl, KK.loads_none (by kernel_rfl)⟩, ?_⟩
                      have hlq2 : (q2 ++ be x.data.length 4 ++ x.data).length = q2.length + 4 + x.data.length := by simp [be_length]; omega
                      have Hl2 := Lib.hid hlq2
                      rw [← hlq2] at hob2 ⊢
                      have hlen' : (q2 ++ be x.data.length 4 ++ x.data).length ≤ 1 + 5 * 4 + 2 * 200000 := by omega
                      clear hlq2 hlen
                      have hlen := hlen'
                      clear hlen'
                      have g3 : wb2.cell? ⟨w.heap.size, 8, none⟩ = some (.slice p.m x.more.length p.mc) := (hbb2.cell (p := ⟨w.heap.size, 8, none⟩) hs3).trans (A3.cell 8)
                      go_wp2_with fail
                      refine (num_o x.more.length 2 (.inl rfl) (by omega) wb2).mono ?_
                      rintro e v3 ⟨An3, rfl, hon3, hbn3⟩
                      have hbv3 := hbb2.trans (hbn3.mono hbb2.size)
                      have hov3 := own_below hob2 hbn3
                      clear g3 hob2 hbb2 hbn3
                      have g3 : v3.cell? ⟨w.heap.size, 8, none⟩ = some (.slice p.m x.more.length p.mc) := (hbv3.cell (p := ⟨w.heap.size, 8, none⟩) hs3).trans (A3.cell 8)
                      generalize hq3 : q2 ++ be x.data.length 4 ++ x.data = q3 at hov3 hlen ⊢
                      have Hq3 := Lib.hid hq3
                      clear hq3
                      go_wp2_with fail
                      refine KK.wp_region_segK (KK.Kp [⟨w.heap.size, 8, none⟩]) (KK.Kp.rel _) [5] [[0, 1, 3, 4, 2], [5, 6]] (by kernel_rfl) (by kernel_rfl) ?_
                      simp only [KK.Seg, pick_cons, pick_nil, List.getElem?_toArray, List.getElem?_cons_zero, List.getElem?_cons_succ, Option.toList_some, List.cons_append, List.nil_append]
                      go_wp2_with (at_builtin; refine Stop.out ?_)
                      refine Stop.mk ?_
                      refine wpList_app _ rfl (.tmp 130) (.tmp 131) 22 rfl 5 (.int .u8 0) 1 1 w3.heap.size Try.underlying22 info5 rfl (by omega) (.slice Ab2 q3.length cb2) q3.length (bvs q3) rfl hov3.drew An3 2 2 (bvs (be x.more.length 2)) rfl (by simp [bvs_length, be_length]) (Rd.own hon3.drew) (bvs_one _) (by omega) (by omega) hbv3.size ?_
                      intro Aa3 ca3 wa3 hoa3 hga3 hata3
                      have hba3 := hbv3.grown (undrew hga3) hbv3.size (fun k hk => (hov3.lt k hk).1)
                      rw [← bvs_append] at hoa3
                      have gg3 : v3.drew.cell? ⟨w.heap.size, 8, none⟩ = some (.slice p.m x.more.length p.mc) := g3
                      have ga3 : wa3.cell? ⟨w.heap.size, 8, none⟩ = some (.slice p.m x.more.length p.mc) := (hba3.cell (p := ⟨w.heap.size, 8, none⟩) hs3).trans (A3.cell 8)
                      clear hga3 hata3 hov3 hbv3 hon3
                      go_wp2_with fail
                      refine Fin.intro ⟨⟨by kernel_rfl, KK.loads_one (j := 4) (by kernel_rfl) rfl (KK.stab_loadOp (ad := ⟨w.heap.size, 8, none⟩) List.mem_cons_self rfl rfl (by kernel_rfl))⟩, KK.Kp.one gg3 ga3, ?_⟩
                      clear g3 gg3
                      go_wp2_with (at_builtin; refine Stop.out ?_)
                      refine Stop.mk ?_
                      refine wpList_app _ rfl (.tmp 132) (.tmp 134) 22 rfl 5 (.int .u8 0) 1 1 w3.heap.size Try.underlying22 info5 rfl (by omega) (.slice Aa3 (q3.length + 2) ca3) (q3.length + 2) (bvs (q3 ++ be x.more.length 2)) rfl hoa3 p.m x.more.length p.mc (bvs x.more) rfl (by simp [bvs_length]) ((A3.args.more.more (Nat.le_of_lt hs3)).below hba3).rd (bvs_one _) (by omega) (by omega) hba3.size ?_
                      intro Ab3 cb3 wb3 hob3 hgb3 hatb3
                      have hbb3 := hba3.grown hgb3 hba3.size (fun k hk => (hoa3.lt k hk).1)
                      rw [← bvs_append] at hob3
                      clear hgb3 hatb3 hoa3 hba3 ga3
                      go_wp2_with fail
                      refine Fin.intro ⟨⟨by kernel_rfl, KK.loads_none (by kernel_rfl)⟩, ?_⟩
                      have hlq3 : (q3 ++ be x.more.length 2 ++ x.more).length = q3.length + 2 + x.more.length := by simp [be_length]; omega
                      have Hl3 := Lib.hid hlq3
                      rw [← hlq3] at hob3 ⊢
                      have hlen' : (q3 ++ be x.more.length 2 ++ x.more).length ≤ 1 + 5 * 4 + 3 * 200000 := by omega
                      clear hlq3 hlen
                      have hlen := hlen'
                      clear hlen'
                      have ha := oattrs_len HR1.out
                      have hbl := oattrs_len HR2.out
                      generalize hq4 : q3 ++ be x.more.length 2 ++ x.more = q4 at hob3 hlen ⊢
                      have Hq4 := Lib.hid hq4
                      clear hq4
                      go_wp2_with (at_builtin; refine Stop.out ?_)
                      refine Stop.mk ?_
                      refine wpList_app _ rfl (.tmp 136) (.tmp 137) 22 rfl 5 (.int .u8 0) 1 1 w3.heap.size Try.underlying22 info5 rfl (by omega) (.slice Ab3 q4.length cb3) q4.length (bvs q4) rfl hob3 Aa a.length ca (bvs a) rfl (by simp [bvs_length]) (ra.below hbb3).rd (bvs_one _) (by omega) (by omega) hbb3.size ?_
                      intro A7 c7 w7 ho7 hg7 hat7
                      have hb7 := hbb3.grown hg7 hbb3.size (fun k hk => (hob3.lt k hk).1)
                      rw [← bvs_append] at ho7
                      clear hg7 hat7 hob3 hbb3
                      go_wp2_with (at_builtin; refine Stop.out ?_)
                      refine Stop.mk ?_
                      refine wpList_app _ rfl (.tmp 138) (.tmp 139) 22 rfl 5 (.int .u8 0) 1 1 w3.heap.size Try.underlying22 info5 rfl (by omega) (.slice A7 (q4.length + a.length) c7) (q4.length + a.length) (bvs (q4 ++ a)) rfl ho7 Ab b.length cb (bvs b) rfl (by simp [bvs_length]) (rb.below hb7).rd (bvs_one _) (by omega) (by omega) hb7.size ?_
                      intro A8 c8 w8 ho8 hg8 hat8
                      have hb8 := hb7.grown hg8 hb7.size (fun k hk => (ho7.lt k hk).1)
                      rw [← bvs_append] at ho8
                      clear hg8 hat8 ho7 hb7
                      have hfin : refBody x a b = q4 ++ a ++ b := by
                        rw [← Hq4.out, ← Hq3.out, ← Hq2.out, ← Hq1.out]; rfl
                      have hl8 : (q4 ++ a ++ b).length = q4.length + a.length + b.length := by simp; omega
                      have ho9 := ho8
                      rw [← hl8] at ho9
                      have HF := Lib.hid hfin
                      clear hfin ho8
                      go_wp2_with fail
                      rw [← hl8]
                      refine (rframe_o (q4 ++ a ++ b) A8 c8 w8 (Rd.own ho9) (by omega)).mono ?_
                      intro e w9 hG
                      rw [← HF.out] at hG
                      obtain ⟨A9, c9, rfl, hc9, ho10, hb10⟩ := hG.from_ (A3.out.trans (hb8.mono (by omega)))
                      generalize hE : oframe (some (refBody x a b)) = E at hc9 ho10 hG ⊢
                      have hE2 : encRef x = E := hyes.trans hE
                      clear hE hyes hlen ra rb la lb ha hbl HK hfs hs1 hs2 hs3 c1' c2' c3' h0' h1' A3
                      go_wp2
                      go_ret2
                      rw [hE2]
                      exact ⟨A9, c9, rfl, hc9, ho10, hb10⟩
end Go.Proofs.Ytekblnaogncplaa
