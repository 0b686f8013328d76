/- The laws' helpers: puts; a commit of any list. -/
import Derived.Test.YtbjbjnbloddioaaDoorMc
set_option linter.unusedVariables false
set_option linter.unusedSimpArgs false
namespace Go.Proofs.YtbjbjnbloddioaaDoor
open Go.RowKit Go.Shelf

/-- A put as the law is handed it. -/
structure PutD where
  i : Int
  b : List UInt8
  short : Bool
def PutD.put (p : PutD) : Int × List UInt8 := (p.i, fullB p.b (if p.short then 100 else 256))
/-- A row of puts that came in. -/
def PutU (w : World) (U : Nat) (A : Option Addr) (ps : List PutD) : Prop := ∀ j p, ps[j]? = some p → ∃ g o A2 c2, A = some ⟨g, o, none⟩ ∧ g < U ∧ w.cell? ⟨g, o + j * 3, none⟩ = some (.int .i64 p.i) ∧ w.cell? ⟨g, o + j * 3 + 1, none⟩ = some (.slice A2 p.b.length c2) ∧ w.cell? ⟨g, o + j * 3 + 2, none⟩ = some (.bool p.short) ∧ p.b.length ≤ c2 ∧ p.b.length ≤ 140737488355328 ∧ RdU w U A2 (bvs p.b)
theorem PutU.below {w w' : World} {U : Nat} {A : Option Addr} {ps : List PutD} (h : PutU w U A ps) (hb : Below U w w') : PutU w' U A ps := fun j p hp => by
  obtain ⟨g, o, A2, c2, e, hg, h1, h2, h3, h4, h5, h6⟩ := h j p hp
  exact ⟨g, o, A2, c2, e, hg, (hb.cell (p := ⟨g, _, none⟩) hg).trans h1, (hb.cell (p := ⟨g, _, none⟩) hg).trans h2, (hb.cell (p := ⟨g, _, none⟩) hg).trans h3, h4, h5, h6.below hb⟩
/-- Rows of rows of puts. -/
def CommitsU (w : World) (U : Nat) (A : Option Addr) (cs : List (List PutD)) : Prop := ∀ j ps, cs[j]? = some ps → ∃ g o A2 c2, A = some ⟨g, o, none⟩ ∧ g < U ∧ w.cell? ⟨g, o + j, none⟩ = some (.slice A2 ps.length c2) ∧ ps.length ≤ 3518437208883 ∧ PutU w U A2 ps
theorem CommitsU.below {w w' : World} {U : Nat} {A : Option Addr} {cs : List (List PutD)} (h : CommitsU w U A cs) (hb : Below U w w') : CommitsU w' U A cs := fun j p hp => by
  obtain ⟨g, o, A2, c2, e, hg, h1, h4, h5⟩ := h j p hp
  exact ⟨g, o, A2, c2, e, hg, (hb.cell (p := ⟨g, _, none⟩) hg).trans h1, h4, h5.below hb⟩
/-- The cells of a commit's list. -/
def PutsXs (w : World) (xs : List Value) (L : List (Int × List UInt8)) : Prop := xs.length = L.length * 2 ∧ ∀ j p, L[j]? = some p → xs[j * 2]? = some (.int .i64 p.1) ∧ ∃ A2 c2, xs[j * 2 + 1]? = some (.slice A2 p.2.length c2) ∧ p.2.length ≤ c2 ∧ Rd5 w A2 p.2
theorem PutsXs.fr {S : Nat → Prop} {w w' : World} {xs : List Value} {L : List (Int × List UInt8)} (h : PutsXs w xs L) (hf : Fr S w w') (h5 : No5 S w) : PutsXs w' xs L := ⟨h.1, fun j p hp => by
  obtain ⟨h1, A2, c2, h2, h3, h4⟩ := h.2 j p hp
  exact ⟨h1, A2, c2, h2, h3, h4.fr hf h5⟩⟩
theorem PutsXs.below {w w' : World} {xs : List Value} {L : List (Int × List UInt8)} (h : PutsXs w xs L) (hb : Below w.heap.size w w') : PutsXs w' xs L := h.fr (S := fun _ => False) (Fr.below hb) (fun _ h => h.elim)
theorem PutsXs.snoc {w : World} {xs : List Value} {L : List (Int × List UInt8)} {i : Int} {x : List UInt8} {A2 : Option Addr} {c2 : Nat} (h : PutsXs w xs L) (hc : x.length ≤ c2) (hr : Rd5 w A2 x) : PutsXs w (xs ++ [.int .i64 i, .slice A2 x.length c2]) (L ++ [(i, x)]) := ⟨by simp [h.1]; omega, fun j p hp => by
  by_cases hj : j < L.length
  · rw [List.getElem?_append_left hj] at hp
    rw [List.getElem?_append_left (by rw [h.1]; omega), List.getElem?_append_left (by rw [h.1]; omega)]
    exact h.2 j p hp
  · have hj' : j = L.length := by
      have := (List.getElem?_eq_some_iff.1 hp).1
      simp at this
      omega
    subst hj'
    simp at hp
    subst hp
    rw [← h.1]
    exact ⟨by simp, A2, c2, by rw [List.getElem?_append_right (by omega)]; simp, hc, hr⟩⟩
theorem PutsXs.at_ {w : World} {base k c : Nat} {A : Option Addr} {xs : List Value} {L : List (Int × List UInt8)} (h : PutsXs w xs L) (ho : w.ownsRow base 30 k (.slice A L.length c) L.length xs) : PutsAt w A L := fun j p hp => by
  obtain ⟨h1, A2, c2, h2, h3, h4⟩ := h.2 j p hp
  have hT := RdT.own ho
  obtain ⟨g, o, cs, e, hg, hc⟩ := hT _ _ h1
  obtain ⟨g', o', cs', e', hg', hc'⟩ := hT _ _ h2
  rw [e] at e'
  injection e' with e'
  injection e' with e1 e2
  subst e1 e2
  rw [hg] at hg'
  injection hg' with hg'
  injection hg' with hg'
  subst hg'
  exact ⟨g, o, cs, A2, c2, e, hg, hc, hc', h3, h4⟩
theorem info30 : (Tryd.prog.info? 30).map (fun i => (i.zero, i.size, i.bytes)) = some (some (.agg #[.int .i64 0, .slice none 0 0]), 2, 32) := by kernel_rfl
theorem all_snoc (L : List (Int × List UInt8)) (b : Nat) (p : Int × List UInt8) : (L ++ [p]).all (putOK b) = (L.all (putOK b) && putOK b p) := by simp
theorem map_take_succ {ps : List PutD} {k : Nat} {p : PutD} (h : ps[k]? = some p) : (ps.map PutD.put).take (k + 1) = (ps.map PutD.put).take k ++ [p.put] := by
  rw [List.take_add_one, List.getElem?_map, h]
  rfl

set_option maxRecDepth 100000 in
set_option maxHeartbeats 3200000 in
theorem puts_o (ps : List PutD) (b : Nat) (hb : b ≤ 1000) (A : Option Addr) (c : Nat) (w : World) (h : PutU w w.heap.size A ps) (hl : ps.length ≤ 3518437208883) :
    Calls Tryd.prog 23 #[.slice A ps.length c, .int .i64 (b : Int)] w (fun e w' => ∃ A' c', e = .returned (.tuple #[.slice A' ps.length c', .bool (mayB (ps.map PutD.put) b)]) ∧ ps.length ≤ c' ∧ PutsAt w' A' (ps.map PutD.put) ∧ Below w.heap.size w w') := by
  go_enter Tryd.func23, Tryd.ntmps23
  go_wp2_with fail
  go_loopw [6, 7, 8] (fun l okv i wr => ∃ (k : Nat) (A' : Option Addr) (c' : Nat) (xs : List Value), k ≤ ps.length ∧ i = .int .i64 k ∧ l = .slice A' k c' ∧ okv = .bool (decide (ps.length ≤ b) && ((ps.map PutD.put).take k).all (putOK b)) ∧ wr.ownsRow w.heap.size 30 2 (.slice A' k c') k xs ∧ PutsXs wr xs ((ps.map PutD.put).take k) ∧ Below w.heap.size w wr) (fun _ _ i _ => ps.length - (intOf i).toNat)
  case atStart => exact ⟨0, none, 0, [], by omega, rfl, rfl, by simp, World.ownsRow_nil _ _ _ _, ⟨by simp, fun j p hp => by simp at hp⟩, Below.refl _ _⟩
  case round =>
    obtain ⟨k, A', c', xs, hk, rfl, rfl, rfl, ho, hX, hbr⟩ := hrel
    by_cases hlt : k < ps.length
    · have hpk : ps[k]? = some ps[k] := List.getElem?_eq_getElem hlt
      obtain ⟨g, o, A2, c2, rfl, hg, q0, q1, q2, q3, q4, q5⟩ := (h.below hbr) k _ hpk
      have hts := map_take_succ hpk
      have hpk' := hpk
      have hpp : ps[k].put = (ps[k].i, fullB ps[k].b (if ps[k].short then 100 else 256)) := rfl
      generalize ps[k] = p at *
      obtain ⟨bi, bb, sh⟩ := p
      dsimp only at q0 q1 q2 q3 q4 q5 hpp
      generalize hT : (ps.map PutD.put).take k = T at *
      have hTl : T.length = k := by rw [← hT]; simp; omega
      generalize hall : (decide (ps.length ≤ b) && T.all (putOK b)) = okk at *
      obtain ⟨n, hn⟩ : ∃ n : Nat, n = if sh = true then 100 else 256 := ⟨_, rfl⟩
      have hnb : n ≤ 256 ∧ 0 < n := by rw [hn]; split <;> omega
      have hfull := fun w h => full_o bb n (by omega) A2 c2 w h q4
      have hbd := below_drew wr
      have q0d : wr.drew.cell? ⟨g, o + k * 3, none⟩ = some (.int .i64 bi) := q0
      have q1d : wr.drew.cell? ⟨g, o + k * 3 + 1, none⟩ = some (.slice A2 bb.length c2) := q1
      have hfd := hfull wr.drew (q5.rd.below hbd)
      have hput : PutD.put ⟨bi, bb, sh⟩ = (bi, fullB bb n) := by rw [hn]; exact hpp
      rw [hput] at hts
      have hokn : (okk && putOK b (bi, fullB bb n)) = (decide (ps.length ≤ b) && ((ps.map PutD.put).take (k + 1)).all (putOK b)) := by
        rw [hts, all_snoc, ← hall, Bool.and_assoc]
      have hpo : putOK b (bi, fullB bb n) = (decide (0 ≤ bi) && decide (bi < (b : Int)) && decide (n = 256)) := by
        unfold putOK
        dsimp only
        rw [fullB_len]
        congr 1
      rw [hpo] at hokn
      have hfl := fullB_len bb n
      generalize fullB bb n = x at *
      have HO := Lib.hid (And.intro ho (And.intro hX hbr))
      have HT := Lib.hid (And.intro hts (And.intro hTl hokn))
      have HD := Lib.hid hbd
      have HX := Lib.hid hfl
      have HPK := Lib.hid hpk'
      clear ho hX hbr hts hTl hokn hpo hput hpp hfull hT hall hbd hfl q5 hpk hpk'
      have hgo : ∀ nv : Nat, nv = n → Calls Tryd.prog 18 #[.slice A2 bb.length c2, .int .i64 (nv : Int)] wr.drew (fun e w' => ∃ g, e = .returned (.slice (some ⟨g, 0, none⟩) n n) ∧ wr.drew.heap.size ≤ g ∧ w'.heap[g]? = some (.cells (bvs x).toArray 5 (0, 0)) ∧ Below wr.drew.heap.size wr.drew w') := fun nv e => by rw [e]; exact hfd
      clear hfd
      cases sh
      all_goals
        simp at hn
        subst hn
        have hfd := hgo _ rfl
        clear hgo
        go_wp2_with fail
        refine wp_region_seg [13, 14, 15] [[0, 1, 2, 3, 4, 5, 6, 7, 8, 9, 10, 11, 12], [13, 14, 15, 16]] (by kernel_rfl) (by kernel_rfl) ?_
        simp only [Seg, pick_cons, pick_nil, List.getElem?_toArray, List.getElem?_cons_zero, List.getElem?_cons_succ, Option.toList_some, List.cons_append, List.nil_append]
        generalize wr.drew = wd at *
        go_wp2_with fail
        refine hfd.mono ?_
        rintro e w4 ⟨gf, rfl, hgf, hrow, hb4⟩
        clear hfd
        have hb4r : Below wr.heap.size wr w4 := HD.out.trans (hb4.mono HD.out.size)
        have hb5 := below_alloc w4 (.cells #[.int .i64 bi, .slice (some ⟨gf, 0, none⟩) x.length x.length] 30)
        have hr4 : Rd5 w4 (some ⟨gf, 0, none⟩) x := Rd5.blk hrow
        have HR := Lib.hid (And.intro hb4r (And.intro hb5 hr4))
        have HOL := Lib.hid (Old.of_below hb4)
        clear hb4 hb4r hb5 hr4 hrow
        go_wp2_with fail
        refine Fin.intro ⟨by kernel_rfl, HOL.out, ?_⟩
        go_wp2_with (at_builtin; refine Stop.out ?_)
        refine Stop.mk ?_
        obtain ⟨hb4, hb5, hr4⟩ := HR.out
        obtain ⟨ho, hX, hbr⟩ := HO.out
        have hX4 := (hX.below hb4).snoc (i := bi) (Nat.le_refl _) hr4
        rw [HX.out] at hb5 hX4
        have hbw4 := hbr.trans (hb4.mono hbr.size)
        have hbw5 := hbw4.trans (hb5.mono hbw4.size)
        have ho5 := own_below (own_below ho hb4) hb5
        refine wpList_app _ rfl (.tmp 25) (.tmp 39) 40 rfl 30 (.agg #[.int .i64 0, .slice none 0 0]) 2 32 w.heap.size Tryd.underlying40 info30 rfl (by omega) (.slice A' k c') k xs rfl ho5 (some ⟨w4.heap.size, 0, none⟩) 1 1 [.int .i64 bi, .slice (some ⟨gf, 0, none⟩) _ _] rfl rfl (Rd.lit _ _ _) (by simp [Value.oneCell']) (by omega) (by omega) hbw5.size ?_
        intro A3 c3 w6 ho6 hg6 _
        have hb6 : Below w.heap.size w w6 := hbw5.grown hg6 hbw5.size (fun k e => (ho5.lt k e).1)
        have hX6 := (hX4.below hb5).fr (Fr.grown hg6 (S := fun j => some j = (Value.slice A' k c').ownBlock) (fun j e => e.symm)) (own_no5 ho5 (by decide))
        rw [← HT.out.1] at hX6
        have y0 : w6.cell? ⟨g, o + k * 3, none⟩ = some (.int .i64 bi) := by
          obtain ⟨g', o', _, _, e, hg', h1, _⟩ := (h.below hb6) k _ HPK.out
          injection e with e
          injection e with e1 e2
          subst e1 e2
          exact h1
        have HZ := Lib.hid (And.intro ho6 (And.intro hX6 hb6))
        clear hX4 ho hX hbr hb4 hb5 hr4 hbw4 hbw5 ho5 ho6 hg6 hb6 hX6 q0 q1 q2 q0d q1d h
        have HOK := Lib.hid HT.out.2.2
        cases okk
        · go_wp2_with fail
          refine Fin.intro ⟨by kernel_rfl, ?_⟩
          go_wp2_with fail
          go_roundw
          case rel =>
            obtain ⟨z1, z2, z3⟩ := HZ.out
            exact ⟨k + 1, A3, c3, _, by omega, by go_num, rfl, by rw [← HOK.out]; rfl, z1, z2, z3⟩
          case measure => simp [intOf]; omega
        · by_cases g1 : bi < 0
          · have q1 : decide (0 ≤ bi) = false := by simp; omega
            go_wp2_with fail
            refine Fin.intro ⟨by kernel_rfl, ?_⟩
            go_wp2_with fail
            go_roundw
            case rel =>
              obtain ⟨z1, z2, z3⟩ := HZ.out
              exact ⟨k + 1, A3, c3, _, by omega, by go_num, rfl, by rw [← HOK.out]; first | (simp; done) | (simp; omega), z1, z2, z3⟩
            case measure => simp [intOf]; omega
          · have g1' : 0 ≤ bi := by omega
            by_cases g2 : (b : Int) ≤ bi
            · have q1 : decide (bi < (b : Int)) = false := by simp; omega
              go_wp2_with fail
              refine Fin.intro ⟨by kernel_rfl, ?_⟩
              go_wp2_with fail
              go_roundw
              case rel =>
                obtain ⟨z1, z2, z3⟩ := HZ.out
                exact ⟨k + 1, A3, c3, _, by omega, by go_num, rfl, by rw [← HOK.out]; first | (simp; done) | (simp; omega), z1, z2, z3⟩
              case measure => simp [intOf]; omega
            · have g2' : bi < (b : Int) := by omega
              go_wp2_with fail
              refine Fin.intro ⟨by kernel_rfl, ?_⟩
              go_wp2_with fail
              go_roundw
              case rel =>
                obtain ⟨z1, z2, z3⟩ := HZ.out
                exact ⟨k + 1, A3, c3, _, by omega, by go_num, rfl, by rw [← HOK.out]; first | (simp; done) | (simp; omega), z1, z2, z3⟩
              case measure => simp [intOf]; omega
    · obtain rfl : k = ps.length := by omega
      have hcap := (own_cap ho).2.1
      have e1 : (ps.map PutD.put).take ps.length = ps.map PutD.put := List.take_of_length_le (by simp)
      have e2 : (decide (ps.length ≤ b) && ((ps.map PutD.put).take ps.length).all (putOK b)) = mayB (ps.map PutD.put) b := by
        rw [e1]; unfold mayB; rw [List.length_map]
      rw [e1] at hX
      have hpl : (ps.map PutD.put).length = ps.length := by simp
      have hat : PutsAt wr A' (ps.map PutD.put) := hX.at_ (base := w.heap.size) (k := 2) (c := c') (by rw [hpl]; exact ho)
      rw [e2]
      have H2 := Lib.hid hat
      clear e1 e2 hpl hX ho hat
      go_wp2_with fail
      go_ret2
      exact ⟨A', c', rfl, hcap, H2.out, hbr⟩
set_option maxRecDepth 100000 in
theorem may_big (v g b : Nat) (c : Int) (br : Bool) (x : Option Addr) (n cp : Nat) (w : World) (h : VolAt w v g b c br) (hn : b < n) (hn2 : n ≤ 140737488355328) :
    Calls Tryd.prog 33 #[.pointer (some ⟨v, 0, none⟩), .slice x n cp] w (fun e w' => e = .returned (.bool false) ∧ w = w') := by
  have c1 : w.cell? ⟨v, 1, none⟩ = some (.int .i64 (b : Int)) := cell_of_row _ v 1 _ 65 (0, 0) h
  have hi : (b : Int) < (n : Int) := by omega
  go_enter Tryd.func33, Tryd.ntmps33
  go_wp2_with fail
  go_ret
  exact ⟨rfl, rfl⟩
set_option maxRecDepth 100000 in
/-- A commit of a list, however long. -/
theorem commit_any (v g gl : Nat) (V : VolD) (A : Option Addr) (cp : Nat) (L : List (Int × List UInt8)) (w : World) (h : VAt w v g gl V) (hL : PutsAt w A L) (hll : L.length ≤ 140737488355328) (hK : Kg w) (h0 : ¬ three v g gl 0) (hcs : V.c + 1 < 900000) :
    Calls Tryd.prog 10 #[.pointer (some ⟨v, 0, none⟩), .slice A L.length cp] w (fun e w' => e = .returned (.int .i64 (V.commit L).1) ∧ VAt w' v g gl (V.commit L).2 ∧ Fr (three v g gl) w w') := by
  by_cases hs : L.length ≤ 1000000
  · exact commit_o v g gl V A cp L w h hL hs hK h0 hcs
  · have hb : V.b ≤ 1000000 := by have := h.len; have := h.disk.len; omega
    have hm : mayB L V.b = false := by unfold mayB; simp; omega
    have hc : V.commit L = (7, V) := by unfold VolD.commit; rw [if_pos hm]
    rw [hc]
    have hbig := may_big v g V.b (V.c : Int) V.br A L.length cp w h.vol (by omega) hll
    go_enter Tryd.func10, Tryd.ntmps10
    go_wp2_with fail
    refine hbig.mono ?_
    rintro e _ ⟨rfl, rfl⟩
    go_wp2_with fail
    go_ret
    exact ⟨rfl, h, Fr.refl _ _⟩
end Go.Proofs.YtbjbjnbloddioaaDoor
