/- A reply read from a frame's body. -/
import Derived.Test.YtekblnaogncplaaCd
import Derived.Test.YtekblnaogncplaaU
import Derived.Deep.WholeRow
import Derived.Test.YtekblnaogncplaaT
set_option linter.unusedVariables false
set_option linter.unusedSimpArgs false
namespace Go.Proofs.Ytekblnaogncplaa
open Go.RowKit

theorem size48 : (Try.prog.info? 48).map (·.size) = some 6 := by kernel_rfl
theorem info3R : (Try.prog.info? 3).map (fun i => (i.zero, i.size, i.bytes)) = some (some (.int .i64 0), 1, 8) := by kernel_rfl
theorem replyCells_one (x : ReplyD) (p : ReplyP) : (replyCells x p).all (·.oneCell') = true := by simp [replyCells, Value.oneCell']
theorem zeroR_U (w : World) (U : Nat) : ReplyU w U zeroReply zeroRP :=
  ⟨fun i v h => by simp [zeroReply, bvs] at h, Nat.le_refl _, fun i v h => by simp [zeroReply, ints] at h, Nat.le_refl _, fun i t v h => by simp [zeroReply] at h, Nat.le_refl _⟩
theorem res20 (tmps : Array Value) (w : World) (g : Nat) (cs : Array Value) (v : Value) (hp : tmps.getD 2 undef = .pointer (some ⟨g, 0, none⟩)) (h3 : tmps.getD 3 undef = v)
    (hg : w.heap[g]? = some (.cells cs 48 (0, 0))) (hs : cs.size = 6) : (results Try.f20 tmps).run Try.prog w = .ok (.tuple #[.agg cs, v]) w := by
  have hp' : tmps[2]?.getD undef = .pointer (some ⟨g, 0, none⟩) := by simpa using hp
  have h3' : tmps[3]?.getD undef = v := by simpa using h3
  simp [results, Try.results20, hp', h3', asAddr, run_loadVar_row w g 48 48 cs (0, 0) _ hg Try.underlying48 rfl (by rw [size48, hs])]
theorem encR_four {x : ReplyD} {l : List UInt8} (h : encReply x = some l) : 4 ≤ l.length := oframe_four h

theorem wpList_new48 {ops : Array Oper} {rest : List Oper} {o : Oper} {a : Act} {Q : Exit → Act → World → Prop} (hgd : o.guard = none) (x y : Operand) (ho : o.op = .store 48 x y) (w : World) (k : Nat) (hk : k = w.heap.size)
    (X : ReplyD) (p : ReplyP) (hx : a.eval x = .pointer (some ⟨k, 0, none⟩)) (hy : a.eval y = .agg (replyCells X p)) {old : Array Value} (hold : old.size = 6)
    (h : wpList Try.prog ops Q rest (a.put o.dst undef) (w.alloc (.cells (replyCells X p) 48))) : wpList Try.prog ops Q (o :: rest) a (w.alloc (.cells old 48)) := by
  subst hk
  refine wpList_store_row hgd 48 x y ho w.heap.size (replyCells X p) hx hy 48 old (heap_alloc_new w _) (by rw [size48]; rfl) hold (replyCells_one _ _) ?_
  rw [World.setRow_alloc_new]
  exact h

/-- What stands while a reply is read: the result's block, the reply's (b), the reader. -/
structure RrAt (w : World) (b : Nat) (wk : World) (cs : Array Value) (s : List UInt8 × Bool) : Prop where
  res : wk.heap[w.heap.size]? = some (.cells (replyCells zeroReply zeroRP) 48 (0, 0))
  rep : wk.heap[b]? = some (.cells cs 48 (0, 0))
  rd : RdO wk w.heap.size (w.heap.size + 1) s
  below : Below w.heap.size w wk
  gt : w.heap.size + 1 < b
theorem RrAt.size {w : World} {b : Nat} {wk : World} {cs : Array Value} {s : List UInt8 × Bool} (h : RrAt w b wk cs s) : b < wk.heap.size := (Array.getElem?_eq_some_iff.1 h.rep).1
theorem RrAt.next {w : World} {b : Nat} {wk w' : World} {cs : Array Value} {s s' : List UInt8 × Bool} (h : RrAt w b wk cs s) (hr : RdO w' w.heap.size (w.heap.size + 1) s') (hg : wk.grownBy w' (some (w.heap.size + 1))) : RrAt w b w' cs s' := by
  have hz := h.size
  have hgt := h.gt
  exact ⟨(hg.block _ (by omega) (by simp)).trans h.res, (hg.block _ hz (by simp; omega)).trans h.rep, hr, h.below.trans (grown_below hg (Nat.le_succ _) h.below.size), hgt⟩
theorem RrAt.kept {w : World} {b : Nat} {wk w' : World} {cs : Array Value} {s : List UInt8 × Bool} (h : RrAt w b wk cs s) (hb : Below wk.heap.size wk w') : RrAt w b w' cs s := h.next (h.rd.kept hb) (grown_of_below hb)
/-- A row beyond b is other than it was. -/
theorem RrAt.over {w : World} {b : Nat} {wk w' : World} {cs : Array Value} {s : List UInt8 × Bool} {r : Option Nat} (h : RrAt w b wk cs s) (hg : wk.grownBy w' r) (hr : ∀ k, r = some k → b < k) : RrAt w b w' cs s := by
  have hz := h.size
  have hgt := h.gt
  exact ⟨(hg.block _ (by omega) (fun e => by have := hr _ e.symm; omega)).trans h.res, (hg.block _ hz (fun e => by have := hr _ e.symm; omega)).trans h.rep, h.rd.kept2 hg (fun k hk => by have := hr k hk; omega),
    h.below.trans ⟨hg.os, hg.tape, hg.output, hg.size, fun k hk => hg.block k (by omega) (fun e => by have := hr _ e.symm; omega)⟩, hgt⟩
theorem RrAt.store {w : World} {b : Nat} {wk : World} {cs : Array Value} {s : List UInt8 × Bool} (h : RrAt w b wk cs s) (j : Nat) (v : Value) : RrAt w b (wk.setCell ⟨b, j, none⟩ v) (cs.setIfInBounds j v) s := by
  have hz := h.size
  have hgt := h.gt
  refine ⟨(heap_setCell_other wk _ _ _ (by simp; omega)).trans h.res, heap_setCell_same wk _ j cs 48 v h.rep, ?_, h.below.setCell (by simp; omega) v, hgt⟩
  exact h.rd.kept2 (row := some b) ⟨rfl, rfl, rfl, by simp, fun k hk hne => heap_setCell_other wk _ k _ (fun e => hne (by simp [e]))⟩ (fun r hr => by injection hr with hr; omega)
theorem RrAt.cell {w : World} {b : Nat} {wk : World} {cs : Array Value} {s : List UInt8 × Bool} (h : RrAt w b wk cs s) (j : Nat) : wk.cell? ⟨b, j, none⟩ = cs[j]? := cell_of_row wk _ j _ 48 (0, 0) h.rep
theorem RrAt.frozen {w : World} {b : Nat} {wk : World} {cs : Array Value} {s : List UInt8 × Bool} (h : RrAt w b wk cs s) (j : Nat) : wk.frozen? ⟨b, j, none⟩ = false := frozen_of_row wk _ j _ 48 h.rep

theorem own_apart {w : World} {b1 b2 n1 n2 k1 k2 : Nat} {e1 e2 : TypeId} {v v' : Value} {xs ys : List Value} (h : w.ownsRow b1 e1 k1 v n1 xs) (h' : w.ownsRow b2 e2 k2 v' n2 ys) (he : e1 ≠ e2) : v.ownBlock = none ∨ v.ownBlock ≠ v'.ownBlock := by
  rcases h.2 with ⟨rfl, _⟩ | ⟨g, cap, cur, rfl, _, hh, _⟩
  · exact .inl rfl
  · rcases h'.2 with ⟨rfl, _⟩ | ⟨g', cap', cur', rfl, _, hh', _⟩
    · exact .inr (by simp [Value.ownBlock])
    · refine .inr fun e => he ?_
      have : g = g' := by simpa [Value.ownBlock] using e
      subst this
      rw [hh] at hh'
      injection hh' with hh'
      injection hh' with _ ht _
theorem ints_append (a b : List Int) : ints (a ++ b) = ints a ++ ints b := by simp [ints]

set_option maxRecDepth 100000 in
set_option maxHeartbeats 3200000 in
theorem readReply_o (body : List UInt8) (A : Option Addr) (c : Nat) (w : World) (hb : Rd w A (bvs body)) (hc : body.length ≤ c) (hl : body.length ≤ 100000) :
    Calls Try.prog 20 #[.slice A body.length c] w (fun e w' => ∃ p, e = .returned (.tuple #[.agg (replyCells (readReply body).1 p), .bool (readReply body).2]) ∧ ReplyU w' w'.heap.size (readReply body).1 p ∧ Below w.heap.size w w') := by
  have hres0 : ((w.alloc (.cells (replyCells zeroReply zeroRP) 48)).alloc (.cells #[.slice A body.length c, .bool false] 68)).heap[w.heap.size]? = some (.cells (replyCells zeroReply zeroRP) 48 (0, 0)) := by
    rw [Below.heap_alloc _ _ _ (by simp)]; exact heap_alloc_new w _
  have hbw0 : Below w.heap.size w ((w.alloc (.cells (replyCells zeroReply zeroRP) 48)).alloc (.cells #[.slice A body.length c, .bool false] 68)) := (below_alloc w _).alloc (by simp) _
  have hrd0 : RdO ((w.alloc (.cells (replyCells zeroReply zeroRP) 48)).alloc (.cells #[.slice A body.length c, .bool false] 68)) w.heap.size (w.heap.size + 1) (body, false) :=
    ⟨A, c, by simpa using heap_alloc_new (w.alloc (.cells (replyCells zeroReply zeroRP) 48)) (.cells #[.slice A body.length c, .bool false] 68), hb.rdU.below hbw0, hc, Nat.le_succ _⟩
  unfold replyCells zeroReply zeroRP at hres0 hbw0 hrd0
  simp only [List.length_nil] at hres0 hbw0 hrd0
  go_enter Try.func20, Try.ntmps20
  go_wp2_with fail
  refine (get_o 4 (by omega) _ _ _ _ hrd0 (by show body.length ≤ _; omega)).mono ?_
  have lf := rget_len (body, false) 4
  generalize hf : rget (body, false) 4 = f at lf ⊢
  have Kf := Lib.hid hf
  clear hf
  rintro e w1 ⟨rfl, hR1, hf1⟩
  have hres1 := (hf1.block w.heap.size (Nat.lt_of_succ_lt hrd0.lt.2) (by simp)).trans hres0
  have hbw1 := hbw0.trans (grown_below hf1 (Nat.le_succ _) hbw0.size)
  clear hres0 hbw0 hrd0 hf1
  go_wp2_with fail
  have lf : f.2.1.length ≤ body.length := lf
  refine (get_o 4 (by omega) _ _ _ w1 hR1 (by omega)).mono ?_
  have lg := rget_len f.2 4
  generalize hg : rget f.2 4 = g at lg ⊢
  have Kg := Lib.hid hg
  clear hg
  rintro e w2 ⟨rfl, hR2, hf2⟩
  have hz1 := hR1.lt.2
  have hres2 := (hf2.block w.heap.size (by omega) (by simp)).trans hres1
  have hbw2 := hbw1.trans (grown_below hf2 (Nat.le_succ _) hbw1.size)
  clear hres1 hbw1 hR1 hf2
  go_wp2_with fail
  refine (get_o 4 (by omega) _ _ _ w2 hR2 (by omega)).mono ?_
  have lh := rget_len g.2 4
  generalize hh : rget g.2 4 = h at lh ⊢
  have Kh := Lib.hid hh
  clear hh
  rintro e w3 ⟨rfl, hR3, hf3⟩
  have hz2 := hR2.lt.2
  have hres3 := (hf3.block w.heap.size (by omega) (by simp)).trans hres2
  have hbw3 := hbw2.trans (grown_below hf3 (Nat.le_succ _) hbw2.size)
  clear hres2 hbw2 hR2 hf3
  have hz3 := hR3.lt.2
  go_wp2_with (with_reducible refine Stop.store 48 ?_)
  refine Stop.mk ?_
  refine wpList_new48 rfl _ _ rfl w3 w3.heap.size rfl ⟨f.1, g.1, h.1, [], [], []⟩ zeroRP rfl rfl rfl ?_
  obtain ⟨b, hbE⟩ : ∃ b, b = w3.heap.size := ⟨_, rfl⟩
  have A4 : RrAt w b (w3.alloc (.cells (replyCells ⟨f.1, g.1, h.1, [], [], []⟩ zeroRP) 48)) (replyCells ⟨f.1, g.1, h.1, [], [], []⟩ zeroRP) h.2 :=
    ⟨(Below.heap_alloc _ _ _ (by omega)).trans hres3, by rw [hbE]; exact heap_alloc_new w3 _, hR3.kept (below_alloc w3 _), hbw3.alloc hbw3.size _, by omega⟩
  rw [← hbE]
  unfold replyCells zeroRP at A4 ⊢
  simp only [List.length_nil] at A4 ⊢
  generalize w3.alloc (.cells #[.int .i64 (f.1 : Int), .int .i64 (g.1 : Int), .int .i64 (h.1 : Int), .slice none 0 0, .slice none 0 0, .slice none 0 0] 48) = w4 at A4 ⊢
  clear hres3 hbw3 hR3 hbE hz1 hz2 hz3
  go_wp2_with fail
  refine (rbytes_o 4 (by omega) _ _ _ w4 A4.rd (by omega)).mono ?_
  have ld := rbytes_len h.2 4
  have vd := rbytes_val h.2 4
  generalize hd : rbytes h.2 4 = d at ld vd ⊢
  have Kd := Lib.hid hd
  clear hd
  rintro e w5 ⟨⟨Ad, cd, rfl, hcd, hod⟩, hR5, hf5⟩
  have A5 := A4.next hR5 hf5
  have od5 := own_less hod (show b + 1 ≤ w4.heap.size from A4.size)
  clear A4 hR5 hf5 hod
  have g3 : w5.cell? ⟨b, 3, none⟩ = some (.slice none 0 0) := A5.cell 3
  have e3 := A5.frozen 3
  have A6 := A5.store 3 (.slice Ad d.1.length cd)
  have od6 := own_up od5 (Nat.lt_succ_self _) (Up.store w5 (Nat.le_refl b) 3 (.slice Ad d.1.length cd))
  clear A5 od5
  go_wp2_with fail
  clear g3 e3
  refine (get_o 2 (by omega) _ _ _ _ A6.rd (by omega)).mono ?_
  have lk := rget_len d.2 2
  have hkv : (rget d.2 2).1 < 65536 := by
    have h1 : (rtake d.2 2).1.length ≤ 2 := by unfold rtake; split <;> simp; omega
    exact Nat.lt_of_lt_of_le (beV_lt _ _ rfl) (Nat.le_trans (Nat.pow_le_pow_right (by omega) h1) (by decide))
  generalize hk : rget d.2 2 = k0 at lk hkv ⊢
  have Kk := Lib.hid hk
  clear hk
  rintro e w7 ⟨rfl, hR7, hf7⟩
  have A7 := A6.next hR7 hf7
  have hgt := A7.gt
  have od7 := own_up od6 (Nat.lt_succ_self _) (Up.grown hf7 (Nat.le_of_lt hgt))
  clear A6 hR7 hf7 od6
  obtain ⟨n, hn⟩ : ∃ n, min k0.1 1025 = n := ⟨_, rfl⟩
  have hmin : (if (1025 : Int) < (k0.1 : Int) then (1025 : Int) else (k0.1 : Int)) = (n : Int) := by
    rw [← hn]
    split <;> omega
  have hnl : n ≤ 1025 := by omega
  have Kn := Lib.hid hn
  clear hn
  go_wp2_with fail
  clear hmin
  go_loopw [24] (fun i wr => ∃ k : Nat, k ≤ n ∧ i = .int .i64 k ∧ ∃ Al cl, RrAt w b wr #[.int .i64 (f.1 : Int), .int .i64 (g.1 : Int), .int .i64 (h.1 : Int), .slice Ad d.1.length cd, .slice Al k cl, .slice none 0 0] (rints k k0.2).2 ∧
      wr.ownsRow (b + 1) 3 1 (.slice Al k cl) k (ints (rints k k0.2).1) ∧ wr.ownsRow (b + 1) 5 1 (.slice Ad d.1.length cd) d.1.length (bvs d.1)) (fun i _ => n - (intOf i).toNat)
  case atStart => exact ⟨0, by omega, rfl, none, 0, A7, World.ownsRow_nil _ _ _ _, od7⟩
  case round =>
    obtain ⟨k, hk, rfl, Al, cl, Ak, hol, hod⟩ := hrel
    have hlk := rints_len k k0.2
    clear A7 od7
    by_cases hlt : k < n
    · have gg4 : wr.drew.cell? ⟨b, 4, none⟩ = some (.slice Al k cl) := Ak.cell 4
      have Ak0 := Ak.kept (below_drew wr)
      have ol0 := hol.drew
      have od0 := hod.drew
      have hgt := Ak.gt
      clear Ak hol hod
      go_wp2_with fail
      refine KK.wp_region_segK (KK.Kp [⟨b, 4, none⟩]) (KK.Kp.rel _) [5, 7] [[0, 1, 2, 3], [4], [5, 6, 7]] (by kernel_rfl) (by kernel_rfl) ?_
      simp only [KK.Seg, pick_cons, pick_nil, List.getElem?_toArray, List.getElem?_cons_zero, List.getElem?_cons_succ, Option.toList_some, List.cons_append, List.nil_append]
      go_wp2_with fail
      refine (get_o 4 (by omega) _ _ _ _ Ak0.rd (by omega)).mono ?_
      rintro e w2 ⟨rfl, hR2, hf2⟩
      have A2 := Ak0.next hR2 hf2
      have ol2 := own_up ol0 (Nat.lt_succ_self _) (Up.grown hf2 (Nat.le_of_lt hgt))
      have od2 := own_up od0 (Nat.lt_succ_self _) (Up.grown hf2 (Nat.le_of_lt hgt))
      have hrs : rints (k + 1) k0.2 = ((rints k k0.2).1 ++ [((rget (rints k k0.2).2 4).1 : Int)], (rget (rints k k0.2).2 4).2) := rfl
      generalize hq : rget (rints k k0.2).2 4 = q at A2 hrs ⊢
      have KQ := Lib.hid hrs
      have gg5 : w2.cell? ⟨b, 4, none⟩ = some (.slice Al k cl) := A2.cell 4
      clear hq hrs Ak0 ol0 od0 hR2 hf2
      go_wp2_with fail
      refine Fin.intro ⟨⟨by kernel_rfl, KK.loads_one (j := 1) (by kernel_rfl) rfl (KK.stab_loadOp (ad := ⟨b, 4, none⟩) List.mem_cons_self rfl rfl (by kernel_rfl))⟩, KK.Kp.one gg4 gg5, ?_⟩
      have A3 := A2.kept (below_alloc w2 (.cells #[.int .i64 (q.1 : Int)] 3))
      have ol3 := own_below ol2 (below_alloc w2 (.cells #[.int .i64 (q.1 : Int)] 3))
      have od3 := own_below od2 (below_alloc w2 (.cells #[.int .i64 (q.1 : Int)] 3))
      have gg6 : (w2.alloc (.cells #[.int .i64 (q.1 : Int)] 3)).cell? ⟨b, 4, none⟩ = some (.slice Al k cl) := A3.cell 4
      have hz2 := A2.size
      clear gg4
      go_wp2_with fail
      refine Fin.intro ⟨⟨by kernel_rfl, KK.loads_none (by kernel_rfl)⟩, KK.Kp.one gg5 gg6, ?_⟩
      clear gg5 gg6 ol2 od2 A2
      go_wp2_with (at_builtin; refine Stop.out ?_)
      refine Stop.mk ?_
      refine wpList_app _ rfl (.tmp 27) (.tmp 30) 45 rfl 3 (.int .i64 0) 1 8 (b + 1) Try.underlying45 info3R rfl (by omega) (.slice Al k cl) k (ints (rints k k0.2).1) rfl ol3 _ 1 _ _ rfl (by rfl) (Rd.lit _ _ _) (by simp [Value.oneCell']) (by omega) (by omega) (by simp; omega) ?_
      intro A5 c5 w5 ho5 hg5 hat5
      have A6 := A3.over hg5 (fun r hr => (ol3.lt r hr).1)
      have od6 := od3.kept hg5 (own_apart od3 ol3 (by decide))
      have g4 : w5.cell? ⟨b, 4, none⟩ = some (.slice Al k cl) := A6.cell 4
      have e4 := A6.frozen 4
      have A7 := A6.store 4 (.slice A5 (k + 1) c5)
      have ol7 := own_up ho5 (Nat.lt_succ_self _) (Up.store w5 (Nat.le_refl b) 4 (.slice A5 (k + 1) c5))
      have od7 := own_up od6 (Nat.lt_succ_self _) (Up.store w5 (Nat.le_refl b) 4 (.slice A5 (k + 1) c5))
      clear A3 ol3 od3 A6 ho5 od6 hg5 hat5
      go_wp2_with fail
      refine Fin.intro ⟨⟨by kernel_rfl, KK.loads_none (by kernel_rfl)⟩, ?_⟩
      clear g4 e4
      go_wp2_with fail
      go_roundw
      case rel =>
        refine ⟨k + 1, hlt, by go_num, A5, c5, by rw [KQ.out]; exact A7, ?_, od7⟩
        rw [KQ.out, ints_append]
        exact ol7
      case measure => simp [intOf]; omega
    · obtain rfl : k = n := by omega
      generalize hv : rints k k0.2 = v at Ak hol hlk
      have Kv := Lib.hid hv
      clear hv
      have hgt := Ak.gt
      go_wp2_with fail
      refine (rattrs_o _ _ _ wr Ak.rd (by omega)).mono ?_
      rintro e w5 ⟨⟨At, ct, xt, rfl, hct, hot, hat⟩, hR5, hf5⟩
      have B1 := Ak.next hR5 hf5
      have ol1 := own_up hol (Nat.lt_succ_self _) (Up.grown hf5 (Nat.le_of_lt hgt))
      have od1 := own_up hod (Nat.lt_succ_self _) (Up.grown hf5 (Nat.le_of_lt hgt))
      have ot1 := own_less hot (show b + 1 ≤ wr.heap.size from Ak.size)
      have at1 := hat.less (show b + 1 ≤ wr.heap.size from Ak.size)
      have lt := rattrs_val v.2
      clear Ak hR5 hf5 hol hod hot hat
      generalize ha : rattrs v.2 = a at hct B1 ot1 at1 lt ⊢
      have Ka := Lib.hid ha
      clear ha
      have g5 : w5.cell? ⟨b, 5, none⟩ = some (.slice none 0 0) := B1.cell 5
      have e5 := B1.frozen 5
      have B2 := B1.store 5 (.slice At a.1.length ct)
      have hU := Up.store w5 (Nat.le_refl b) 5 (.slice At a.1.length ct)
      have ol2 := own_up ol1 (Nat.lt_succ_self _) hU
      have od2 := own_up od1 (Nat.lt_succ_self _) hU
      have ot2 := own_up ot1 (Nat.lt_succ_self _) hU
      have at2 := at1.up (Nat.lt_succ_self _) hU
      have hlk1 := hlk.1
      have hlk2 := hlk.2
      clear B1 ol1 od1 ot1 at1 hU hlk
      have hX := parseReply_val Kf.out Kg.out Kh.out Kd.out Kk.out (by rw [Kn.out]; exact Kv.out) Ka.out
      have HX := Lib.hid hX
      clear hX
      rw [← hlk1] at B2 ol2
      have B2 : RrAt w b (w5.setCell ⟨b, 5, none⟩ (.slice At a.1.length ct)) (replyCells ⟨f.1, g.1, h.1, d.1, v.1, a.1⟩ ⟨Ad, cd, Al, cl, At, ct⟩) a.2 := B2
      have hrep := B2.rep
      go_wp2_with (with_reducible refine Stop.load 48 ?_)
      refine Stop.mk ?_
      refine wpList_load_row rfl 48 _ rfl b rfl 48 _ _ _ hrep Try.underlying48 rfl size48 ?_
      clear g5 e5 hrep
      have hUU : ReplyU _ _ ⟨f.1, g.1, h.1, d.1, v.1, a.1⟩ ⟨Ad, cd, Al, cl, At, ct⟩ := ⟨(Rd.own od2).rdU, hcd, (Rd.own ol2).rdU, (own_cap ol2).2.1, at2.atU ot2, hct⟩
      have hM : ReplyM 100000 ⟨f.1, g.1, h.1, d.1, v.1, a.1⟩ :=
        ⟨by show d.1.length ≤ _; omega, by show v.1.length ≤ _; omega, by show a.1.length ≤ _; omega, fun x hx => Nat.le_trans (lt.1 x hx) (by omega)⟩
      go_wp2_with fail
      refine (reply_o ⟨f.1, g.1, h.1, d.1, v.1, a.1⟩ ⟨Ad, cd, Al, cl, At, ct⟩ 100000 _ hUU hM (Nat.le_refl _)).mono ?_
      have h4 : ∀ l, encReply ⟨f.1, g.1, h.1, d.1, v.1, a.1⟩ = some l → 4 ≤ l.length := fun l hl => encR_four hl
      generalize hr : encReply ⟨f.1, g.1, h.1, d.1, v.1, a.1⟩ = r at h4 ⊢
      have HR := Lib.hid hr
      clear hr
      intro e w7 hG
      obtain ⟨Ae, ce, rfl, hce, hoe, hbe⟩ := hG
      have B9 := B2.kept hbe
      have ol9 := own_below ol2 hbe
      have od9 := own_below od2 hbe
      have ot9 := own_below ot2 hbe
      have at9 := at2.kept (grown_of_below (g := none) hbe) (by simp)
      clear hUU hbe B2 ol2 od2 ot2 at2
      obtain ⟨Ar, cr, hRr⟩ := B9.rd
      have r1 : w7.cell? ⟨w.heap.size + 1, 1, none⟩ = some (.bool a.2.2) := cell_of_row w7 _ 1 _ 68 (0, 0) hRr.blk
      have hb7 := hb.below B9.below
      have hres := B9.res
      have hrep := B9.rep
      cases hbad : a.2.2 with
      | true =>
        rw [hbad] at r1
        have hno : readReply body = (zeroReply, false) := by
          unfold readReply okReply
          rw [HX.out, hbad]
          simp
        go_wp2_with (with_reducible refine Stop.store 48 ?_)
        refine Stop.mk ?_
        refine wpList_store_row rfl 48 _ _ rfl w.heap.size (replyCells zeroReply zeroRP) rfl rfl 48 _ hres (by rw [size48]; rfl) rfl (replyCells_one _ _) ?_
        go_wp2_with fail
        refine bodyPost_ret (res20 _ _ w.heap.size (replyCells zeroReply zeroRP) (.bool false) rfl rfl (setRow_heap _ _ _ _ _ _ hres) rfl) rfl ?_
        rw [hno]
        exact ⟨zeroRP, rfl, zeroR_U _ _, below_setRow B9.below (Nat.le_refl _) _⟩
      | false =>
        rw [hbad] at r1
        go_wp2_with fail
        refine (same_o (r.getD []) body r.isSome Ae A ce c w7 (Rd.own hoe) hb7 hce (by intro hs; cases r with | none => simp at hs | some l => exact h4 l rfl)).mono ?_
        rintro e w8 ⟨rfl, rfl⟩
        cases hok : (r.isSome && (r.getD []).drop 4 == body) with
        | false =>
          have hno : readReply body = (zeroReply, false) := by
            unfold readReply okReply
            rw [HX.out, hbad, HR.out]
            cases r with
            | none => simp
            | some l => simp at hok ⊢; simp [hok]
          go_wp2_with (with_reducible refine Stop.store 48 ?_)
          refine Stop.mk ?_
          refine wpList_store_row rfl 48 _ _ rfl w.heap.size (replyCells zeroReply zeroRP) rfl rfl 48 _ hres (by rw [size48]; rfl) rfl (replyCells_one _ _) ?_
          go_wp2_with fail
          refine bodyPost_ret (res20 _ _ w.heap.size (replyCells zeroReply zeroRP) (.bool false) rfl rfl (setRow_heap _ _ _ _ _ _ hres) rfl) rfl ?_
          rw [hno]
          exact ⟨zeroRP, rfl, zeroR_U _ _, below_setRow B9.below (Nat.le_refl _) _⟩
        | true =>
          have hyes : readReply body = (⟨f.1, g.1, h.1, d.1, v.1, a.1⟩, true) := by
            unfold readReply okReply
            rw [HX.out, hbad, HR.out]
            cases r with
            | none => simp at hok
            | some l => simp at hok ⊢; simp [hok]
          go_wp2_with (with_reducible refine Stop.load 48 ?_)
          refine Stop.mk ?_
          refine wpList_load_row rfl 48 _ rfl b rfl 48 _ _ _ hrep Try.underlying48 rfl size48 ?_
          go_wp2_with (with_reducible refine Stop.store 48 ?_)
          refine Stop.mk ?_
          refine wpList_store_row rfl 48 _ _ rfl w.heap.size (replyCells ⟨f.1, g.1, h.1, d.1, v.1, a.1⟩ ⟨Ad, cd, Al, cl, At, ct⟩) rfl rfl 48 _ hres (by rw [size48]; rfl) rfl (replyCells_one _ _) ?_
          go_wp2_with fail
          refine bodyPost_ret (res20 _ _ w.heap.size (replyCells ⟨f.1, g.1, h.1, d.1, v.1, a.1⟩ ⟨Ad, cd, Al, cl, At, ct⟩) (.bool true) rfl rfl (setRow_heap _ _ _ _ _ _ hres) rfl) rfl ?_
          rw [hyes]
          have hu : Up b w7 (w7.setRow w.heap.size (replyCells ⟨f.1, g.1, h.1, d.1, v.1, a.1⟩ ⟨Ad, cd, Al, cl, At, ct⟩)) := ⟨by simp, fun k hk _ => setRow_other _ _ _ _ (by omega)⟩
          have ht := own_up ot9 (Nat.lt_succ_self _) hu
          refine ⟨⟨Ad, cd, Al, cl, At, ct⟩, rfl, ⟨(Rd.own (own_up od9 (Nat.lt_succ_self _) hu)).rdU, hcd, (Rd.own (own_up ol9 (Nat.lt_succ_self _) hu)).rdU, (own_cap ol9).2.1, (at9.up (Nat.lt_succ_self _) hu).atU ht, hct⟩, below_setRow B9.below (Nat.le_refl _) _⟩
end Go.Proofs.Ytekblnaogncplaa
