/- A hash state takes bytes in. -/
import Derived.Test.YtbjbjnbloddioaaDoorEc
set_option linter.unusedVariables false
set_option linter.unusedSimpArgs false
namespace Go.Proofs.YtbjbjnbloddioaaDoor
open Go.RowKit Go.Shelf
attribute [local go_sem] Oper.semAt_some


def absH (h : List Int) (l : List UInt8) : Nat → List Int
  | 0 => h
  | k + 1 => shaBlk (absH h l k) (piece l k)
theorem shaBlk_len (h : List Int) (p : List UInt8) (hh : h.length = 8) : (shaBlk h p).length = 8 := (shaAdd_len _ _ _).trans hh
theorem absH_len (h : List Int) (l : List UInt8) (hh : h.length = 8) : ∀ k, (absH h l k).length = 8
  | 0 => hh
  | k + 1 => shaBlk_len _ _ (absH_len h l hh k)
/-- A state behind bytes: what was taken in, what waits. -/
def hwH (h : List Int) (all : List UInt8) : List Int := absH h all (all.length / 64)
def hwL (all : List UInt8) : List UInt8 := all.drop (64 * (all.length / 64))
theorem hw_of {h : List Int} {all : List UInt8} {k : Nat} (h1 : 64 * k ≤ all.length) (h2 : all.length < 64 * k + 64) : hwH h all = absH h all k ∧ hwL all = all.drop (64 * k) := by
  have : all.length / 64 = k := by omega
  unfold hwH hwL
  rw [this]
  exact ⟨rfl, rfl⟩

theorem own_turn {w w' : World} {B n k : Nat} {e : TypeId} {v : Value} {xs : List Value} {row : Option Nat} (h : w.ownsRow B e k v n xs) (hg : w.grownBy w' row) (hr : ∀ r, row = some r → ∃ o : Obj, w.heap[r]? = some o ∧ o.isCells = false) : w'.ownsRow B e k v n xs := by
  refine h.kept hg ?_
  rcases h.2 with ⟨rfl, _⟩ | ⟨g, cap, cur, rfl, _, hh, _⟩
  · exact .inl rfl
  · refine .inr fun e => ?_
    obtain ⟨o, ho, hc⟩ := hr g e.symm
    rw [hh] at ho
    injection ho with ho
    subst ho
    cases hc
theorem heap_turn {w w' : World} {row : Option Nat} {k : Nat} {cs : Array Value} {t : TypeId} {fr : Nat × Nat} (h : w.heap[k]? = some (.cells cs t fr)) (hg : w.grownBy w' row) (hr : ∀ r, row = some r → ∃ o : Obj, w.heap[r]? = some o ∧ o.isCells = false) : w'.heap[k]? = some (.cells cs t fr) := by
  refine (hg.block k (Array.getElem?_eq_some_iff.1 h).1 fun e => ?_).trans h
  obtain ⟨o, ho, hc⟩ := hr k e.symm
  rw [h] at ho
  injection ho with ho
  subst ho
  cases hc
theorem HsAt.turn {w w' : World} {B g : Nat} {h : List Int} {l : List UInt8} {A : Option Addr} {c : Nat} {n : Int} {row : Option Nat} (H : HsAt w B g h l A c n) (hg : w.grownBy w' row) (hr : ∀ r, row = some r → ∃ o : Obj, w.heap[r]? = some o ∧ o.isCells = false) : HsAt w' B g h l A c n :=
  ⟨heap_turn H.blk hg hr, own_turn H.own hg hr, H.len, H.le⟩
/-- A row of the call's own as bytes in one block. -/
theorem own_at5 {w : World} {B c : Nat} {A : Option Addr} {l : List UInt8} (h : w.ownsRow B 5 1 (.slice A l.length c) l.length (bvs l)) (d : Nat) :
    ∃ ga ca, (l ≠ [] → w.heap[ga]? = some (.cells ca 5 (0, 0))) ∧ At5 ga ca A (bvs l) ∧ (l = [] → ga = d) := by
  rcases h.2 with ⟨hv, h0⟩ | ⟨g, cap, cur, hv, _, hh, _, _, hs, ht⟩
  · have : l = [] := List.eq_nil_of_length_eq_zero (by omega)
    subst this
    exact ⟨d, #[], fun h => absurd rfl h, At5.nil _ _ _, fun _ => rfl⟩
  · injection hv with hA _ _
    subst hA
    by_cases hl : l = []
    · subst hl
      exact ⟨d, #[], fun h => absurd rfl h, At5.nil _ _ _, fun _ => rfl⟩
    · refine ⟨g, cur, fun _ => hh, fun j u hu => ⟨0, rfl, ?_⟩, fun e => absurd e hl⟩
      rw [← ht, List.getElem?_take] at hu
      split at hu
      · simpa using hu
      · cases hu

/-- What a round of Write finds. -/
structure RWr (g pb B : Nat) (h : List Int) (all : List UInt8) (n : Int) (k : Nat) (W : World) : Prop where
  le : 64 * k ≤ all.length
  st : W.heap[g]? = some (.cells (hsCells 3 (absH h all k) (.slice none 0 0) n) 91 (0, 0))
  box : W.heap[pb]? = some (.cells #[.pointer (some ⟨g, 0, none⟩)] 84 (0, 0))

set_option maxRecDepth 100000 in
set_option maxHeartbeats 3200000 in
theorem write_o (g B : Nat) (h : List Int) (wl : List UInt8) (A : Option Addr) (c : Nat) (n : Nat) (b : List UInt8) (Ab : Option Addr) (cb : Nat) (w : World) (H : HsAt w B g h wl A c n) (hb : ∀ v, Rd (w.setCell ⟨g, 10, none⟩ v) Ab (bvs b)) (hK : Kg w) (hl : wl.length + b.length ≤ 10000000) (hn : n ≤ 1000000000000) (hB0 : 0 < B) :
    Calls Tryd.prog 48 #[.pointer (some ⟨g, 0, none⟩), .slice Ab b.length cb] w (fun e w' => ∃ A' c', e = .returned (.tuple #[]) ∧ HsAt w' B g (hwH h (wl ++ b)) (hwL (wl ++ b)) A' c' ((n + b.length : Nat) : Int) ∧ Below B w w') := by
  refine (callsIn_wide (n := 5)).1 ?_
  refine callsIn_of_wp_marks Tryd.func48 rfl trivial ?_ rfl
  simp only [Tryd.ntmps48, List.size_toArray, List.length_cons, List.length_nil, Nat.reduceAdd, Nat.reduceSub, Array.replicate_succ, Array.replicate_zero, List.push_toArray, List.append_toArray, List.nil_append, List.cons_append]
  refine wpIn_wide.2 ?_
  have hgl := H.lt
  have hBg := H.le
  have hBw : B ≤ w.heap.size := Nat.le_trans hBg (Nat.le_of_lt hgl)
  have hBw0 := hBw
  have c10 : w.cell? ⟨g, 10, none⟩ = some (.int .u64 (n : Int)) := (cell_of_row _ g 10 _ 91 (0, 0) H.blk).trans (hsCells_10 _ _ H.len _ _)
  have f10 : w.frozen? ⟨g, 10, none⟩ = false := frozen_of_row _ g 10 _ 91 H.blk
  have c9 : w.cell? ⟨g, 9, none⟩ = some (.slice A wl.length c) := (cell_of_row _ g 9 _ 91 (0, 0) H.blk).trans (hsCells_9 _ _ H.len _ _)
  have hpg : ¬ w.heap.size = g := by omega
  have H1 : HsAt (w.setCell ⟨g, 10, none⟩ (.int .u64 ((n : Int) + (b.length : Int)))) B g h wl A c ((n + b.length : Nat) : Int) := by
    refine ⟨?_, H.own.kept (row := some g) ⟨rfl, rfl, rfl, by simp, fun k hk hne => heap_setCell_other w _ k _ (fun e => hne (by simp [e]))⟩ (own_ne (t := 91) (cs' := []) H.own (fun cs fr e => by rw [H.blk] at e; injection e with e; injection e with _ e2 _; exact absurd e2 (by decide))), H.len, hBg⟩
    have := heap_setCell_same w g 10 _ 91 (.int .u64 ((n : Int) + (b.length : Int))) H.blk
    rw [hsCells_n _ _ H.len] at this
    rw [this]
    simp
  have hb1 : Below B w (w.setCell ⟨g, 10, none⟩ (.int .u64 ((n : Int) + (b.length : Int)))) := (Below.refl B w).setCell (p := ⟨g, 10, none⟩) hBg _
  have hrb := hb (.int .u64 ((n : Int) + (b.length : Int)))
  go_wp2_with (at_builtin; refine Stop.out ?_)
  refine Stop.mk ?_
  clear c10 f10 c9 hb
  obtain ⟨w1, hw1⟩ : ∃ w1, w1 = w.setCell ⟨g, 10, none⟩ (.int .u64 ((n : Int) + (b.length : Int))) := ⟨_, rfl⟩
  rw [← hw1] at H1 hb1 hrb ⊢
  have hz1 : w1.heap.size = w.heap.size := by rw [hw1]; simp
  rw [← hz1] at hgl hBw hpg ⊢
  have H2 := H1.kept (below_alloc w1 (.cells #[.pointer (some ⟨g, 0, none⟩)] 84))
  have hb2 := hb1.trans ((below_alloc w1 (.cells #[.pointer (some ⟨g, 0, none⟩)] 84)).mono hBw)
  have kp2 : (w1.alloc (.cells #[.pointer (some ⟨g, 0, none⟩)] 84)).heap[w1.heap.size]? = some (.cells #[.pointer (some ⟨g, 0, none⟩)] 84 (0, 0)) := heap_alloc_new w1 _
  have hr2 := hrb.below (below_alloc w1 (.cells #[.pointer (some ⟨g, 0, none⟩)] 84))
  generalize w1.alloc (.cells #[.pointer (some ⟨g, 0, none⟩)] 84) = w2 at H2 hb2 kp2 hr2 ⊢
  have hz12 : w1.heap.size < w2.heap.size := (Array.getElem?_eq_some_iff.1 kp2).1
  refine wpList_app _ rfl (.tmp 22) (.tmp 23) 28 rfl 5 (.int .u8 0) 1 1 B Tryd.underlying28 info5 rfl (by omega) (.slice A wl.length c) wl.length (bvs wl) rfl H2.own Ab b.length cb (bvs b) rfl (by simp [bvs_length]) hr2 (bvs_one _) (by omega) (by omega) (by omega) ?_
  intro A3 c3 w3 ho3 hg3 _
  have hall : wl.length + b.length = (wl ++ b).length := by simp
  rw [← bvs_append, hall] at ho3
  rw [hall]
  obtain ⟨all, hallE⟩ : ∃ all, all = wl ++ b := ⟨_, rfl⟩
  rw [← hallE] at ho3 hall ⊢
  have hown2 : some g ≠ (Value.slice A wl.length c).ownBlock := own_not H2.own H2.blk (by decide)
  have hbk2 : some w1.heap.size ≠ (Value.slice A wl.length c).ownBlock := own_not H2.own kp2 (by decide)
  have hst3 := (hg3.block g (by omega) hown2).trans H2.blk
  have kp3 := (hg3.block _ hz12 hbk2).trans kp2
  have hb3 : Below B w w3 := hb2.grown hg3 (by omega) (fun k e => by have := (H2.own.lt _ e).1; omega)
  have HE := Lib.hid hallE
  have HL := Lib.hid hall
  clear hw1 hb2 hb1 hr2 hrb H1 hown2 hbk2 hallE hall hz1
  have hhl := H.len
  have hgz := H2.lt
  have hz23 := hg3.size
  have c93 : w3.cell? ⟨g, 9, none⟩ = some (.slice A wl.length c) := (cell_of_row _ g 9 _ 91 (0, 0) hst3).trans (hsCells_9 _ _ hhl _ _)
  have f93 : w3.frozen? ⟨g, 9, none⟩ = false := frozen_of_row _ g 9 _ 91 hst3
  have bx3 : w3.cell? ⟨w1.heap.size, 0, none⟩ = some (.pointer (some ⟨g, 0, none⟩)) := cell_of_row _ _ 0 _ 84 (0, 0) kp3
  have hst4 : (w3.setCell ⟨g, 9, none⟩ (.slice none 0 0)).heap[g]? = some (.cells (hsCells 3 h (.slice none 0 0) ((n + b.length : Nat) : Int)) 91 (0, 0)) := by
    have := heap_setCell_same w3 g 9 _ 91 (.slice none 0 0) hst3
    rw [hsCells_wait _ _ hhl] at this
    exact this
  have c04 : (w3.setCell ⟨g, 9, none⟩ (.slice none 0 0)).cell? ⟨g, 0, none⟩ = some (.int .i64 3) := cell_of_row _ g 0 _ 91 (0, 0) hst4
  have kp4 : (w3.setCell ⟨g, 9, none⟩ (.slice none 0 0)).heap[w1.heap.size]? = some (.cells #[.pointer (some ⟨g, 0, none⟩)] 84 (0, 0)) := (heap_setCell_other _ _ _ _ (by simpa using hpg)).trans kp3
  have hb4 : Below B w (w3.setCell ⟨g, 9, none⟩ (.slice none 0 0)) := hb3.setCell (p := ⟨g, 9, none⟩) hBg _
  have ho4 : (w3.setCell ⟨g, 9, none⟩ (.slice none 0 0)).ownsRow B 5 1 (.slice A3 all.length c3) all.length (bvs all) :=
    ho3.kept (row := some g) ⟨rfl, rfl, rfl, by simp, fun k hk hne => heap_setCell_other w3 _ k _ (fun e => hne (by simp [e]))⟩ (own_ne (t := 91) (cs' := []) ho3 (fun cs fr e => by rw [hst3] at e; injection e with e; injection e with _ e2 _; exact absurd e2 (by decide)))
  go_wp2_with fail
  generalize w3.setCell ⟨g, 9, none⟩ (.slice none 0 0) = w4 at *
  refine (block_o _).mono ?_
  rintro e _ ⟨rfl, rfl⟩
  go_wp2_with fail
  refine (chunks_o _ _ _ _).mono ?_
  rintro e w5 ⟨rfl, hw5⟩
  have HW5 := Lib.hid hw5
  clear hw5
  go_wp2_with fail
  have hw5 := HW5.out
  clear HW5
  clear c93 f93 bx3 c04 ho3 hst3 kp3 hb3 hg3 kp2 H2
  have hz4 : w1.heap.size < w4.heap.size := (Array.getElem?_eq_some_iff.1 kp4).1
  have hg4 : g < w4.heap.size := (Array.getElem?_eq_some_iff.1 hst4).1
  have hbw5 : Below w4.heap.size w4 w5 := by rw [hw5]; exact (below_alloc w4 _).trans ((below_alloc _ _).mono (by simp))
  have hs5 : w5.heap.size = w4.heap.size + 2 := by rw [hw5]; simp
  have hbb : w5.heap[w4.heap.size]? = some (.cells #[.slice A3 all.length c3] 28 (0, 0)) := by rw [hw5]; exact ((below_alloc (w4.alloc (.cells #[.slice A3 all.length c3] 28)) _).block _ (by simp)).trans (heap_alloc_new w4 _)
  have hbn : w5.heap[w4.heap.size + 1]? = some (.cells #[.int .i64 64] 3 (0, 0)) := by rw [hw5]; have := heap_alloc_new (w4.alloc (.cells #[.slice A3 all.length c3] 28)) (.cells #[.int .i64 64] 3); simpa using this
  clear hw5
  have hst5 := (hbw5.block g hg4).trans hst4
  have kp5 := (hbw5.block _ hz4).trans kp4
  have ho5 := own_below ho4 hbw5
  have hb5 : Below B w w5 := hb4.trans (hbw5.mono (by omega))
  clear hst4 kp4 ho4 hb4 hbw5
  obtain ⟨ga, ca, hga, hat, hgd⟩ := own_at5 ho5 w1.heap.size
  have hgag : ga ≠ g := by
    by_cases h0 : all = []
    · rw [hgd h0]; exact hpg
    · intro e
      have := hga h0
      rw [e, hst5] at this
      injection this with this
      injection this with _ e2 _
      exact absurd e2 (by decide)
  have hgab : ga ≠ w4.heap.size := by
    by_cases h0 : all = []
    · rw [hgd h0]; omega
    · intro e
      have := hga h0
      rw [e, hbb] at this
      injection this with this
      injection this with _ e2 _
      exact absurd e2 (by decide)
  have hgas : ga < w5.heap.size := by
    by_cases h0 : all = []
    · rw [hgd h0]; omega
    · exact (Array.getElem?_eq_some_iff.1 (hga h0)).1
  have hal : all.length ≤ 100000000 := by rw [← HL.out]; omega
  have hst := chunks_told (5 - 1) (by decide) (w4.heap.size + 1) w4.heap.size ga B all ca A3 c3 hal (own_cap ho5).2.1 w5 hbn hbb hga hat (by omega) hgab (by omega)
  refine (wpIn_wide (n := 5)).1 ?_
  refine wpIn_range_told (F := Fence.wide) (n := 5) rfl (by decide) (gf := 58) (lb := #[.pointer (some ⟨w4.heap.size + 1, 0, none⟩), .pointer (some ⟨w4.heap.size, 0, none⟩)]) rfl trivial (enters_of Tryd.func58 (by kernel_rfl) rfl) hst (fun A B h => h.keeps) Kb.trans
    (fun W l o o' hl hh _ _ => Kb.put (fun k hk => by rcases hk with rfl | rfl | rfl <;> omega) W l o o' hl hh) (Below.refl _ _) (fun _ => rfl) (gc_put B all)
    (fun pre W => RWr g w1.heap.size B h all ((n + b.length : Nat) : Int) pre.length W ∧ Below B w W)
    (fun _ W => ∃ A' c', HsAt W B g (hwH h all) (hwL all) A' c' ((n + b.length : Nat) : Int) ∧ Below B w W)
    ?io ?iI ?iX ⟨⟨by simp, hst5, kp5⟩, hb5⟩ ?a1 ?assign ?body ?done ?stop
  case io =>
    rintro s A B' ⟨⟨i1, i2, i3⟩, i4⟩ ⟨v, rfl⟩
    exact ⟨⟨i1, (heap_setCell_other _ _ _ _ (by simp; omega)).trans i2, (heap_setCell_other _ _ _ _ (by simp; omega)).trans i3⟩, i4.setCell (p := ⟨w4.heap.size, 0, none⟩) (by simp; omega) _⟩
  case iI =>
    exact OwnFrom.and (Own.from (fun s A B row hs hg hr => ⟨hs.le, heap_turn hs.st hg hr, heap_turn hs.box hg hr⟩) _) (ownFrom_below hBw0 (by omega))
  case iX =>
    intro s A B' row hs hg hr
    obtain ⟨A', c', h1, h2⟩ := hs
    refine ⟨A', c', h1.turn hg (fun r e => (hr r e).2), h2.grown hg (Nat.le_trans hBw0 h2.size) (fun k e => by have := (hr k e).1; omega)⟩
  case assign =>
    intro l x W K hK
    gi_wp2
    exact hK
  case body =>
    rintro l' pre ⟨xi, xv⟩ W ⟨⟨hle, hsW, hbxW⟩, hbW⟩ ⟨hlt, Ax, cx, hx3, hxo⟩
    dsimp only at hx3
    subst hx3
    have bx : W.cell? ⟨w1.heap.size, 0, none⟩ = some (.pointer (some ⟨g, 0, none⟩)) := cell_of_row _ _ 0 _ 84 (0, 0) hbxW
    have c0 : W.cell? ⟨g, 0, none⟩ = some (.int .i64 3) := cell_of_row _ g 0 _ 91 (0, 0) hsW
    have hpl : (piece all pre.length).length = min 64 (all.length - 64 * pre.length) := by simp [piece]
    have hrdx : Rd W Ax (bvs (piece all pre.length)) := Rd.own hxo
    have hcx := (own_cap hxo).2.1
    have hKW := hK.below hbW hB0
    have HX := Lib.hid hxo
    have HBW := Lib.hid hbW
    have HLT := Lib.hid hlt
    have HPL := Lib.hid hpl
    have hmE : ∃ m, m = (piece all pre.length).length := ⟨_, rfl⟩
    obtain ⟨m, hm⟩ := hmE
    have HM := Lib.hid hm
    rw [← hm] at hxo hcx HX ⊢
    clear hxo hbW hlt hpl hm
    by_cases hs64 : m < 64
    · have hs64' : (m : Int) < 64 := by omega
      gi_wp2_with (refine ⟨trivial, ?_⟩; gi_at_call 53; refine (CallsIn.inRound _ (callsIn_wide.2 (block_o W))).mono ?_; refine Stop.out ?_)
      refine Stop.mk ?_
      try rintro e _ ⟨rfl, rfl⟩
      have f9 : W.frozen? ⟨g, 9, none⟩ = false := frozen_of_row _ g 9 _ 91 hsW
      have c9 : W.cell? ⟨g, 9, none⟩ = some (.slice none 0 0) := (cell_of_row _ g 9 _ 91 (0, 0) hsW).trans (hsCells_9 _ _ (absH_len _ _ hhl _) _ _)
      gi_wp2_with fail
      refine ⟨KeepsOthers.setCell _ _ _, Ax, cx, ?_, HBW.out.setCell (p := ⟨g, 9, none⟩) hBg _⟩
      have hmv := HM.out
      have hlt := HLT.out
      have hplv := HPL.out
      obtain ⟨u1, u2⟩ := hw_of (h := h) (all := all) (k := pre.length) (by omega) (by omega)
      have hpp : all.drop (64 * pre.length) = piece all pre.length := by
        unfold piece
        rw [List.take_of_length_le (by simp; omega)]
      rw [u1, u2, hpp]
      have hox := HX.out
      have hst' := heap_setCell_same W g 9 _ 91 (.slice Ax m cx) hsW
      rw [hsCells_wait _ _ (absH_len _ _ hhl _)] at hst'
      refine ⟨?_, ?_, absH_len _ _ hhl _, hBg⟩
      · rw [← hmv]; exact hst'
      · rw [← hmv]
        exact hox.kept (row := some g) ⟨rfl, rfl, rfl, by simp, fun k hk hne => heap_setCell_other W _ k _ (fun e => hne (by simp [e]))⟩ (own_ne (t := 91) (cs' := []) hox (fun cs fr e => by rw [hsW] at e; injection e with e; injection e with _ e2 _; exact absurd e2 (by decide)))
    · have hs64' : ¬ (m : Int) < 64 := by omega
      obtain rfl : m = 64 := by have := HM.out; have := HPL.out; omega
      gi_wp2_with (refine ⟨trivial, ?_⟩; gi_at_call 53; refine (CallsIn.inRound _ (callsIn_wide.2 (block_o W))).mono ?_; refine Stop.out ?_)
      refine Stop.mk ?_
      try rintro e _ ⟨rfl, rfl⟩
      have htk := take_o g ((n + b.length : Nat) : Int) (absH h all pre.length) (.slice none 0 0) (piece all pre.length) Ax cx W hsW (absH_len _ _ hhl _) HM.out.symm hrdx hcx hKW
      gi_wp2_with (refine ⟨trivial, ?_⟩; gi_at_call 54; refine (CallsIn.inRound _ (callsIn_wide.2 htk)).mono ?_; refine Stop.out ?_)
      refine Stop.mk ?_
      first | rintro e W2 ⟨rfl, hs2, hg2⟩ | rintro e W2 rfl hs2 hg2 | rintro W2 hs2 hg2
      clear htk
      have hlt := HLT.out
      have hplv := HPL.out
      have hmv := HM.out
      have HR : roundLeft (Kb (fun k => k = w4.heap.size + 1 ∨ k = w4.heap.size ∨ k = ga)) (fun (pre : List (Int × Value)) W => RWr g w1.heap.size B h all ((n + b.length : Nat) : Int) pre.length W ∧ Below B w W)
          (fun (_ : List (Int × Value)) W => ∃ A' c', HsAt W B g (hwH h all) (hwL all) A' c' ((n + b.length : Nat) : Int) ∧ Below B w W) (pre ++ [(xi, Value.slice Ax 64 cx)]) W .normal { tmps := #[], defers := [] } W2 := by
        refine ⟨KeepsOthers.of_grownBy hg2 (fun r o e h => by injection e with e; subst e; rw [hsW] at h; injection h with h; subst h; rfl), ⟨hg2.size, fun k hk hkl => hg2.block k hkl (fun e => by injection e with e; rcases hk with rfl | rfl | rfl <;> omega)⟩, ⟨?_, ?_, ?_⟩, HBW.out.grown hg2 (Nat.le_trans hBw0 HBW.out.size) (fun k e => by injection e with e; omega)⟩
        · simp; omega
        · rw [List.length_append]; exact hs2
        · exact (hg2.block _ (Array.getElem?_eq_some_iff.1 hbxW).1 (fun e => by injection e with e; exact hpg e)).trans hbxW
      have HR' := Lib.hid HR
      clear HR hs2 hg2 hlt hplv hmv
      gi_wp2_with fail
      exact HR'.out
  case done =>
    rintro D ys W hD ⟨hy1, hy2⟩ ⟨⟨hle, hsW, hbxW⟩, hbW⟩ hK'
    refine ⟨by simp, .inl ⟨_, _, rfl, run_takeDeferred hK', ?_⟩⟩
    refine ⟨_, results_none rfl _ _ _, none, 0, rfl, ?_, hbW.grown (grownBy_putObj' _ D _) (Nat.le_trans hBw0 hbW.size) (fun k e => by cases e; omega)⟩
    obtain ⟨u1, u2⟩ := hw_of (h := h) (all := all) (k := ys.length) (by omega) (by omega)
    rw [← HE.out, u1, u2, List.drop_of_length_le (by omega)]
    exact ⟨heap_turn hsW (grownBy_putObj' _ D _) (fun r e => by cases e; exact ⟨_, hK', rfl⟩), World.ownsRow_nil _ _ _ _, absH_len _ _ hhl _, hBg⟩
  case stop =>
    rintro D pre W hD ⟨A', c', hHs, hbW⟩ hK'
    refine wpIn_wide.2 ?_
    go_wp2_with fail
    refine ⟨by simp, .inl ⟨_, _, rfl, run_takeDeferred hK', ?_⟩⟩
    refine ⟨_, results_none rfl _ _ _, A', c', rfl, ?_, hbW.grown (grownBy_putObj' _ D _) (Nat.le_trans hBw0 hbW.size) (fun k e => by cases e; omega)⟩
    rw [← HE.out]
    exact hHs.turn (grownBy_putObj' _ D _) (fun r e => by cases e; exact ⟨_, hK', rfl⟩)
end Go.Proofs.YtbjbjnbloddioaaDoor
