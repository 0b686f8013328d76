/- A call written as a frame. -/
import Derived.Test.YtekblnaogncplaaD
set_option linter.unusedVariables false
set_option linter.unusedSimpArgs false
namespace Go.Proofs.Ytekblnaogncplaa
open Go.RowKit

/-- Bytes that may be, made by the call: what a function of a frame gives back. -/
def Gives (w w' : World) (e : Ending) (r : Option (List UInt8)) : Prop :=
  ∃ A c, e = .returned (.tuple #[.slice A (r.getD []).length c, .bool r.isSome]) ∧ (r.getD []).length ≤ c ∧
    w'.ownsRow w.heap.size 5 1 (.slice A (r.getD []).length c) (r.getD []).length (bvs (r.getD [])) ∧ Below w.heap.size w w'

set_option maxRecDepth 100000 in
set_option maxHeartbeats 400000 in
theorem frame_o (g B N : Nat) (o : Option (List UInt8)) (w : World) (hW : WrO w B g N o) (hN : N ≤ 1000000000000) :
    Calls Try.prog 25 #[.pointer (some ⟨g, 0, none⟩)] w (fun e w' => Gives w w' e (oframe o)) := by
  have hle := hW.le
  obtain ⟨A, c, l, bad, h, hl, rfl⟩ := hW.open_
  have hc0 : w.cell? ⟨g, 0, none⟩ = some (.slice A l.length c) := cell_of_row w g 0 _ 58 (0, 0) h.blk
  have hc1 : w.cell? ⟨g, 1, none⟩ = some (.bool bad) := cell_of_row w g 1 _ 58 (0, 0) h.blk
  cases bad with
  | true =>
    go_enter Try.func25, Try.ntmps25
    go_wp2
    go_ret2
    exact ⟨none, 0, rfl, Nat.le_refl _, World.ownsRow_nil _ _ _ _, Below.refl _ _⟩
  | false =>
    by_cases hbig : 262144 < l.length
    · have hb' : (262144 : Int) < (l.length : Int) := by omega
      go_enter Try.func25, Try.ntmps25
      go_wp2
      go_ret2
      have e : oframe (some l) = none := by simp [oframe, hbig]
      rw [e]
      exact ⟨none, 0, rfl, Nat.le_refl _, World.ownsRow_nil _ _ _ _, Below.refl _ _⟩
    · have hb' : (l.length : Int) ≤ 262144 := by omega
      go_enter Try.func25, Try.ntmps25
      go_wp2_with fail
      refine wp_region_seg [11] [[0, 1, 2, 3, 4, 5, 7, 8, 9, 10, 6], [11, 12, 13]] (by kernel_rfl) (by kernel_rfl) ?_
      simp only [Seg, pick_cons, pick_nil, List.getElem?_toArray, List.getElem?_cons_zero, List.getElem?_cons_succ, Option.toList_some, List.cons_append, List.nil_append]
      go_wp2_with fail
      refine (append32 l.length (by omega) _).mono ?_
      rintro e w1 ⟨A1, c1, rfl, hc1', ho1, hb1'⟩
      have hb1 := of_drew hb1'
      go_wp2_with fail
      refine Fin.intro ⟨by kernel_rfl, Old.of_below hb1', ?_⟩
      go_wp2_with (at_builtin; refine Stop.out ?_)
      refine Stop.mk ?_
      refine wpList_app _ rfl (.tmp 22) (.tmp 26) 22 rfl 5 (.int .u8 0) 1 1 w.heap.size Try.underlying22 info5 rfl (by omega) (.slice A1 4 c1) 4 (bvs (be l.length 4)) rfl ho1 A l.length c (bvs l) rfl (by simp [bvs_length]) ((Rd.own h.own).below hb1) (bvs_one _) (by omega) (by omega) hb1.size ?_
      intro A' c' w2 ho2 hg hat
      go_wp2
      refine Fin.intro ⟨by kernel_rfl, ?_⟩
      go_wp2
      go_ret2
      have e : oframe (some l) = some (be l.length 4 ++ l) := by simp [oframe, hbig]
      rw [e]
      have e2 : (be l.length 4 ++ l).length = 4 + l.length := by simp [be_length]
      refine ⟨A', c', by simp [e2], by rw [Option.getD_some, e2]; exact (own_cap ho2).2.1, by rw [Option.getD_some, e2, bvs_append]; exact ho2, ?_⟩
      exact hb1.grown hg hb1.size (fun k hk => (ho1.lt k hk).1)

/-- A call, its parts read. -/
structure CallD where
  fn : Int
  session : Int
  a : Int
  b : Int
  n : Int
  kind : Int
  param : List UInt8
  data : List UInt8
  more : List UInt8
  t1 : List AttrD
  t2 : List AttrD

/-- Where a call's parts lie. -/
structure CallP where
  p : Option Addr
  pc : Nat
  d : Option Addr
  dc : Nat
  m : Option Addr
  mc : Nat
  t1 : Option Addr
  c1 : Nat
  t2 : Option Addr
  c2 : Nat

/-- Its cells. -/
def callCells (x : CallD) (p : CallP) : Array Value :=
  #[.int .i64 x.fn, .int .i64 x.session, .int .i64 x.a, .int .i64 x.b, .int .i64 x.n, .int .i64 x.kind, .slice p.p x.param.length p.pc, .slice p.d x.data.length p.dc, .slice p.m x.more.length p.mc,
    .slice p.t1 x.t1.length p.c1, .slice p.t2 x.t2.length p.c2]

/-- They lie there, below block U. -/
structure CallU (w : World) (U : Nat) (x : CallD) (p : CallP) : Prop where
  param : RdU w U p.p (bvs x.param)
  pc : x.param.length ≤ p.pc
  data : RdU w U p.d (bvs x.data)
  dc : x.data.length ≤ p.dc
  more : RdU w U p.m (bvs x.more)
  mc : x.more.length ≤ p.mc
  t1 : AtU w U p.t1 x.t1
  c1 : x.t1.length ≤ p.c1
  t2 : AtU w U p.t2 x.t2
  c2 : x.t2.length ≤ p.c2
theorem CallU.below {w w' : World} {U : Nat} {x : CallD} {p : CallP} (h : CallU w U x p) (hb : Below U w w') : CallU w' U x p :=
  ⟨h.param.below hb, h.pc, h.data.below hb, h.dc, h.more.below hb, h.mc, h.t1.below hb, h.c1, h.t2.below hb, h.c2⟩
theorem CallU.more_ {w : World} {U U' : Nat} {x : CallD} {p : CallP} (h : CallU w U x p) (hU : U ≤ U') : CallU w U' x p :=
  ⟨h.param.more hU, h.pc, h.data.more hU, h.dc, h.more.more hU, h.mc, h.t1.more hU, h.c1, h.t2.more hU, h.c2⟩

/-- Its lengths are no greater than M. -/
structure CallM (M : Nat) (x : CallD) : Prop where
  param : x.param.length ≤ M
  data : x.data.length ≤ M
  more : x.more.length ≤ M
  t1 : x.t1.length ≤ M
  t2 : x.t2.length ≤ M
  v1 : ∀ a ∈ x.t1, a.2.length ≤ M
  v2 : ∀ a ∈ x.t2, a.2.length ≤ M

/-- A call as a frame. -/
def encCall (x : CallD) : Option (List UInt8) :=
  let o := oput (oput (oput (oput (oput (oput (some []) x.fn 1 255) x.session 4 2147483647) x.a 4 2147483647) x.b 4 2147483647) x.n 4 2147483647) x.kind 4 2147483647
  oframe (oattrs (oattrs (obytes (obytes (obytes o x.param 2 65535) x.data 4 65536) x.more 2 65535) x.t1) x.t2)

theorem own_less {w : World} {b b' : Nat} {e : TypeId} {k n : Nat} {v : Value} {xs : List Value} (h : w.ownsRow b e k v n xs) (hb : b' ≤ b) : w.ownsRow b' e k v n xs := by
  refine ⟨h.1, ?_⟩
  rcases h.2 with h2 | ⟨g, cap, cur, hv, hg, rest⟩
  · exact .inl h2
  · exact .inr ⟨g, cap, cur, hv, by omega, rest⟩
theorem Gives.from_ {w w1 w2 : World} {e : Ending} {r : Option (List UInt8)} (h : Gives w1 w2 e r) (hb : Below w.heap.size w w1) : Gives w w2 e r := by
  obtain ⟨A, c, he, hc, ho, hb2⟩ := h
  exact ⟨A, c, he, hc, own_less ho hb.size, hb.trans (hb2.mono hb.size)⟩

/-- What stands between two steps of writing a call. -/
structure CallAt (w w1 : World) (x : CallD) (p : CallP) : Prop where
  blk : w1.heap[w.heap.size]? = some (.cells (callCells x p) 27 (0, 0))
  args : CallU w1 (w.heap.size + 1) x p
  below : Below w.heap.size w w1
  size : w.heap.size + 1 < w1.heap.size
theorem CallAt.next {w w1 w2 : World} {x : CallD} {p : CallP} (h : CallAt w w1 x p) (hf : WFr (w.heap.size + 1) (w.heap.size + 1) w1 w2) : CallAt w w2 x p := by
  have hs := h.size
  have hf' := hf.below (Nat.le_refl _) (by omega)
  exact ⟨hf.blk h.blk (by omega) (by decide), h.args.below hf', h.below.trans (hf'.mono (Nat.le_succ _)), Nat.lt_of_lt_of_le hs hf.size⟩
theorem CallAt.cell {w w1 : World} {x : CallD} {p : CallP} (h : CallAt w w1 x p) (j : Nat) : w1.cell? ⟨w.heap.size, j, none⟩ = (callCells x p)[j]? := cell_of_row w1 _ j _ 27 (0, 0) h.blk

theorem cell_via {W0 wk : World} {B b : Nat} {cs : Array Value} {t : TypeId} {fr : Nat × Nat} (h0 : W0.heap[b]? = some (.cells cs t fr)) (hb : Below B W0 wk) (hB : b < B) (j : Nat) : wk.cell? ⟨b, j, none⟩ = cs[j]? :=
  (hb.cell (p := ⟨b, j, none⟩) hB).trans (cell_of_row W0 b j cs t fr h0)

set_option maxRecDepth 100000 in
set_option maxHeartbeats 800000 in
theorem call_o (x : CallD) (p : CallP) (M : Nat) (w : World) (hx : CallU w w.heap.size x p) (hM : CallM M x) (hMs : M ≤ 100000) :
    Calls Try.prog 9 #[.agg (callCells x p)] w (fun e w' => Gives w w' e (encCall x)) := by
  have hsq : x.t1.length * (M + 8) ≤ 20000000000 ∧ x.t2.length * (M + 8) ≤ 20000000000 := by
    have h1 : x.t1.length * (M + 8) ≤ 100000 * (M + 8) := Nat.mul_le_mul_right _ (Nat.le_trans hM.t1 hMs)
    have h2 : x.t2.length * (M + 8) ≤ 100000 * (M + 8) := Nat.mul_le_mul_right _ (Nat.le_trans hM.t2 hMs)
    omega
  have l1 := hM.param
  have l2 := hM.data
  have l3 := hM.more
  have hblk : ((w.alloc (.cells (callCells x p) 27)).alloc (.cells #[.slice none 0 0, .bool false] 58)).heap[w.heap.size]? = some (.cells (callCells x p) 27 (0, 0)) := by
    rw [Below.heap_alloc _ _ _ (by simp)]
    exact heap_alloc_new w _
  have hwr : WrO ((w.alloc (.cells (callCells x p) 27)).alloc (.cells #[.slice none 0 0, .bool false] 58)) (w.heap.size + 1) (w.heap.size + 1) 0 (some []) :=
    ⟨none, 0, ⟨by simpa using heap_alloc_new (w.alloc (.cells (callCells x p) 27)) _, World.ownsRow_nil _ _ _ _, Nat.le_refl _⟩, Nat.le_refl _⟩
  have hbw : Below w.heap.size w ((w.alloc (.cells (callCells x p) 27)).alloc (.cells #[.slice none 0 0, .bool false] 58)) := (below_alloc w _).alloc (by simp) _
  have hx0 := (hx.below hbw).more_ (Nat.le_succ _)
  unfold callCells at hwr ⊢
  go_enter Try.func9, Try.ntmps9
  go_wp2_with fail
  refine (put_o x.fn 1 (.inl rfl) 255 (by omega) _ _ 0 _ _ hwr (by omega)).mono ?_
  rintro e w1 ⟨rfl, hW1, hf1⟩
  have hf1' := hf1.below (Nat.le_refl _) (by simp)
  have hk1 := hf1.blk hblk (by omega) (by decide)
  have hx1 := hx0.below hf1'
  have hb1 := hbw.trans (hf1'.mono (Nat.le_succ _))
  have hs1 : w.heap.size + 1 < w1.heap.size := hW1.le.2
  clear hf1 hf1' hblk hbw hx0 hwr
  have g1 : w1.cell? ⟨w.heap.size, 1, none⟩ = some (.int .i64 x.session) := cell_of_row w1 _ 1 _ 27 (0, 0) hk1
  have g2 : w1.cell? ⟨w.heap.size, 2, none⟩ = some (.int .i64 x.a) := cell_of_row w1 _ 2 _ 27 (0, 0) hk1
  have g3 : w1.cell? ⟨w.heap.size, 3, none⟩ = some (.int .i64 x.b) := cell_of_row w1 _ 3 _ 27 (0, 0) hk1
  have g4 : w1.cell? ⟨w.heap.size, 4, none⟩ = some (.int .i64 x.n) := cell_of_row w1 _ 4 _ 27 (0, 0) hk1
  have g5 : w1.cell? ⟨w.heap.size, 5, none⟩ = some (.int .i64 x.kind) := cell_of_row w1 _ 5 _ 27 (0, 0) hk1
  go_wp2_with fail
  clear g1 g2 g3 g4 g5
  go_loopw [26] (fun i wr => ∃ k : Nat, k ≤ 5 ∧ i = .int .i64 k ∧ WrO wr (w.heap.size + 1) (w.heap.size + 1) (4 + k * 4) (([x.session, x.a, x.b, x.n, x.kind].take k).foldl (fun o n => oput o n 4 2147483647) (oput (some []) x.fn 1 255)) ∧
      WFr (w.heap.size + 1) (w.heap.size + 1) (w1.alloc (.cells #[.int .i64 x.session, .int .i64 x.a, .int .i64 x.b, .int .i64 x.n, .int .i64 x.kind] 3)) wr) (fun i _ => 5 - (intOf i).toNat)
  case atStart => exact ⟨0, by omega, rfl, hW1.kept (below_alloc _ _), WFr.refl _ _ _⟩
  case round =>
    obtain ⟨k, hk, rfl, hWk, hfk⟩ := hrel
    by_cases hlt : k < 5
    · have hblk5 := hfk.blk (heap_alloc_new w1 _) (by omega) (by decide)
      have hck : wr.cell? ⟨w1.heap.size, k, none⟩ = some (.int .i64 ([x.session, x.a, x.b, x.n, x.kind][k])) := by
        rw [cell_of_row wr _ k _ 3 (0, 0) hblk5]
        match k, hlt with
        | 0, _ => rfl
        | 1, _ => rfl
        | 2, _ => rfl
        | 3, _ => rfl
        | 4, _ => rfl
      go_wp2_with fail
      refine (put_o _ 4 (.inr (.inr rfl)) 2147483647 (by omega) _ _ _ _ wr hWk (by omega)).mono ?_
      rintro e w2 ⟨rfl, hW2, hf2⟩
      go_wp2_with fail
      go_roundw
      case rel =>
        refine ⟨k + 1, hlt, by go_num, ?_, hfk.trans hf2⟩
        rw [List.take_succ_eq_append_getElem (by simpa using hlt), List.foldl_append]
        exact hW2.more (by omega)
      case measure => simp [intOf]; omega
    · obtain rfl : k = 5 := by omega
      have A0 : CallAt w w1 x p := ⟨hk1, hx1, hb1, hs1⟩
      have A1 := (A0.next (WFr.of_below (below_alloc w1 _))).next hfk
      clear A0 hfk hk1 hx1 hb1 hW1 hs1
      have g1 : wr.cell? ⟨w.heap.size, 6, none⟩ = some (.slice p.p x.param.length p.pc) := A1.cell 6
      go_wp2_with fail
      refine (bytes_o x.param p.p p.pc 2 (.inr (.inl rfl)) 65535 (by omega) _ _ _ _ wr hWk (by omega) A1.args.param).mono ?_
      rintro e w2 ⟨rfl, hW2, hf2⟩
      have A2 := A1.next hf2
      clear A1 hf2 hWk g1
      have g1 : w2.cell? ⟨w.heap.size, 7, none⟩ = some (.slice p.d x.data.length p.dc) := A2.cell 7
      go_wp2_with fail
      refine (bytes_o x.data p.d p.dc 4 (.inr (.inr rfl)) 65536 (by omega) _ _ _ _ w2 hW2 (by omega) A2.args.data).mono ?_
      rintro e w3 ⟨rfl, hW3, hf3⟩
      have A3 := A2.next hf3
      clear A2 hf3 hW2 g1
      have g1 : w3.cell? ⟨w.heap.size, 8, none⟩ = some (.slice p.m x.more.length p.mc) := A3.cell 8
      go_wp2_with fail
      refine (bytes_o x.more p.m p.mc 2 (.inr (.inl rfl)) 65535 (by omega) _ _ _ _ w3 hW3 (by omega) A3.args.more).mono ?_
      rintro e w4 ⟨rfl, hW4, hf4⟩
      have A4 := A3.next hf4
      clear A3 hf4 hW3 g1
      have g1 : w4.cell? ⟨w.heap.size, 9, none⟩ = some (.slice p.t1 x.t1.length p.c1) := A4.cell 9
      go_wp2_with fail
      refine (attrs_o x.t1 p.t1 p.c1 _ _ _ M _ w4 hW4 A4.args.t1 hM.v1 (by omega)).mono ?_
      rintro e w5 ⟨rfl, hW5, hf5⟩
      have A5 := A4.next hf5
      clear A4 hf5 hW4 g1
      have g1 : w5.cell? ⟨w.heap.size, 10, none⟩ = some (.slice p.t2 x.t2.length p.c2) := A5.cell 10
      go_wp2_with fail
      refine (attrs_o x.t2 p.t2 p.c2 _ _ _ M _ w5 hW5 A5.args.t2 hM.v2 (by omega)).mono ?_
      rintro e w6 ⟨rfl, hW6, hf6⟩
      have A6 := A5.next hf6
      clear A5 hf6 hW5 g1
      go_wp2_with fail
      refine (frame_o _ _ _ _ w6 hW6 (by omega)).mono ?_
      intro e w7 hG
      obtain ⟨A, c, rfl, hc, ho, hb⟩ := hG.from_ A6.below
      go_wp2
      go_ret2
      exact ⟨A, c, by simp; exact ⟨rfl, rfl⟩, hc, ho, hb⟩
end Go.Proofs.Ytekblnaogncplaa
