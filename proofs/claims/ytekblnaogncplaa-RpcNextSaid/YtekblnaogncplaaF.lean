/- A reply written as a frame. -/
import Derived.Test.YtekblnaogncplaaE
set_option linter.unusedVariables false
set_option linter.unusedSimpArgs false
namespace Go.Proofs.Ytekblnaogncplaa
open Go.RowKit

def ints (l : List Int) : List Value := l.map (Value.int .i64)
/-- A reply, its parts read. -/
structure ReplyD where
  rv : Int
  a : Int
  b : Int
  data : List UInt8
  list : List Int
  attrs : List AttrD
/-- Where a reply's parts lie. -/
structure ReplyP where
  d : Option Addr
  dc : Nat
  l : Option Addr
  lc : Nat
  t : Option Addr
  tc : Nat
def replyCells (x : ReplyD) (p : ReplyP) : Array Value :=
  #[.int .i64 x.rv, .int .i64 x.a, .int .i64 x.b, .slice p.d x.data.length p.dc, .slice p.l x.list.length p.lc, .slice p.t x.attrs.length p.tc]
structure ReplyU (w : World) (U : Nat) (x : ReplyD) (p : ReplyP) : Prop where
  data : RdU w U p.d (bvs x.data)
  dc : x.data.length ≤ p.dc
  list : RdU w U p.l (ints x.list)
  lc : x.list.length ≤ p.lc
  attrs : AtU w U p.t x.attrs
  tc : x.attrs.length ≤ p.tc
theorem ReplyU.below {w w' : World} {U : Nat} {x : ReplyD} {p : ReplyP} (h : ReplyU w U x p) (hb : Below U w w') : ReplyU w' U x p :=
  ⟨h.data.below hb, h.dc, h.list.below hb, h.lc, h.attrs.below hb, h.tc⟩
theorem ReplyU.more_ {w : World} {U U' : Nat} {x : ReplyD} {p : ReplyP} (h : ReplyU w U x p) (hU : U ≤ U') : ReplyU w U' x p :=
  ⟨h.data.more hU, h.dc, h.list.more hU, h.lc, h.attrs.more hU, h.tc⟩
structure ReplyM (M : Nat) (x : ReplyD) : Prop where
  data : x.data.length ≤ M
  list : x.list.length ≤ M
  attrs : x.attrs.length ≤ M
  v : ∀ a ∈ x.attrs, a.2.length ≤ M

def oputs (o : Option (List UInt8)) (l : List Int) : Option (List UInt8) := l.foldl (fun o n => oput o n 4 2147483647) o
def encReply (x : ReplyD) : Option (List UInt8) :=
  oframe (oattrs (oputs (oput (obytes (oputs (some []) [x.rv, x.a, x.b]) x.data 4 65536) x.list.length 2 1024) (x.list.take 1024)) x.attrs)

structure ReplyAt (w w1 : World) (x : ReplyD) (p : ReplyP) : Prop where
  blk : w1.heap[w.heap.size]? = some (.cells (replyCells x p) 48 (0, 0))
  args : ReplyU w1 (w.heap.size + 1) x p
  below : Below w.heap.size w w1
  size : w.heap.size + 1 < w1.heap.size
theorem ReplyAt.next {w w1 w2 : World} {x : ReplyD} {p : ReplyP} (h : ReplyAt w w1 x p) (hf : WFr (w.heap.size + 1) (w.heap.size + 1) w1 w2) : ReplyAt w w2 x p := by
  have hs := h.size
  have hf' := hf.below (Nat.le_refl _) (by omega)
  exact ⟨hf.blk h.blk (by omega) (by decide), h.args.below hf', h.below.trans (hf'.mono (Nat.le_succ _)), Nat.lt_of_lt_of_le hs hf.size⟩
theorem ReplyAt.cell {w w1 : World} {x : ReplyD} {p : ReplyP} (h : ReplyAt w w1 x p) (j : Nat) : w1.cell? ⟨w.heap.size, j, none⟩ = (replyCells x p)[j]? := cell_of_row w1 _ j _ 48 (0, 0) h.blk

set_option maxRecDepth 100000 in
set_option maxHeartbeats 800000 in
theorem reply_o (x : ReplyD) (p : ReplyP) (M : Nat) (w : World) (hx : ReplyU w w.heap.size x p) (hM : ReplyM M x) (hMs : M ≤ 100000) :
    Calls Try.prog 17 #[.agg (replyCells x p)] w (fun e w' => Gives w w' e (encReply x)) := by
  have hsq : x.attrs.length * (M + 8) ≤ 20000000000 := by
    have h1 : x.attrs.length * (M + 8) ≤ 100000 * (M + 8) := Nat.mul_le_mul_right _ (Nat.le_trans hM.attrs hMs)
    omega
  have l1 := hM.data
  have l2 := hM.list
  have hblk : ((w.alloc (.cells (replyCells x p) 48)).alloc (.cells #[.slice none 0 0, .bool false] 58)).heap[w.heap.size]? = some (.cells (replyCells x p) 48 (0, 0)) := by
    rw [Below.heap_alloc _ _ _ (by simp)]
    exact heap_alloc_new w _
  have hwr : WrO ((w.alloc (.cells (replyCells x p) 48)).alloc (.cells #[.slice none 0 0, .bool false] 58)) (w.heap.size + 1) (w.heap.size + 1) 0 (some []) :=
    ⟨none, 0, ⟨by simpa using heap_alloc_new (w.alloc (.cells (replyCells x p) 48)) _, World.ownsRow_nil _ _ _ _, Nat.le_refl _⟩, Nat.le_refl _⟩
  have hbw : Below w.heap.size w ((w.alloc (.cells (replyCells x p) 48)).alloc (.cells #[.slice none 0 0, .bool false] 58)) := (below_alloc w _).alloc (by simp) _
  have A0 : ReplyAt w _ x p := ⟨hblk, (hx.below hbw).more_ (Nat.le_succ _), hbw, by simp⟩
  clear hblk hbw
  unfold replyCells at hwr ⊢
  go_enter Try.func17, Try.ntmps17
  go_wp2_with fail
  go_loopw [19] (fun i wr => ∃ k : Nat, k ≤ 3 ∧ i = .int .i64 k ∧ WrO wr (w.heap.size + 1) (w.heap.size + 1) (k * 4) (oputs (some []) ([x.rv, x.a, x.b].take k)) ∧
      WFr (w.heap.size + 1) (w.heap.size + 1) (((w.alloc (.cells (replyCells x p) 48)).alloc (.cells #[.slice none 0 0, .bool false] 58)).alloc (.cells #[.int .i64 x.rv, .int .i64 x.a, .int .i64 x.b] 3)) wr) (fun i _ => 3 - (intOf i).toNat)
  case atStart => exact ⟨0, by omega, rfl, hwr.kept (below_alloc _ _), WFr.refl _ _ _⟩
  case round =>
    obtain ⟨k, hk, rfl, hWk, hfk⟩ := hrel
    by_cases hlt : k < 3
    · have hblk3 := hfk.blk (heap_alloc_new ((w.alloc (.cells (replyCells x p) 48)).alloc (.cells #[.slice none 0 0, .bool false] 58)) _) (by simp) (by decide)
      have hck : wr.cell? ⟨w.heap.size + 1 + 1, k, none⟩ = some (.int .i64 ([x.rv, x.a, x.b][k])) := by
        have := cell_of_row wr _ k _ 3 (0, 0) hblk3
        simp only [World.size_alloc] at this
        rw [this]
        match k, hlt with
        | 0, _ => rfl
        | 1, _ => rfl
        | 2, _ => rfl
      go_wp2_with fail
      refine (put_o _ 4 (.inr (.inr rfl)) 2147483647 (by omega) _ _ _ _ wr hWk (by omega)).mono ?_
      rintro e w2 ⟨rfl, hW2, hf2⟩
      go_wp2_with fail
      go_roundw
      case rel =>
        refine ⟨k + 1, hlt, by go_num, ?_, hfk.trans hf2⟩
        unfold oputs
        rw [List.take_succ_eq_append_getElem (by simpa using hlt), List.foldl_append]
        exact hW2.more (by omega)
      case measure => simp [intOf]; omega
    · obtain rfl : k = 3 := by omega
      have A1 := (A0.next (WFr.of_below (below_alloc _ _))).next hfk
      clear A0 hfk hwr
      have g1 : wr.cell? ⟨w.heap.size, 3, none⟩ = some (.slice p.d x.data.length p.dc) := A1.cell 3
      go_wp2_with fail
      refine (bytes_o x.data p.d p.dc 4 (.inr (.inr rfl)) 65536 (by omega) _ _ _ _ wr hWk (by omega) A1.args.data).mono ?_
      rintro e w2 ⟨rfl, hW2, hf2⟩
      have A2 := A1.next hf2
      clear A1 hf2 hWk g1
      have g1 : w2.cell? ⟨w.heap.size, 4, none⟩ = some (.slice p.l x.list.length p.lc) := A2.cell 4
      go_wp2_with fail
      refine (put_o _ 2 (.inr (.inl rfl)) 1024 (by omega) _ _ _ _ w2 hW2 (by omega)).mono ?_
      rintro e w3 ⟨rfl, hW3, hf3⟩
      have A3 := A2.next hf3
      clear A2 hf3 hW2 g1
      have g1 : w3.cell? ⟨w.heap.size, 4, none⟩ = some (.slice p.l x.list.length p.lc) := A3.cell 4
      have hlc := A3.args.lc
      by_cases hbig : x.list.length ≤ 1024
      · have hb' : (x.list.length : Int) ≤ 1024 := by omega
        have hli := A3.args.list
        go_wp2_with fail
        go_loopw [44] (fun i wr => ∃ k : Nat, k ≤ x.list.length ∧ i = .int .i64 k ∧ WrO wr (w.heap.size + 1) (w.heap.size + 1) (3 * 4 + 4 + x.data.length + 4 + k * 4) (oputs (oput (obytes (oputs (some []) ([x.rv, x.a, x.b].take 3)) x.data 4 65536) x.list.length 2 1024) (x.list.take k)) ∧
            WFr (w.heap.size + 1) (w.heap.size + 1) w3 wr) (fun i _ => x.list.length - (intOf i).toNat)
        case atStart => exact ⟨0, by omega, rfl, hW3, WFr.refl _ _ _⟩
        case round =>
          obtain ⟨k, hk, rfl, hWk, hfk⟩ := hrel
          by_cases hlt : k < x.list.length
          · have hkl : k < x.list.length := by omega
            obtain ⟨gl, ol, hpl, hgl, hcl⟩ := (hli.below (hfk.below (Nat.le_refl _) (by have := A3.size; omega))).at_ (j := k) (by simpa [ints] using hkl)
            have hcl' : wr.cell? ⟨gl, ol + k, none⟩ = some (.int .i64 x.list[k]) := by simpa [ints] using hcl
            clear hcl
            have HP := Lib.hid hpl
            clear hpl
            rw [HP.out]
            go_wp2_with fail
            refine (put_o _ 4 (.inr (.inr rfl)) 2147483647 (by omega) _ _ _ _ wr hWk (by omega)).mono ?_
            rintro e w4 ⟨rfl, hW4, hf4⟩
            go_wp2_with fail
            go_roundw
            case rel =>
              refine ⟨k + 1, hlt, by go_num, ?_, hfk.trans hf4⟩
              unfold oputs at hW4 ⊢
              rw [List.take_succ_eq_append_getElem hkl, List.foldl_append]
              exact hW4.more (by omega)
            case measure => simp [intOf]; omega
          · obtain rfl : k = x.list.length := by omega
            have A4 := A3.next hfk
            clear A3 hfk hW3
            have g1 : wr.cell? ⟨w.heap.size, 5, none⟩ = some (.slice p.t x.attrs.length p.tc) := A4.cell 5
            go_wp2_with fail
            refine (attrs_o x.attrs p.t p.tc _ _ _ M _ wr hWk A4.args.attrs hM.v (by omega)).mono ?_
            rintro e w5 ⟨rfl, hW5, hf5⟩
            have A5 := A4.next hf5
            clear A4 hf5 hWk g1
            go_wp2_with fail
            refine (frame_o _ _ _ _ w5 hW5 (by omega)).mono ?_
            intro e w7 hG
            obtain ⟨A, c, rfl, hc, ho, hb⟩ := hG.from_ A5.below
            have he : encReply x = oframe (oattrs (oputs (oput (obytes (oputs (some []) ([x.rv, x.a, x.b].take 3)) x.data 4 65536) x.list.length 2 1024) (x.list.take x.list.length)) x.attrs) := by
              unfold encReply
              rw [show x.list.take 1024 = x.list.take (x.list.length) from by rw [List.take_of_length_le hbig, List.take_length]]
              rfl
            have HE := Lib.hid he
            clear he
            go_wp2
            go_ret2
            rw [HE.out]
            exact ⟨A, c, by simp, hc, ho, hb⟩
      · have hb' : (1024 : Int) < (x.list.length : Int) := by omega
        have hmx : max (1024 : Int) 0 = ((1024 : Nat) : Int) := rfl
        have hli := A3.args.list
        go_wp2_with fail
        go_loopw [44] (fun i wr => ∃ k : Nat, k ≤ 1024 ∧ i = .int .i64 k ∧ WrO wr (w.heap.size + 1) (w.heap.size + 1) (3 * 4 + 4 + x.data.length + 4 + k * 4) (oputs (oput (obytes (oputs (some []) ([x.rv, x.a, x.b].take 3)) x.data 4 65536) x.list.length 2 1024) (x.list.take k)) ∧
            WFr (w.heap.size + 1) (w.heap.size + 1) w3 wr) (fun i _ => 1024 - (intOf i).toNat)
        case atStart => exact ⟨0, by omega, rfl, hW3, WFr.refl _ _ _⟩
        case round =>
          obtain ⟨k, hk, rfl, hWk, hfk⟩ := hrel
          by_cases hlt : k < 1024
          · have hkl : k < x.list.length := by omega
            obtain ⟨gl, ol, hpl, hgl, hcl⟩ := (hli.below (hfk.below (Nat.le_refl _) (by have := A3.size; omega))).at_ (j := k) (by simpa [ints] using hkl)
            have hcl' : wr.cell? ⟨gl, ol + k, none⟩ = some (.int .i64 x.list[k]) := by simpa [ints] using hcl
            clear hcl
            have HP := Lib.hid hpl
            clear hpl
            rw [HP.out]
            go_wp2_with fail
            refine (put_o _ 4 (.inr (.inr rfl)) 2147483647 (by omega) _ _ _ _ wr hWk (by omega)).mono ?_
            rintro e w4 ⟨rfl, hW4, hf4⟩
            go_wp2_with fail
            go_roundw
            case rel =>
              refine ⟨k + 1, hlt, by go_num, ?_, hfk.trans hf4⟩
              unfold oputs at hW4 ⊢
              rw [List.take_succ_eq_append_getElem hkl, List.foldl_append]
              exact hW4.more (by omega)
            case measure => simp [intOf]; omega
          · obtain rfl : k = 1024 := by omega
            have A4 := A3.next hfk
            clear A3 hfk hW3
            have g1 : wr.cell? ⟨w.heap.size, 5, none⟩ = some (.slice p.t x.attrs.length p.tc) := A4.cell 5
            go_wp2_with fail
            refine (attrs_o x.attrs p.t p.tc _ _ _ M _ wr hWk A4.args.attrs hM.v (by omega)).mono ?_
            rintro e w5 ⟨rfl, hW5, hf5⟩
            have A5 := A4.next hf5
            clear A4 hf5 hWk g1
            go_wp2_with fail
            refine (frame_o _ _ _ _ w5 hW5 (by omega)).mono ?_
            intro e w7 hG
            obtain ⟨A, c, rfl, hc, ho, hb⟩ := hG.from_ A5.below
            have he : encReply x = oframe (oattrs (oputs (oput (obytes (oputs (some []) ([x.rv, x.a, x.b].take 3)) x.data 4 65536) x.list.length 2 1024) (x.list.take 1024)) x.attrs) := by
              unfold encReply
              rw [show x.list.take 1024 = x.list.take (1024) from rfl]
              rfl
            have HE := Lib.hid he
            clear he
            go_wp2
            go_ret2
            rw [HE.out]
            exact ⟨A, c, by simp, hc, ho, hb⟩
end Go.Proofs.Ytekblnaogncplaa
