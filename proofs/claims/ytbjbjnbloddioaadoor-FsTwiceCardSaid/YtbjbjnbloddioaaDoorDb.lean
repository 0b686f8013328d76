/- SHA-256's block, as the program reckons it. -/
import Derived.Test.YtbjbjnbloddioaaDoorDa
import Derived.Outline
set_option linter.unusedVariables false
set_option linter.unusedSimpArgs false
namespace Go.Proofs.YtbjbjnbloddioaaDoor
open Go.RowKit

def sg0 (x : Int) : Int := bits .xor .u32 (bits .xor .u32 (rl 33554432 128 x) (rl 16384 262144 x)) (x / 8)
def sg1 (y : Int) : Int := bits .xor .u32 (bits .xor .u32 (rl 32768 131072 y) (rl 8192 524288 y)) (y / 1024)
def addu (a b : Int) : Int := IntKind.u32.wrap (a + b)
def wnext (p : List UInt8) (ws : List Int) (k : Nat) : Int :=
  if k < 16 then (beV ((p.drop (4 * k)).take 4) : Int) else (ws.getD (k - 16) 0 + sg0 (ws.getD (k - 15) 0) + ws.getD (k - 7) 0 + sg1 (ws.getD (k - 2) 0)) % 4294967296
def sched (p : List UInt8) : Nat → List Int
  | 0 => []
  | k + 1 => sched p k ++ [wnext p (sched p k) k]
theorem sched_len (p : List UInt8) : ∀ k, (sched p k).length = k
  | 0 => rfl
  | k + 1 => by simp [sched, sched_len p k]
def schedCells (p : List UInt8) (k : Nat) : Array Value := ((sched p k).map (Value.int .u32) ++ List.replicate (64 - k) (Value.int .u32 0)).toArray
theorem schedCells_at (p : List UInt8) (k i : Nat) (h : i < k) : (schedCells p k)[i]? = some (.int .u32 ((sched p k).getD i 0)) := by
  have hl := sched_len p k
  have hi : i < (sched p k).length := by omega
  unfold schedCells
  rw [List.getElem?_toArray, List.getElem?_append_left (by simpa using hi)]
  simp [hi, List.getD]
theorem schedCells_size (p : List UInt8) (k : Nat) (h : k ≤ 64) : (schedCells p k).size = 64 := by simp [schedCells, sched_len]; omega
theorem schedCells_set (p : List UInt8) (k : Nat) (h : k < 64) : (schedCells p k).setIfInBounds k (.int .u32 (wnext p (sched p k) k)) = schedCells p (k + 1) := by
  unfold schedCells
  apply Array.ext'
  rw [Array.toList_setIfInBounds]
  simp only []
  obtain ⟨m, hm⟩ : ∃ m, 64 - k = m + 1 := ⟨64 - k - 1, by omega⟩
  rw [hm, show 64 - (k + 1) = m by omega, List.replicate_succ, List.set_append_right _ _ (by simp [sched_len])]
  simp [sched, sched_len]

theorem below_dr {B : Nat} {w w' : World} (h : Below B w w') : Below B w w'.drew := ⟨h.os, h.tape, h.output, h.size, h.block⟩
/-- A row filled from the front. -/
def fillC (vs : List Value) (z : Value) (n k : Nat) : Array Value := (vs.take k ++ List.replicate (n - k) z).toArray
theorem fillC_size (vs : List Value) (z : Value) (n k : Nat) (hn : vs.length = n) (hk : k ≤ n) : (fillC vs z n k).size = n := by simp [fillC]; omega
theorem fillC_set (vs : List Value) (z : Value) (n k : Nat) (hn : vs.length = n) (hk : k < n) : (fillC vs z n k).setIfInBounds k (vs[k]'(by omega)) = fillC vs z n (k + 1) := by
  unfold fillC
  apply Array.ext'
  rw [Array.toList_setIfInBounds]
  simp only []
  obtain ⟨m, hm⟩ : ∃ m, n - k = m + 1 := ⟨n - k - 1, by omega⟩
  have hl : (vs.take k).length = k := by simp; omega
  rw [List.take_succ_eq_append_getElem (show k < vs.length by omega), hm, show n - (k + 1) = m by omega, List.replicate_succ, List.set_append_right _ _ (by omega), hl, Nat.sub_self, List.append_assoc]
  rfl
theorem fillC_done (vs : List Value) (z : Value) (n : Nat) (hn : vs.length = n) : fillC vs z n n = vs.toArray := by subst hn; simp [fillC]

/-- A state's cells. -/
def hsCells (kind : Int) (h : List Int) (wt : Value) (n : Int) : Array Value := (Value.int .i64 kind :: (h.map (Value.int .u64) ++ [wt, Value.int .u64 n])).toArray
theorem hsCells_at (kind : Int) (h : List Int) (wt : Value) (n : Int) (i : Nat) (hi : i < h.length) : (hsCells kind h wt n)[i + 1]? = some (.int .u64 (h[i])) := by
  unfold hsCells
  rw [List.getElem?_toArray, List.getElem?_cons_succ, List.getElem?_append_left (by simpa using hi)]
  simp [hi]
theorem hsCells_set (kind : Int) (h : List Int) (wt : Value) (n x : Int) (i : Nat) (hi : i < h.length) : (hsCells kind h wt n).setIfInBounds (i + 1) (.int .u64 x) = hsCells kind (h.set i x) wt n := by
  unfold hsCells
  apply Array.ext'
  rw [Array.toList_setIfInBounds]
  simp only []
  rw [List.set_cons_succ, List.set_append_left _ _ (by simpa using hi), List.map_set]

/-- One round. -/
def round (v : List Int) (k x : Int) : List Int :=
  match v with
  | [a, b, c, d, e, f, g, h] =>
    let t := h + bits .xor .u32 (bits .xor .u32 (rl 67108864 64 e) (rl 2097152 2048 e)) (rl 128 33554432 e) + bits .xor .u32 (bits .and .u32 e f) (bits .and .u32 (bits .xor .u32 IntKind.u32.max e) g) + k / 4294967296 + x
    let u := bits .xor .u32 (bits .xor .u32 (rl 1073741824 4 a) (rl 524288 8192 a)) (rl 1024 4194304 a) + bits .xor .u32 (bits .xor .u32 (bits .and .u32 a b) (bits .and .u32 a c)) (bits .and .u32 b c)
    [(t + u) % 4294967296, a, b, c, (d + t) % 4294967296, e, f, g]
  | _ => v
def rounds (v : List Int) (ws : List Int) : Nat → List Int
  | 0 => v
  | k + 1 => round (rounds v ws k) (kTab.getD k 0) (ws.getD k 0)
theorem round_len (v : List Int) (k x : Int) (h : v.length = 8) : (round v k x).length = 8 := by
  match v, h with
  | [a, b, c, d, e, f, g, h], _ => rfl
theorem rounds_len (v ws : List Int) (h : v.length = 8) : ∀ k, (rounds v ws k).length = 8
  | 0 => h
  | k + 1 => round_len _ _ _ (rounds_len v ws h k)
theorem eight {l : List Int} (h : l.length = 8) : ∃ a b c d e f g i, l = [a, b, c, d, e, f, g, i] := by
  match l, h with
  | [a, b, c, d, e, f, g, i], _ => exact ⟨a, b, c, d, e, f, g, i, rfl⟩
/-- The state behind a block. -/
def lo32 (h : List Int) : List Int := h.map IntKind.u32.wrap
def shaV (h : List Int) (p : List UInt8) : List Int := rounds (lo32 h) (sched p 64) 64
def shaAdd (h v : List Int) : Nat → List Int
  | 0 => h
  | k + 1 => (shaAdd h v k).set k (((shaAdd h v k).getD k 0 + v.getD k 0) % 4294967296)
def shaBlk (h : List Int) (p : List UInt8) : List Int := shaAdd h (shaV h p) 8
theorem shaAdd_len (h v : List Int) : ∀ k, (shaAdd h v k).length = h.length
  | 0 => rfl
  | k + 1 => by simp [shaAdd, shaAdd_len h v k]
theorem size103 : (Tryd.prog.info? 103).map (·.size) = some 64 := by kernel_rfl
theorem size104 : (Tryd.prog.info? 104).map (·.size) = some 8 := by kernel_rfl

set_option maxRecDepth 100000 in
set_option maxHeartbeats 3200000 in
theorem sha256_o (g : Nat) (kind n : Int) (h : List Int) (wt_ : Value) (p : List UInt8) (A : Option Addr) (c : Nat) (w : World) (hg : w.heap[g]? = some (.cells (hsCells kind h wt_ n) 91 (0, 0))) (hh : h.length = 8)
    (hp : p.length = 64) (hr : Rd w A (bvs p)) (hc : 64 ≤ c) (hK : Kg w) :
    Calls Tryd.prog 60 #[.pointer (some ⟨g, 0, none⟩), .slice A 64 c] w (fun e w' => e = .returned (.tuple #[]) ∧ w'.heap[g]? = some (.cells (hsCells kind (shaBlk h p) wt_ n) 91 (0, 0)) ∧ w.grownBy w' (some g)) := by
  have hgl : g < w.heap.size := (Array.getElem?_eq_some_iff.1 hg).1
  have h0 : (w.alloc (.cells (schedCells p 0) 103)).heap[w.heap.size]? = some (.cells (schedCells p 0) 103 (0, 0)) := heap_alloc_new w _
  have hb0 := below_alloc w (.cells (schedCells p 0) 103)
  have e0 : (w.alloc (.cells (schedCells p 0) 103)) = (w.alloc (.cells (schedCells [] 0) 103)) := rfl
  rw [e0] at h0 hb0
  unfold schedCells sched at h0 hb0
  simp only [List.map_nil, List.nil_append, Nat.sub_zero, List.replicate_succ, List.replicate_zero] at h0 hb0
  go_enter Tryd.func60, Tryd.ntmps60
  go_wp2_with fail
  go_loopw [21] (fun i wr => ∃ k : Nat, k ≤ 64 ∧ i = .int .i64 k ∧ wr.heap[w.heap.size]? = some (.cells (schedCells p k) 103 (0, 0)) ∧ Below w.heap.size w wr) (fun i _ => 64 - (intOf i).toNat)
  case atStart => exact ⟨0, by omega, rfl, h0, hb0⟩
  case round =>
    clear h0 hb0 e0
    obtain ⟨k, hk, rfl, hB, hb⟩ := hrel
    by_cases hlt : k < 64
    · have hset := schedCells_set p k hlt
      have hfr := frozen_of_row wr w.heap.size k (schedCells p k) 103 hB
      obtain ⟨u, hcl⟩ : ∃ u, wr.cell? ⟨w.heap.size, k, none⟩ = some u := by
        rw [cell_of_row wr _ k _ 103 (0, 0) hB]
        exact ⟨_, Array.getElem?_eq_getElem (by rw [schedCells_size p k hk]; exact hlt)⟩
      have hnext := heap_setCell_same wr w.heap.size k (schedCells p k) 103 (.int .u32 (wnext p (sched p k) k)) hB
      rw [hset] at hnext
      have HN := Lib.hid hnext
      clear hset hnext
      by_cases h16 : k < 16
      · have hd : ∃ a b c d l, p.drop (4 * k) = a :: b :: c :: d :: l := by
          have hl : 4 ≤ (p.drop (4 * k)).length := by simp; omega
          match p.drop (4 * k), hl with
          | a :: b :: c :: d :: l, _ => exact ⟨a, b, c, d, l, rfl⟩
        obtain ⟨a, b, c4, d, l, hd⟩ := hd
        have hv : wnext p (sched p k) k = (beV [a, b, c4, d] : Int) := by unfold wnext; rw [if_pos h16, hd]; rfl
        have hlen : 64 - 4 * k = l.length + 4 := by
          have := congrArg List.length hd
          simp at this
          omega
        have hrd : Rd wr (Option.map (fun x => x.add (4 * k)) A) (bvs (a :: b :: c4 :: d :: l)) := by
          have := (hr.below hb).drop (4 * k)
          rwa [show (bvs p).drop (4 * k) = bvs (p.drop (4 * k)) by simp [bvs], hd] at this
        have hget := get32_o a b c4 d l _ (c - 4 * k) wr hrd (64 - 4 * k) hlen
        have q1 : (4 : Int) * (k : Int) ≤ 64 := by omega
        have q2 : ¬ c = 4 * k := by omega
        rw [hv] at HN
        clear hd hv hlen
        go_wp2_with fail
        refine hget.mono ?_
        rintro e w1 ⟨rfl, rfl⟩
        clear hget
        go_wp2_with fail
        go_roundw
        case rel => exact ⟨k + 1, hlt, by go_num, HN.out, below_dr (hb.setCell (p := ⟨w.heap.size, k, none⟩) (Nat.le_refl _) _)⟩
        case measure => simp [intOf]; omega
      · have hv : wnext p (sched p k) k = ((sched p k).getD (k - 16) 0 + sg0 ((sched p k).getD (k - 15) 0) + (sched p k).getD (k - 7) 0 + sg1 ((sched p k).getD (k - 2) 0)) % 4294967296 := by unfold wnext; rw [if_neg h16]
        rw [hv] at HN
        have c15 : wr.cell? ⟨w.heap.size, k - 15, none⟩ = _ := (cell_of_row wr _ (k - 15) _ 103 (0, 0) hB).trans (schedCells_at p k (k - 15) (by omega))
        have c2 : wr.cell? ⟨w.heap.size, k - 2, none⟩ = _ := (cell_of_row wr _ (k - 2) _ 103 (0, 0) hB).trans (schedCells_at p k (k - 2) (by omega))
        have c16 : wr.cell? ⟨w.heap.size, k - 16, none⟩ = _ := (cell_of_row wr _ (k - 16) _ 103 (0, 0) hB).trans (schedCells_at p k (k - 16) (by omega))
        have c7 : wr.cell? ⟨w.heap.size, k - 7, none⟩ = _ := (cell_of_row wr _ (k - 7) _ 103 (0, 0) hB).trans (schedCells_at p k (k - 7) (by omega))
        generalize (sched p k).getD (k - 15) 0 = x15 at c15 HN
        generalize (sched p k).getD (k - 2) 0 = x2 at c2 HN
        generalize (sched p k).getD (k - 16) 0 = x16 at c16 HN
        generalize (sched p k).getD (k - 7) 0 = x7 at c7 HN
        have q1 : (16 : Int) ≤ (k : Int) := by omega
        clear hv
        go_wp2_with fail
        refine wp_region_seg [] [[0, 1, 2, 3, 4, 5, 6, 7, 8, 9]] (by kernel_rfl) (by kernel_rfl) ?_
        simp only [Seg, pick_cons, pick_nil, List.getElem?_toArray, List.getElem?_cons_zero, List.getElem?_cons_succ, Option.toList_some, List.cons_append, List.nil_append]
        go_wp2_with fail
        refine Fin.intro ⟨by kernel_rfl, ?_⟩
        go_wp2_with fail
        refine (rot7 _ _).mono ?_
        rintro e w1 ⟨rfl, rfl⟩
        go_wp2_with fail
        refine (rot18 _ _).mono ?_
        rintro e w1 ⟨rfl, rfl⟩
        go_wp2_with fail
        refine (rot17 _ _).mono ?_
        rintro e w1 ⟨rfl, rfl⟩
        go_wp2_with fail
        refine (rot19 _ _).mono ?_
        rintro e w1 ⟨rfl, rfl⟩
        go_wp2_with fail
        refine wp_region_seg [15] [[0, 1, 2, 3, 4, 5, 6, 7, 8, 9, 10, 11, 12, 13, 14, 15]] (by kernel_rfl) (by kernel_rfl) ?_
        simp only [Seg, pick_cons, pick_nil, List.getElem?_toArray, List.getElem?_cons_zero, List.getElem?_cons_succ, Option.toList_some, List.cons_append, List.nil_append]
        go_wp2_with fail
        refine Fin.intro ⟨by kernel_rfl, ?_⟩
        go_wp2_with fail
        go_roundw
        case rel => exact ⟨k + 1, hlt, by go_num, HN.out, below_dr (below_dr (hb.setCell (p := ⟨w.heap.size, k, none⟩) (Nat.le_refl _) _))⟩
        case measure => simp [intOf]; omega
    · obtain rfl : k = 64 := by omega
      obtain ⟨wo, rfl⟩ : ∃ wo : World, wo = wr := ⟨_, rfl⟩
      have hz1 : w.heap.size < wo.heap.size := (Array.getElem?_eq_some_iff.1 hB).1
      have hgr := (hb.block g hgl).trans hg
      have hKr : Kg wo := hK.below hb hK.pos
      have hlv : (lo32 h).length = 8 := by simp [lo32, hh]
      have hsz0 : ((lo32 h).map (Value.int .u32)).length = 8 := by simp [hlv]
      obtain ⟨ws, hws⟩ : ∃ ws, ws = sched p 64 := ⟨_, rfl⟩
      have hwl : ws.length = 64 := by rw [hws]; exact sched_len p 64
      have hB2 : wo.heap[w.heap.size]? = some (.cells (ws.map (Value.int .u32)).toArray 103 (0, 0)) := by
        rw [hB, hws]; simp [schedCells]
      have hS : shaBlk h p = shaAdd h (rounds (lo32 h) ws 64) 8 := by rw [hws]; rfl
      have HS := Lib.hid hS
      clear hB hws hS
      have h0 : (wo.alloc (.cells (fillC ((lo32 h).map (Value.int .u32)) (.int .u32 0) 8 0) 104)).heap[wo.heap.size]? = some (.cells (fillC ((lo32 h).map (Value.int .u32)) (.int .u32 0) 8 0) 104 (0, 0)) := heap_alloc_new wo _
      have hb1 := below_alloc wo (.cells (fillC ((lo32 h).map (Value.int .u32)) (.int .u32 0) 8 0) 104)
      have e0 : fillC ((lo32 h).map (Value.int .u32)) (.int .u32 0) 8 0 = #[.int .u32 0, .int .u32 0, .int .u32 0, .int .u32 0, .int .u32 0, .int .u32 0, .int .u32 0, .int .u32 0] := by simp [fillC, List.replicate]
      rw [e0] at hb1
      rw [show (wo.alloc (.cells (fillC ((lo32 h).map (Value.int .u32)) (.int .u32 0) 8 0) 104)) = wo.alloc (.cells #[.int .u32 0, .int .u32 0, .int .u32 0, .int .u32 0, .int .u32 0, .int .u32 0, .int .u32 0, .int .u32 0] 104) by rw [e0]] at h0
      have E0 := Lib.hid e0
      clear e0
      go_wp2_with fail
      go_loopw [73] (fun i wr => ∃ k : Nat, k ≤ 8 ∧ i = .int .i64 k ∧ wr.heap[wo.heap.size]? = some (.cells (fillC ((lo32 h).map (Value.int .u32)) (.int .u32 0) 8 k) 104 (0, 0)) ∧ Below wo.heap.size wo wr) (fun i _ => 8 - (intOf i).toNat)
      case atStart => exact ⟨0, by omega, rfl, h0, hb1⟩
      case round =>
        clear h0 hb1 E0
        obtain ⟨k, hk, rfl, hF, hbt⟩ := hrel
        by_cases hlt : k < 8
        · have hset := fillC_set ((lo32 h).map (Value.int .u32)) (.int .u32 0) 8 k hsz0 hlt
          have hfr := frozen_of_row wr wo.heap.size k _ 104 hF
          obtain ⟨u, hcl⟩ : ∃ u, wr.cell? ⟨wo.heap.size, k, none⟩ = some u := by
            rw [cell_of_row wr _ k _ 104 (0, 0) hF]
            exact ⟨_, Array.getElem?_eq_getElem (by rw [fillC_size _ _ _ _ hsz0 hk]; exact hlt)⟩
          have hgt := (hbt.block g (Nat.lt_of_lt_of_le hgl hb.size)).trans hgr
          have hkh : k < h.length := by omega
          have hch : wr.cell? ⟨g, 1 + k, none⟩ = some (.int .u64 h[k]) := by rw [Nat.add_comm]; exact (cell_of_row wr _ (k + 1) _ 91 (0, 0) hgt).trans (hsCells_at kind h wt_ n k hkh)
          have hval : ((lo32 h).map (Value.int .u32))[k]'(by omega) = .int .u32 (IntKind.u32.wrap h[k]) := by simp [lo32]
          rw [hval] at hset
          have hnext := heap_setCell_same wr wo.heap.size k _ 104 (.int .u32 (IntKind.u32.wrap h[k])) hF
          rw [hset] at hnext
          have HN := Lib.hid hnext
          generalize h[k] = hv at hch HN
          clear hset hnext hval hF hgt
          go_wp2_with fail
          go_roundw
          case rel => exact ⟨k + 1, hlt, by go_num, HN.out, hbt.setCell (p := ⟨wo.heap.size, k, none⟩) (Nat.le_refl _) _⟩
          case measure => simp [intOf]; omega
        · obtain rfl : k = 8 := by omega
          obtain ⟨wq, rfl⟩ : ∃ wq : World, wq = wr := ⟨_, rfl⟩
          rw [fillC_done _ _ _ hsz0] at hF
          have hgt := (hbt.block g (Nat.lt_of_lt_of_le hgl hb.size)).trans hgr
          have hKt := hKr.below hbt hKr.pos
          have hWt := (hbt.block w.heap.size hz1).trans hB2
          have hbw := hb.trans (hbt.mono hb.size)
          have hzt : wo.heap.size < wq.heap.size := (Array.getElem?_eq_some_iff.1 hF).1
          have hwsz : (ws.map (Value.int .u32)).toArray.size = 64 := by simp [hwl]
          go_wp2_with (with_reducible refine Stop.load 103 ?_)
          refine Stop.mk ?_
          refine wpList_load_row rfl 103 _ rfl w.heap.size rfl 103 _ _ _ hWt Tryd.underlying103 rfl (by rw [size103, hwsz]) ?_
          clear hWt hbt
          go_wp2_with fail
          go_loopw [87] (fun i wr => ∃ k : Nat, k ≤ 64 ∧ i = .int .i64 k ∧ wr.heap[wo.heap.size]? = some (.cells ((rounds (lo32 h) ws k).map (Value.int .u32)).toArray 104 (0, 0)) ∧ Below wo.heap.size wq wr) (fun i _ => 64 - (intOf i).toNat)
          case atStart => exact ⟨0, by omega, rfl, hF, Below.refl _ _⟩
          case round =>
            clear hF
            obtain ⟨k, hk, rfl, hF, hbu⟩ := hrel
            by_cases hlt : k < 64
            · have hix : ∀ w0 : World, (Instr.index 103 (.agg (ws.map (Value.int .u32)).toArray) (.int .i64 (k : Int))).run Tryd.prog w0 = .ok (.int .u32 ws[k]) w0 := fun w0 =>
                run_index_arr w0 103 98 64 _ Tryd.underlying103 (by kernel_rfl) (fun w => by kernel_rfl) k hlt _ (by simp [hwl, hlt])
              have hws : ws.getD k 0 = ws[k] := by simp [List.getD, hwl, hlt]
              have hkt : wr.cell? ⟨0, k, none⟩ = some (.int .u64 (kTab.getD k 0)) := (hKt.below hbu (by omega)) k (by omega)
              have hrl := rounds_len (lo32 h) ws hlv k
              have hstep : rounds (lo32 h) ws (k + 1) = round (rounds (lo32 h) ws k) (kTab.getD k 0) (ws.getD k 0) := rfl
              rw [hws] at hstep
              generalize ws[k] = x at hix hstep
              generalize kTab.getD k 0 = kk at hkt hstep
              generalize rounds (lo32 h) ws k = R at hF hrl hstep
              obtain ⟨va, vb, vc, vd, ve, vf, vg, vh, rfl⟩ := eight hrl
              have c0 : wr.cell? ⟨wo.heap.size, 0, none⟩ = some (.int .u32 va) := cell_of_row wr _ 0 _ 104 (0, 0) hF
              have c1 : wr.cell? ⟨wo.heap.size, 1, none⟩ = some (.int .u32 vb) := cell_of_row wr _ 1 _ 104 (0, 0) hF
              have c2 : wr.cell? ⟨wo.heap.size, 2, none⟩ = some (.int .u32 vc) := cell_of_row wr _ 2 _ 104 (0, 0) hF
              have c3 : wr.cell? ⟨wo.heap.size, 3, none⟩ = some (.int .u32 vd) := cell_of_row wr _ 3 _ 104 (0, 0) hF
              have c4 : wr.cell? ⟨wo.heap.size, 4, none⟩ = some (.int .u32 ve) := cell_of_row wr _ 4 _ 104 (0, 0) hF
              have c5 : wr.cell? ⟨wo.heap.size, 5, none⟩ = some (.int .u32 vf) := cell_of_row wr _ 5 _ 104 (0, 0) hF
              have c6 : wr.cell? ⟨wo.heap.size, 6, none⟩ = some (.int .u32 vg) := cell_of_row wr _ 6 _ 104 (0, 0) hF
              have c7 : wr.cell? ⟨wo.heap.size, 7, none⟩ = some (.int .u32 vh) := cell_of_row wr _ 7 _ 104 (0, 0) hF
              have HST := Lib.hid hstep
              have hsg : IntKind.u32.signed = false := rfl
              clear hstep hws hrl
              go_wp2_with fail
              refine wp_region_seg [] [[0, 1, 2, 3, 4, 5]] (by kernel_rfl) (by kernel_rfl) ?_
              simp only [Seg, pick_cons, pick_nil, List.getElem?_toArray, List.getElem?_cons_zero, List.getElem?_cons_succ, Option.toList_some, List.cons_append, List.nil_append]
              go_wp2_with fail
              refine Fin.intro ⟨by kernel_rfl, ?_⟩
              go_wp2_with fail
              refine (rot6 _ _).mono ?_
              rintro e w1 ⟨rfl, rfl⟩
              go_wp2_with fail
              refine (rot11 _ _).mono ?_
              rintro e w1 ⟨rfl, rfl⟩
              go_wp2_with fail
              refine (rot25 _ _).mono ?_
              rintro e w1 ⟨rfl, rfl⟩
              go_wp2_with fail
              refine wp_region_seg [] [[0, 1, 2, 3, 4, 5, 6, 7, 8, 9, 10, 11, 12, 13, 14, 15, 16, 17, 18, 19, 20, 21, 22, 23]] (by kernel_rfl) (by kernel_rfl) ?_
              simp only [Seg, pick_cons, pick_nil, List.getElem?_toArray, List.getElem?_cons_zero, List.getElem?_cons_succ, Option.toList_some, List.cons_append, List.nil_append]
              go_wp2_with fail
              refine Fin.intro ⟨by kernel_rfl, ?_⟩
              go_wp2_with fail
              refine (rot2 _ _).mono ?_
              rintro e w1 ⟨rfl, rfl⟩
              go_wp2_with fail
              refine (rot13 _ _).mono ?_
              rintro e w1 ⟨rfl, rfl⟩
              go_wp2_with fail
              refine (rot22 _ _).mono ?_
              rintro e w1 ⟨rfl, rfl⟩
              go_wp2_with (with_reducible refine Stop.store 104 ?_)
              refine Stop.mk ?_
              refine wpList_store_row rfl 104 _ _ rfl wo.heap.size ((rounds (lo32 h) ws (k + 1)).map (Value.int .u32)).toArray rfl (by rw [HST.out]; rfl) 104 _ (show (wr.drew.drew).heap[wo.heap.size]? = _ from hF) (by rw [size104]; simp [rounds_len (lo32 h) ws hlv]) (by simp [rounds_len (lo32 h) ws hlv]) (by simp [Value.oneCell']) ?_
              clear c0 c1 c2 c3 c4 c5 c6 c7 hkt hix HST
              have hF2 := setRow_heap (wr.drew.drew) wo.heap.size _ ((rounds (lo32 h) ws (k + 1)).map (Value.int .u32)).toArray 104 _ (show (wr.drew.drew).heap[wo.heap.size]? = _ from hF)
              have hb2 := below_setRow (below_dr (below_dr hbu)) (Nat.le_refl _) ((rounds (lo32 h) ws (k + 1)).map (Value.int .u32)).toArray
              generalize (wr.drew.drew).setRow wo.heap.size ((rounds (lo32 h) ws (k + 1)).map (Value.int .u32)).toArray = wn at hF2 hb2 ⊢
              go_wp2_with fail
              go_roundw
              case rel => exact ⟨k + 1, hlt, by go_num, hF2, hb2⟩
              case measure => simp [intOf]; omega
            · obtain rfl : k = 64 := by omega
              obtain ⟨wy, rfl⟩ : ∃ wy : World, wy = wr := ⟨_, rfl⟩
              have hgy := (hbu.block g (Nat.lt_of_lt_of_le hgl hb.size)).trans hgt
              have hby := hbw.trans (hbu.mono (Nat.le_of_lt hz1))
              have hvl := rounds_len (lo32 h) ws hlv 64
              generalize rounds (lo32 h) ws 64 = V at hF hvl HS
              have hVsz : (V.map (Value.int .u32)).toArray.size = 8 := by simp [hvl]
              go_wp2_with (with_reducible refine Stop.load 104 ?_)
              refine Stop.mk ?_
              refine wpList_load_row rfl 104 _ rfl wo.heap.size rfl 104 _ _ _ hF Tryd.underlying104 rfl (by rw [size104, hVsz]) ?_
              go_wp2_with fail
              go_loopw [171] (fun i wr => ∃ k : Nat, k ≤ 8 ∧ i = .int .i64 k ∧ wr.heap[g]? = some (.cells (hsCells kind (shaAdd h V k) wt_ n) 91 (0, 0)) ∧ wy.grownBy wr (some g)) (fun i _ => 8 - (intOf i).toNat)
              case atStart => exact ⟨0, by omega, rfl, hgy, World.grownBy.refl _ _⟩
              case round =>
                obtain ⟨k, hk, rfl, hH, hgw⟩ := hrel
                by_cases hlt : k < 8
                · have hlH : (shaAdd h V k).length = 8 := by rw [shaAdd_len]; exact hh
                  have hkH : k < (shaAdd h V k).length := by omega
                  have hix : ∀ w0 : World, (Instr.index 104 (.agg (V.map (Value.int .u32)).toArray) (.int .i64 (k : Int))).run Tryd.prog w0 = .ok (.int .u32 V[k]) w0 := fun w0 =>
                    run_index_arr w0 104 98 8 _ Tryd.underlying104 (by kernel_rfl) (fun w => by kernel_rfl) k hlt _ (by simp [hvl, hlt])
                  have hvk : V.getD k 0 = V[k] := by simp [List.getD, hvl, hlt]
                  have hhk : (shaAdd h V k).getD k 0 = (shaAdd h V k)[k] := by simp [List.getD, hlH, hlt]
                  have hch : wr.cell? ⟨g, 1 + k, none⟩ = some (.int .u64 (shaAdd h V k)[k]) := by rw [Nat.add_comm]; exact (cell_of_row wr _ (k + 1) _ 91 (0, 0) hH).trans (hsCells_at kind _ wt_ n k hkH)
                  have hfr : wr.frozen? ⟨g, 1 + k, none⟩ = false := frozen_of_row wr g (1 + k) _ 91 hH
                  have hstep : shaAdd h V (k + 1) = (shaAdd h V k).set k (((shaAdd h V k)[k] + V[k]) % 4294967296) := by rw [← hhk, ← hvk]; rfl
                  have hnext := heap_setCell_same wr g (k + 1) _ 91 (.int .u64 (((shaAdd h V k)[k] + V[k]) % 4294967296)) hH
                  rw [hsCells_set kind _ wt_ n _ k hkH, ← hstep, show (⟨g, k + 1, none⟩ : Addr) = ⟨g, 1 + k, none⟩ by rw [Nat.add_comm]] at hnext
                  have HN := Lib.hid hnext
                  generalize (shaAdd h V k)[k] = y at hch HN
                  generalize V[k] = x at hix HN
                  clear hstep hnext hvk hhk hH hF hgy
                  go_wp2_with fail
                  refine wp_region_seg [15] [[0, 1, 2, 3, 4, 5, 6, 7, 8, 9, 10, 11, 12, 13, 14, 15]] (by kernel_rfl) (by kernel_rfl) ?_
                  simp only [Seg, pick_cons, pick_nil, List.getElem?_toArray, List.getElem?_cons_zero, List.getElem?_cons_succ, Option.toList_some, List.cons_append, List.nil_append]
                  go_wp2_with fail
                  refine Fin.intro ⟨by kernel_rfl, ?_⟩
                  go_wp2_with fail
                  go_roundw
                  case rel => exact ⟨k + 1, hlt, by go_num, HN.out, ⟨hgw.os, hgw.tape, hgw.output, by simpa using hgw.size, fun i hi hne => (heap_setCell_other wr _ i _ (fun e => hne (by simp [e]))).trans (hgw.block i hi hne)⟩⟩
                  case measure => simp [intOf]; omega
                · obtain rfl : k = 8 := by omega
                  go_wp2_with fail
                  go_end0
                  refine ⟨rfl, ?_, grown_comp hby hgw⟩
                  rw [HS.out]
                  exact hH
end Go.Proofs.YtbjbjnbloddioaaDoor
