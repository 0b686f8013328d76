/- The reader of frames. -/
import Derived.Test.YtekblnaogncplaaF
import Derived.Lib.SliceRun
import Derived.Laws.BitsLemmas
import Derived.Laws.BytesArg
set_option linter.unusedVariables false
set_option linter.unusedSimpArgs false
namespace Go.Proofs.Ytekblnaogncplaa
open Go.RowKit

set_option maxRecDepth 100000 in
set_option maxHeartbeats 400000 in
theorem clone_o (l : List UInt8) (A : Option Addr) (c : Nat) (w : World) (h : Rd w A (bvs l)) (hl : l.length ≤ 1000000000000) :
    Calls Try.prog 36 #[.slice A l.length c] w (fun e w' => ∃ A' c', e = .returned (.slice A' l.length c') ∧ l.length ≤ c' ∧ w'.ownsRow w.heap.size 5 1 (.slice A' l.length c') l.length (bvs l) ∧ Below w.heap.size w w') := by
  cases A with
  | none =>
    have hl0 : l = [] := by
      cases l with
      | nil => rfl
      | cons b l => obtain ⟨_, _, e, _⟩ := h 0 (bv b) (by simp [bvs]); cases e
    subst hl0
    have hq : ∀ w : World, (binOp .eql 22 (.slice none 0 c) (.slice none 0 0)).run Try.prog w = .ok (.bool true) w := fun w => Lib.run_eql_slice_nil (P := Try.prog) w 22 5 none 0 c 0 0 Try.underlying22
    go_enter Try.func36, Try.ntmps36
    go_wp2
    go_ret
    exact ⟨none, 0, by simp, Nat.le_refl _, World.ownsRow_nil _ _ _ _, Below.refl _ _⟩
  | some ad =>
    have hq : ∀ w : World, (binOp .eql 22 (.slice (some ad) l.length c) (.slice none 0 0)).run Try.prog w = .ok (.bool false) w := fun w => Lib.run_eql_slice_nil (P := Try.prog) w 22 5 (some ad) l.length c 0 0 Try.underlying22
    go_enter Try.func36, Try.ntmps36
    go_wp2_with (at_builtin; refine Stop.out ?_)
    refine Stop.mk ?_
    refine wpList_app _ rfl (.tmp 5) (.tmp 6) 22 rfl 5 (.int .u8 0) 1 1 w.heap.size Try.underlying22 info5 rfl (by omega) (.slice (some ⟨w.heap.size, 0, none⟩) 0 0) 0 [] rfl (World.ownsRow_made w #[] 0 (Nat.le_refl _) (by simp [maxLen]) rfl) (some ad) l.length c (bvs l) rfl (by simp [bvs_length]) (h.below (below_alloc _ _)) (bvs_one _) (by omega) (by omega) (by simp) ?_
    intro A' c' w2 ho2 hg hat
    go_wp2
    go_ret
    refine ⟨A', c', by simp, by have := (own_cap ho2).2.1; omega, by simpa using ho2, ?_⟩
    exact (below_alloc w _).grown hg (by simp) (by intro k hk; simp [Value.ownBlock] at hk; omega)

/-- The reader at block g: what is left, and whether something was not there. -/
structure Rdr (w : World) (U g : Nat) (A : Option Addr) (c : Nat) (l : List UInt8) (bad : Bool) : Prop where
  blk : w.heap[g]? = some (.cells #[.slice A l.length c, .bool bad] 68 (0, 0))
  rd : RdU w U A (bvs l)
  cap : l.length ≤ c
  le : U ≤ g
theorem Rdr.lt {w : World} {U g : Nat} {A : Option Addr} {c : Nat} {l : List UInt8} {bad : Bool} (h : Rdr w U g A c l bad) : g < w.heap.size := (Array.getElem?_eq_some_iff.1 h.blk).1
/-- The reader, told. -/
def RdO (w : World) (U g : Nat) (s : List UInt8 × Bool) : Prop := ∃ A c, Rdr w U g A c s.1 s.2
theorem RdO.kept {w w' : World} {U g : Nat} {s : List UInt8 × Bool} (h : RdO w U g s) (hb : Below w.heap.size w w') : RdO w' U g s := by
  obtain ⟨A, c, h⟩ := h
  have hl := h.lt
  exact ⟨A, c, (hb.block g hl).trans h.blk, h.rd.below (hb.mono (by have := h.le; omega)), h.cap, h.le⟩
theorem RdO.lt {w : World} {U g : Nat} {s : List UInt8 × Bool} (h : RdO w U g s) : U ≤ g ∧ g < w.heap.size := by
  obtain ⟨A, c, h⟩ := h
  exact ⟨h.le, h.lt⟩

def rtake (s : List UInt8 × Bool) (n : Nat) : List UInt8 × (List UInt8 × Bool) := if s.1.length < n then ([], ([], true)) else (s.1.take n, (s.1.drop n, s.2))

set_option maxRecDepth 100000 in
set_option maxHeartbeats 400000 in
theorem take_o (n : Nat) (hn : n ≤ 1000000000000) (U g : Nat) (s : List UInt8 × Bool) (w : World) (hR : RdO w U g s) (hs : s.1.length ≤ 1000000000000) :
    Calls Try.prog 40 #[.pointer (some ⟨g, 0, none⟩), .int .i64 (n : Int)] w (fun e w' =>
      (∃ A c, e = .returned (.slice A (rtake s n).1.length c) ∧ (rtake s n).1.length ≤ c ∧ RdU w' U A (bvs (rtake s n).1)) ∧ RdO w' U g (rtake s n).2 ∧ w.grownBy w' (some g)) := by
  obtain ⟨l, bad⟩ := s
  obtain ⟨A, c, h⟩ := hR
  dsimp only at h hs
  have hc0 : w.cell? ⟨g, 0, none⟩ = some (.slice A l.length c) := cell_of_row w g 0 _ 68 (0, 0) h.blk
  have hc1 : w.cell? ⟨g, 1, none⟩ = some (.bool bad) := cell_of_row w g 1 _ 68 (0, 0) h.blk
  have hf0 : ∀ o, w.frozen? ⟨g, o, none⟩ = false := fun o => frozen_of_row w g o _ 68 h.blk
  have hcap := h.cap
  have hle := h.le
  by_cases hlt : l.length < n
  · have hlt' : (l.length : Int) < (n : Int) := by omega
    have hR : rtake (l, bad) n = ([], ([], true)) := if_pos hlt
    have HR := Lib.hid hR
    clear hR
    go_enter Try.func40, Try.ntmps40
    go_wp2
    go_ret
    rw [HR.out]
    have h1 : (w.setCell ⟨g, 1, none⟩ (.bool true)).heap[g]? = some (.cells #[.slice A l.length c, .bool true] 68 (0, 0)) := by
      simpa using heap_setCell_same w g 1 _ 68 (.bool true) h.blk
    have h2 : ((w.setCell ⟨g, 1, none⟩ (.bool true)).setCell ⟨g, 0, none⟩ (.slice none 0 0)).heap[g]? = some (.cells #[.slice none 0 0, .bool true] 68 (0, 0)) := by
      simpa using heap_setCell_same _ g 0 _ 68 (.slice none 0 0) h1
    refine ⟨⟨none, 0, by simp, Nat.le_refl _, RdU.nil_⟩, ⟨none, 0, h2, RdU.nil_, Nat.le_refl _, hle⟩, ?_⟩
    exact ⟨rfl, rfl, rfl, by simp, fun k hk hne => (heap_setCell_other _ ⟨g, 0, none⟩ k _ (fun e => hne (by simp [e]))).trans (heap_setCell_other _ ⟨g, 1, none⟩ k _ (fun e => hne (by simp [e])))⟩
  · have hlt' : (n : Int) ≤ (l.length : Int) := by omega
    have hR : rtake (l, bad) n = (l.take n, (l.drop n, bad)) := if_neg hlt
    have HR := Lib.hid hR
    clear hR
    have hln : (l.take n).length = n := by simp; omega
    have hlb : n ≤ c := by omega
    by_cases hcn : c = n
    · have hl2 : l.length = n := by omega
      have hblk2 : (w.setCell ⟨g, 0, none⟩ (.slice A 0 0)).heap[g]? = some (.cells #[.slice A 0 0, .bool bad] 68 (0, 0)) := by
        simpa using heap_setCell_same w g 0 _ 68 (.slice A 0 0) h.blk
      have HB2 := Lib.hid hblk2
      have HL := Lib.hid hl2
      have HC := Lib.hid hcn
      have hnil : bvs (l.drop n) = [] := by rw [List.drop_of_length_le (by omega)]; rfl
      have HN := Lib.hid hnil
      have HLN := Lib.hid hln
      clear hblk2 hl2 hnil hln
      subst hcn
      go_enter Try.func40, Try.ntmps40
      go_wp2
      go_ret
      rw [HR.out]
      have hz : (l.drop c).length = 0 := by rw [List.length_drop, HL.out]; omega
      refine ⟨⟨A, c, by rw [HLN.out]; simp, by rw [HLN.out]; exact Nat.le_refl _, ?_⟩, ⟨A, 0, by dsimp only; rw [hz]; exact HB2.out, by rw [HN.out]; exact RdU.nil_, by dsimp only; omega, hle⟩, ⟨rfl, rfl, rfl, by simp, fun k hk hne => heap_setCell_other _ ⟨g, 0, none⟩ k _ (fun e => hne (by simp [e]))⟩⟩
      unfold bvs
      rw [List.map_take]
      have hbl : Below U w (w.setCell ⟨g, 0, none⟩ (.slice A 0 0)) := ⟨rfl, rfl, rfl, by simp, fun k hk => heap_setCell_other _ ⟨g, 0, none⟩ k _ (by simp; omega)⟩
      exact RdU.take (RdU.below h.rd hbl) _
    · have hblk2 : (w.setCell ⟨g, 0, none⟩ (.slice (Option.map (fun x => x.add n) A) (l.length - n) (c - n))).heap[g]? = some (.cells #[.slice (Option.map (fun x => x.add n) A) (l.length - n) (c - n), .bool bad] 68 (0, 0)) := by
        simpa using heap_setCell_same w g 0 _ 68 (.slice (Option.map (fun x => x.add n) A) (l.length - n) (c - n)) h.blk
      have HB2 := Lib.hid hblk2
      have HLN := Lib.hid hln
      clear hblk2 hln
      go_enter Try.func40, Try.ntmps40
      go_wp2
      go_ret
      rw [HR.out]
      have hbl : Below U w (w.setCell ⟨g, 0, none⟩ (.slice (Option.map (fun x => x.add n) A) (l.length - n) (c - n))) := ⟨rfl, rfl, rfl, by simp, fun k hk => heap_setCell_other _ ⟨g, 0, none⟩ k _ (by simp; omega)⟩
      refine ⟨⟨A, c, by rw [HLN.out]; simp, by rw [HLN.out]; exact hlb, ?_⟩, ⟨Option.map (fun x => x.add n) A, c - n, by rw [List.length_drop]; exact HB2.out, ?_, by rw [List.length_drop]; omega, hle⟩, ⟨rfl, rfl, rfl, by simp, fun k hk hne => heap_setCell_other _ ⟨g, 0, none⟩ k _ (fun e => hne (by simp [e]))⟩⟩
      · unfold bvs
        rw [List.map_take]
        exact RdU.take (RdU.below h.rd hbl) _
      · unfold bvs
        rw [List.map_drop]
        exact RdU.drop (RdU.below h.rd hbl) _
/-- Bytes as a number. -/
def beV (l : List UInt8) : Nat := l.foldl (fun n b => n * 256 + b.toNat) 0
theorem beV_snoc (l : List UInt8) (b : UInt8) : beV (l ++ [b]) = beV l * 256 + b.toNat := by simp [beV, List.foldl_append]
theorem beV_lt : ∀ (k : Nat) (l : List UInt8), l.length = k → beV l < 256 ^ k
  | 0, l, h => by
    obtain rfl : l = [] := List.eq_nil_of_length_eq_zero h
    simp [beV]
  | k + 1, l, h => by
    have hne : l ≠ [] := by intro e; subst e; simp at h
    obtain ⟨l', b, rfl⟩ : ∃ l' b, l = l' ++ [b] := ⟨l.dropLast, l.getLast hne, (List.dropLast_concat_getLast hne).symm⟩
    have h1 := beV_lt k l' (by simpa using h)
    rw [beV_snoc, Nat.pow_succ]
    have := b.toNat_lt
    omega
theorem beV_be (k : Nat) : ∀ n, n < 256 ^ k → beV (be n k) = n := by
  induction k with
  | zero => intro n h; simp at h; subst h; rfl
  | succ k ih =>
    intro n h
    show beV (be (n / 256) k ++ [UInt8.ofNat n]) = n
    rw [beV_snoc, ih (n / 256) (by rw [Nat.pow_succ] at h; omega)]
    simp
    omega

theorem ofInt_i64 (a : Nat) (ha : a < 9223372036854775808) : (BitVec.ofInt 64 (a : Int)).toNat = a := by
  rw [BitVec.ofInt_natCast, BitVec.toNat_ofNat]; exact Nat.mod_eq_of_lt (by omega)
theorem i64_or_byte (n x : Nat) (hn : n < 68719476736) (hx : x < 256) : bits .or .i64 ((n : Int) * 256) (x : Int) = ((n * 256 + x : Nat) : Int) := by
  have e : n * 256 + x = n * 256 ||| x := by
    have := Nat.two_pow_add_eq_or_of_lt (i := 8) (b := x) (by omega) n
    rw [Nat.mul_comm n 256]
    exact this
  have h1 : n * 256 ||| x < 2 ^ 63 := by rw [← e]; omega
  have hc : (n : Int) * 256 = ((n * 256 : Nat) : Int) := by simp
  rw [hc]
  show IntKind.i64.wrap ((BitVec.ofInt 64 ((n * 256 : Nat) : Int) ||| BitVec.ofInt 64 (x : Int)).toNat : Int) = _
  rw [BitVec.toNat_or, ofInt_i64 _ (by omega), ofInt_i64 _ (by omega), IntKind.wrap_i64, ← e]
  omega

def rget (s : List UInt8 × Bool) (k : Nat) : Nat × (List UInt8 × Bool) := (beV (rtake s k).1, (rtake s k).2)

set_option maxRecDepth 100000 in
set_option maxHeartbeats 400000 in
theorem get_o (k : Nat) (hk : k ≤ 4) (U g : Nat) (s : List UInt8 × Bool) (w : World) (hR : RdO w U g s) (hs : s.1.length ≤ 1000000000000) :
    Calls Try.prog 30 #[.pointer (some ⟨g, 0, none⟩), .int .i64 (k : Int)] w (fun e w' =>
      e = .returned (.int .i64 ((rget s k).1 : Int)) ∧ RdO w' U g (rget s k).2 ∧ w.grownBy w' (some g)) := by
  have hle := hR.lt
  have htl : (rtake s k).1.length ≤ 4 := by unfold rtake; split <;> simp; omega
  unfold rget
  go_enter Try.func30, Try.ntmps30
  go_wp2_with fail
  refine (take_o k (by omega) U g s w hR hs).mono ?_
  rintro e w1 ⟨⟨A, c, rfl, hc, hrd⟩, hR1, hf1⟩
  generalize hl : (rtake s k).1 = l at *
  have HL := Lib.hid hl
  clear hl
  go_wp2_with fail
  go_loop [12, 5] (fun i n => ∃ j : Nat, j ≤ l.length ∧ i = .int .i64 j ∧ n = .int .i64 (beV (l.take j) : Int)) (fun i _ => l.length - (intOf i).toNat)
  case atStart => exact ⟨0, by omega, rfl, rfl⟩
  case round =>
    obtain ⟨j, hj, rfl, rfl⟩ := hrel
    by_cases hlt : j < l.length
    · obtain ⟨ga, oa, hA, hU, hcell⟩ := hrd.at_ (j := j) (by simpa [bvs] using hlt)
      have hcell' : w1.cell? ⟨ga, oa + j, none⟩ = some (.int .u8 (l[j].toNat : Int)) := by simpa [bvs, bv] using hcell
      have hb := beV_lt j (l.take j) (by simp; omega)
      have hb2 : beV (l.take j) < 16777216 := Nat.lt_of_lt_of_le hb (Nat.le_trans (Nat.pow_le_pow_right (by omega) (show j ≤ 3 by omega)) (by decide))
      have hx := l[j].toNat_lt
      have hor := i64_or_byte (beV (l.take j)) l[j].toNat (by omega) hx
      clear hcell hb
      subst hA
      go_wp2_with fail
      go_roundw
      case rel =>
        refine ⟨j + 1, hlt, by go_num, ?_⟩
        rw [List.take_succ_eq_append_getElem hlt, beV_snoc]
        exact congrArg (Value.int .i64) (by simp)
      case measure => simp [intOf]; omega
    · obtain rfl : j = l.length := by omega
      go_wp2_with fail
      go_ret
      rw [HL.out]
      exact ⟨by simp, hR1, hf1⟩
end Go.Proofs.Ytekblnaogncplaa
