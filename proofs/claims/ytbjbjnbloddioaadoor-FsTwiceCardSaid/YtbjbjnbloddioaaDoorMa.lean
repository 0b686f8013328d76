/- The laws' helpers: a model where it stands; size, fresh, keeper. -/
import Derived.Test.YtbjbjnbloddioaaDoorLb
set_option linter.unusedVariables false
set_option linter.unusedSimpArgs false
namespace Go.Proofs.YtbjbjnbloddioaaDoor
open Go.RowKit Go.Shelf

/-- Cells where they stand, in blocks of type t. -/
def RdT (t : TypeId) (w : World) (A : Option Addr) (xs : List Value) : Prop := ∀ j u, xs[j]? = some u → ∃ g o cs, A = some ⟨g, o, none⟩ ∧ w.heap[g]? = some (.cells cs t (0, 0)) ∧ cs[o + j]? = some u
def NoT (t : TypeId) (S : Nat → Prop) (w : World) : Prop := ∀ k, S k → ∀ cs, w.heap[k]? ≠ some (.cells cs t (0, 0))
def Rows5 (w : World) (xs : List Value) (m : List (List UInt8)) : Prop := xs.length = m.length ∧ ∀ (j : Nat) (u : Value) (x : List UInt8), xs[j]? = some u → m[j]? = some x → Row w u x
/-- A model where it stands. -/
def ModelAt (w : World) (A : Option Addr) (m : List (List UInt8)) : Prop := ∃ xs, RdT 28 w A xs ∧ Rows5 w xs m
section
variable {t : TypeId} {S : Nat → Prop} {w w' : World} {A : Option Addr} {xs : List Value} {m : List (List UInt8)}
theorem RdT.rd (h : RdT t w A xs) : Rd w A xs := fun j u hu => by
  obtain ⟨g, o, cs, e, hg, hc⟩ := h j u hu
  exact ⟨g, o, e, (cell_of_row w g (o + j) cs t (0, 0) hg).trans hc⟩
theorem RdT.fr (h : RdT t w A xs) (hf : Fr S w w') (hS : NoT t S w) : RdT t w' A xs := fun j u hu => by
  obtain ⟨g, o, cs, e, hg, hc⟩ := h j u hu
  exact ⟨g, o, cs, e, hf.same hg (fun hs => hS g hs cs hg), hc⟩
theorem RdT.own {base n k c : Nat} (h : w.ownsRow base t k (.slice A n c) n xs) : RdT t w A xs := fun j u hu => by
  rcases h.2 with ⟨hv, h0⟩ | ⟨g, cap, cur, hv, _, hh, _, _, hs, ht⟩
  · have h1 := h.1
    subst h0
    simp at h1
    subst h1
    simp at hu
  · injection hv with hA _ _
    subst hA
    rw [← ht, List.getElem?_take] at hu
    split at hu
    · exact ⟨g, 0, cur, rfl, hh, by simpa using hu⟩
    · cases hu
theorem Row.below {v : Value} {b : List UInt8} (h : Row w v b) (hb : Below w.heap.size w w') : Row w' v b := h.fr (S := fun _ => False) (Fr.below hb) (fun _ h => h.elim)
theorem Rows5.fr (h : Rows5 w xs m) (hf : Fr S w w') (hS : No5 S w) : Rows5 w' xs m := ⟨h.1, fun j u x h1 h2 => (h.2 j u x h1 h2).fr hf hS⟩
theorem Rows5.below (h : Rows5 w xs m) (hb : Below w.heap.size w w') : Rows5 w' xs m := h.fr (S := fun _ => False) (Fr.below hb) (fun _ h => h.elim)
theorem Rows5.snoc {u : Value} {x : List UInt8} (h : Rows5 w xs m) (hr : Row w u x) : Rows5 w (xs ++ [u]) (m ++ [x]) := ⟨by simp [h.1], fun j v y h1 h2 => by
  by_cases hj : j < xs.length
  · rw [List.getElem?_append_left hj] at h1
    rw [List.getElem?_append_left (by rw [← h.1]; exact hj)] at h2
    exact h.2 j v y h1 h2
  · have hj' : j = xs.length := by
      have := (List.getElem?_eq_some_iff.1 h1).1
      simp at this
      omega
    subst hj'
    simp at h1
    rw [h.1] at h2
    simp at h2
    subst h1 h2
    exact hr⟩
theorem Rows5.nil_ (w : World) : Rows5 w [] [] := ⟨rfl, fun j u x h => by simp at h⟩
theorem ModelAt.fr (h : ModelAt w A m) (hf : Fr S w w') (h5 : No5 S w) (hS : NoT 28 S w) : ModelAt w' A m := by
  obtain ⟨xs, h1, h2⟩ := h
  exact ⟨xs, h1.fr hf hS, h2.fr hf h5⟩
theorem ModelAt.below (h : ModelAt w A m) (hb : Below w.heap.size w w') : ModelAt w' A m := h.fr (S := fun _ => False) (Fr.below hb) (fun _ h => h.elim) (fun _ h => h.elim)
theorem RdT.below (h : RdT t w A xs) (hb : Below w.heap.size w w') : RdT t w' A xs := h.fr (S := fun _ => False) (Fr.below hb) (fun _ h => h.elim)
theorem own_no5 {base n k : Nat} {e : TypeId} {v : Value} {ys : List Value} (h : w.ownsRow base e k v n ys) (he : e ≠ 5) : No5 (fun k => some k = v.ownBlock) w := fun k hk cs e' => own_not h e' (fun e2 => he e2.symm) hk
end
theorem info28 : (Tryd.prog.info? 28).map (fun i => (i.zero, i.size, i.bytes)) = some (some (.slice none 0 0), 1, 24) := by kernel_rfl
theorem zs_row (n : Nat) : (Array.replicate n (Value.int .u8 0)) = (bvs (zs n)).toArray := by
  apply Array.ext'
  simp [zs, bvs, bv]
theorem made_zs (n : Nat) : madeCells #[Value.int .u8 0] n = (bvs (zs n)).toArray := Array.ext' (by rw [toList_madeCells_one]; simp [zs, bvs, bv])

def sizeN (n : Int) : Nat := 16 + (if n < 0 then -(n + 1) else n).toNat % 45
theorem sizeN_bd (n : Int) : 16 ≤ sizeN n ∧ sizeN n ≤ 60 := by unfold sizeN; omega
set_option maxRecDepth 100000 in
theorem lsize_o (n : Int) (h1 : -9223372036854775808 ≤ n) (h2 : n ≤ 9223372036854775807) (w : World) : Calls Tryd.prog 15 #[.int .i64 n] w (fun e w' => e = .returned (.int .i64 (sizeN n : Nat)) ∧ w = w') := by
  by_cases h0 : n < 0
  · obtain ⟨k, rfl⟩ : ∃ k : Nat, n = -(k : Int) - 1 := ⟨(-(n + 1)).toNat, by omega⟩
    have e : ((sizeN (-(k : Int) - 1) : Nat) : Int) = 16 + (k : Int) % 45 := by unfold sizeN; rw [if_pos h0]; omega
    rw [e]
    clear e
    go_enter Tryd.func15, Tryd.ntmps15
    go_wp2_with fail
    go_ret
    exact ⟨rfl, rfl⟩
  · have e : ((sizeN n : Nat) : Int) = 16 + n % 45 := by unfold sizeN; rw [if_neg h0]; omega
    have h0' : 0 ≤ n := by omega
    rw [e]
    clear e
    go_enter Tryd.func15, Tryd.ntmps15
    go_wp2_with fail
    go_ret
    exact ⟨rfl, rfl⟩

set_option maxRecDepth 100000 in
set_option maxHeartbeats 1600000 in
theorem fresh_o (n : Nat) (hn : n ≤ 1000) (w : World) : Calls Tryd.prog 17 #[.int .i64 (n : Int)] w (fun e w' => ∃ A c, e = .returned (.slice A n c) ∧ n ≤ c ∧ ModelAt w' A (List.replicate n (zs 256)) ∧ Below w.heap.size w w') := by
  obtain ⟨i, hi, hz, hs, hby⟩ := info_parts info5
  have hni : (n : Int) ≤ 1000 := by omega
  go_enter Tryd.func17, Tryd.ntmps17
  go_wp2_with fail
  go_loopw [3, 4] (fun v i wr => ∃ (k : Nat) (A : Option Addr) (c : Nat) (xs : List Value), k ≤ n ∧ i = .int .i64 k ∧ v = .slice A k c ∧ wr.ownsRow w.heap.size 28 1 (.slice A k c) k xs ∧ Rows5 wr xs (List.replicate k (zs 256)) ∧ Below w.heap.size w wr) (fun _ i _ => n - (intOf i).toNat)
  case atStart => exact ⟨0, none, 0, [], by omega, rfl, rfl, World.ownsRow_nil _ _ _ _, Rows5.nil_ _, Below.refl _ _⟩
  case round =>
    obtain ⟨k, A, c, xs, hk, rfl, rfl, ho, hR, hbr⟩ := hrel
    by_cases hlt : k < n
    · have HO := Lib.hid ho
      have HR := Lib.hid hR
      clear ho hR
      go_wp2_with (at_make; refine Stop.out ?_)
      refine Stop.mk ?_
      refine wpList_make_row wr rfl _ _ 28 rfl 5 i (.int .u8 0) Tryd.underlying28 hi hz hs rfl .i64 .i64 256 rfl rfl (by rw [hby]; omega) (by omega) ?_
      have hb1 := below_alloc wr (.cells (madeCells #[.int .u8 0] 256) 5)
      have hk1 : (wr.alloc (.cells (madeCells #[.int .u8 0] 256) 5)).heap[wr.heap.size]? = some (.cells (bvs (zs 256)).toArray 5 (0, 0)) :=
        (heap_alloc_new wr (.cells (madeCells #[.int .u8 0] 256) 5)).trans (congrArg (fun x => some (Obj.cells x 5 (0, 0))) (made_zs 256))
      generalize wr.alloc (.cells (madeCells #[.int .u8 0] 256) 5) = w1 at hb1 hk1 ⊢
      have hb2 := below_alloc w1 (.cells #[.slice (some ⟨wr.heap.size, 0, none⟩) 256 256] 28)
      have hrow : Row w1 (.slice (some ⟨wr.heap.size, 0, none⟩) 256 256) (zs 256) := ⟨_, 256, by rw [zs_length], by rw [zs_length]; omega, Rd5.blk hk1⟩
      have H1 := Lib.hid (And.intro hb1 (And.intro hb2 hrow))
      clear hb1 hb2 hrow hk1
      go_wp2_with (at_builtin; refine Stop.out ?_)
      refine Stop.mk ?_
      obtain ⟨hb1, hb2, hrow⟩ := H1.out
      have hbw1 := hbr.trans (hb1.mono hbr.size)
      have hbw2 := hbw1.trans (hb2.mono hbw1.size)
      have ho2 := own_below (own_below HO.out hb1) hb2
      refine wpList_app _ rfl (.tmp 10) (.tmp 12) 38 rfl 28 (.slice none 0 0) 1 24 w.heap.size Tryd.underlying38 info28 rfl (by omega) (.slice A k c) k xs rfl ho2 (some ⟨w1.heap.size, 0, none⟩) 1 1 [.slice (some ⟨wr.heap.size, 0, none⟩) 256 256] rfl rfl (Rd.lit _ _ _) (by simp [Value.oneCell']) (by omega) (by omega) hbw2.size ?_
      intro A' c' w3 ho3 hg3 _
      have hb3 : Below w.heap.size w w3 := hbw2.grown hg3 hbw2.size (fun k e => (ho2.lt k e).1)
      have hrows : Rows5 w3 (xs ++ [.slice (some ⟨wr.heap.size, 0, none⟩) 256 256]) (List.replicate (k + 1) (zs 256)) := by
        rw [List.replicate_succ']
        exact ((((HR.out.below hb1).snoc hrow).below hb2).fr (Fr.grown hg3 (S := fun j => some j = (Value.slice A k c).ownBlock) (fun j e => e.symm)) (own_no5 ho2 (by decide)))
      have HZ := Lib.hid (And.intro ho3 (And.intro hrows hb3))
      clear ho2 ho3 hg3 hrows hrow hb1 hb2 hb3 hbw1 hbw2
      go_wp2_with fail
      go_roundw
      case rel =>
        obtain ⟨z1, z2, z3⟩ := HZ.out
        exact ⟨k + 1, A', c', _, by omega, by go_num, rfl, z1, z2, z3⟩
      case measure => simp [intOf]; omega
    · obtain rfl : k = n := by omega
      have hcap := (own_cap ho).2.1
      go_wp2_with fail
      go_ret
      exact ⟨A, c, rfl, hcap, ⟨xs, RdT.own ho, hR⟩, hbr⟩

/-- What a keeper keeps. -/
theorem keeper_o (ks : List Bool) (all : Bool) (n : Nat) (hn : n ≤ 1000000) (A : Option Addr) (c : Nat) (w : World) (hr : Rd w A (ks.map Value.bool)) (hks : ks.length ≤ 140737488355328) :
    Calls Tryd.prog 25 #[.slice A ks.length c, .bool all] w (fun e w' => ∃ kv, e = .returned kv ∧ Keeps kv (keepF ks all) n w' ∧ Below w.heap.size w w') := by
  go_enter Tryd.func25, Tryd.ntmps25
  go_wp2_with fail
  go_ret
  have hb1 := below_alloc w (.cells #[.slice A ks.length c] 48)
  have hb2 := below_alloc (w.alloc (.cells #[.slice A ks.length c] 48)) (.cells #[.bool all] 4)
  refine ⟨_, rfl, .inr ⟨_, _, rfl, fun i hi W hW => ?_⟩, hb1.trans (hb2.mono hb1.size)⟩
  have k1 := (hb2.block w.heap.size (by simp)).trans (heap_alloc_new w (.cells #[.slice A ks.length c] 48))
  have k2 := heap_alloc_new (w.alloc (.cells #[.slice A ks.length c] 48)) (.cells #[.bool all] 4)
  have k1' := (hW.block w.heap.size (by simp; omega)).trans k1
  have k2' : W.heap[w.heap.size + 1]? = some (.cells #[.bool all] 4 (0, 0)) := (hW.block _ (by simp)).trans (by simpa using k2)
  exact keep_o ks all i _ _ A c W (cell_of_row _ _ 0 _ 48 (0, 0) k1') (cell_of_row _ _ 0 _ 4 (0, 0) k2') (((hr.below hb1).below hb2).below hW) hks (by omega)
end Go.Proofs.YtbjbjnbloddioaaDoor
