/- Bytes: numbers written and read, copies, comparing. -/
import Derived.Test.YtbjbjnbloddioaaDoorB
import Derived.Test.YtbjbjnbloddioaaDoorU
import Derived.Test.YtbjbjnbloddioaaDoorProg
import Derived.Deep.LoopGhost
import Derived.Laws.CopyOwn
set_option linter.unusedVariables false
set_option linter.unusedSimpArgs false
namespace Go.Proofs.YtbjbjnbloddioaaDoor
open Go.RowKit

theorem info5 : (Tryd.prog.info? 5).map (fun i => (i.zero, i.size, i.bytes)) = some (some (.int .u8 0), 1, 1) := by kernel_rfl
theorem grown_comp {w w1 w2 : World} {r : Option Nat} (hb : Below w.heap.size w w1) (hg : w1.grownBy w2 r) : w.grownBy w2 r :=
  ⟨hg.os.trans hb.os, hg.tape.trans hb.tape, hg.output.trans hb.output, Nat.le_trans hb.size hg.size, fun k hk hne => (hg.block k (Nat.lt_of_lt_of_le hk hb.size) hne).trans (hb.block k hk)⟩
/-- Bytes read where they stand in a row of the call's own: what came of an append. -/
def Apd (B : Nat) (w w' : World) (A : Option Addr) (c : Nat) (l m : List UInt8) (e : Ending) : Prop :=
  ∃ A' c', e = .returned (.slice A' (l ++ m).length c') ∧ w'.ownsRow B 5 1 (.slice A' (l ++ m).length c') (l ++ m).length (bvs (l ++ m)) ∧ w.grownBy w' (Value.slice A l.length c).ownBlock ∧
    ((Value.slice A' (l ++ m).length c').ownBlock = (Value.slice A l.length c).ownBlock ∨ ∃ k, (Value.slice A' (l ++ m).length c').ownBlock = some k ∧ w.heap.size ≤ k)

set_option maxRecDepth 100000 in
set_option maxHeartbeats 400000 in
theorem append64_o (x : Nat) (hx : x < 18446744073709551616) (w : World) (B : Nat) (A : Option Addr) (c : Nat) (l : List UInt8) (ho : w.ownsRow B 5 1 (.slice A l.length c) l.length (bvs l)) (hB : B ≤ w.heap.size) (hl : l.length ≤ 1000000000) :
    Calls Tryd.prog 41 #[.slice A l.length c, .int .u64 (x : Int)] w (fun e w' => Apd B w w' A c l (be x 8) e) := by
  have HB := Lib.hid (bvs_be8 x hx)
  go_enter Tryd.func41, Tryd.ntmps41
  go_wp2_with (at_builtin; refine Stop.out ?_)
  refine Stop.mk ?_
  refine wpList_app _ rfl (.tmp 5) (.tmp 29) 28 rfl 5 (.int .u8 0) 1 1 B Tryd.underlying28 info5 rfl (by omega) (.slice A l.length c) l.length (bvs l) rfl (own_below ho (below_alloc w _)) (some ⟨w.heap.size, 0, none⟩) 8 8 _ rfl (by rfl) (Rd.lit _ _ _) (by simp [Value.oneCell']) (by omega) (by omega) (by simp; omega) ?_
  intro A' c' w1 ho1 hg hat
  go_wp2
  go_ret
  have e1 : (l ++ be x 8).length = l.length + 8 := by simp [be_length]
  refine ⟨A', c', by simp [e1], by rw [e1, bvs_append, HB.out]; exact ho1, grown_comp (below_alloc w _) hg, ?_⟩
  rw [e1]
  rcases hat with h | h
  · exact .inl h
  · exact .inr ⟨_, h, by simp⟩

set_option maxRecDepth 100000 in
set_option maxHeartbeats 400000 in
theorem append32_o (x : Nat) (hx : x < 4294967296) (w : World) (B : Nat) (A : Option Addr) (c : Nat) (l : List UInt8) (ho : w.ownsRow B 5 1 (.slice A l.length c) l.length (bvs l)) (hB : B ≤ w.heap.size) (hl : l.length ≤ 1000000000) :
    Calls Tryd.prog 57 #[.slice A l.length c, .int .u32 (x : Int)] w (fun e w' => Apd B w w' A c l (be x 4) e) := by
  have HB := Lib.hid (bvs_be4 x hx)
  go_enter Tryd.func57, Tryd.ntmps57
  go_wp2_with (at_builtin; refine Stop.out ?_)
  refine Stop.mk ?_
  refine wpList_app _ rfl (.tmp 5) (.tmp 17) 28 rfl 5 (.int .u8 0) 1 1 B Tryd.underlying28 info5 rfl (by omega) (.slice A l.length c) l.length (bvs l) rfl (own_below ho (below_alloc w _)) (some ⟨w.heap.size, 0, none⟩) 4 4 _ rfl (by rfl) (Rd.lit _ _ _) (by simp [Value.oneCell']) (by omega) (by omega) (by simp; omega) ?_
  intro A' c' w1 ho1 hg hat
  go_wp2
  go_ret
  have e1 : (l ++ be x 4).length = l.length + 4 := by simp [be_length]
  refine ⟨A', c', by simp [e1], by rw [e1, bvs_append, HB.out]; exact ho1, grown_comp (below_alloc w _) hg, ?_⟩
  rw [e1]
  rcases hat with h | h
  · exact .inl h
  · exact .inr ⟨_, h, by simp⟩

set_option maxRecDepth 100000 in
set_option maxHeartbeats 400000 in
theorem clone_o (l : List UInt8) (A : Option Addr) (c : Nat) (w : World) (h : Rd w A (bvs l)) (hl : l.length ≤ 1000000000000) :
    Calls Tryd.prog 46 #[.slice A l.length c] w (fun e w' => ∃ A' c', e = .returned (.slice A' l.length c') ∧ l.length ≤ c' ∧ w'.ownsRow w.heap.size 5 1 (.slice A' l.length c') l.length (bvs l) ∧ Below w.heap.size w w' ∧ (A ≠ none → A' ≠ none)) := by
  cases A with
  | none =>
    have hl0 : l = [] := by
      cases l with
      | nil => rfl
      | cons b l => obtain ⟨_, _, e, _⟩ := h 0 (bv b) (by simp [bvs]); cases e
    subst hl0
    have hq : ∀ w : World, (binOp .eql 28 (.slice none 0 c) (.slice none 0 0)).run Tryd.prog w = .ok (.bool true) w := fun w => Lib.run_eql_slice_nil (P := Tryd.prog) w 28 5 none 0 c 0 0 Tryd.underlying28
    go_enter Tryd.func46, Tryd.ntmps46
    go_wp2
    go_ret
    exact ⟨none, 0, by simp, Nat.le_refl _, World.ownsRow_nil _ _ _ _, Below.refl _ _, fun h => absurd rfl h⟩
  | some ad =>
    have hq : ∀ w : World, (binOp .eql 28 (.slice (some ad) l.length c) (.slice none 0 0)).run Tryd.prog w = .ok (.bool false) w := fun w => Lib.run_eql_slice_nil (P := Tryd.prog) w 28 5 (some ad) l.length c 0 0 Tryd.underlying28
    go_enter Tryd.func46, Tryd.ntmps46
    go_wp2_with (at_builtin; refine Stop.out ?_)
    refine Stop.mk ?_
    refine wpList_app _ rfl (.tmp 5) (.tmp 6) 28 rfl 5 (.int .u8 0) 1 1 w.heap.size Tryd.underlying28 info5 rfl (by omega) (.slice (some ⟨w.heap.size, 0, none⟩) 0 0) 0 [] rfl (World.ownsRow_made w #[] 0 (Nat.le_refl _) (by simp [maxLen]) rfl) (some ad) l.length c (bvs l) rfl (by simp [bvs_length]) (h.below (below_alloc _ _)) (bvs_one _) (by omega) (by omega) (by simp) ?_
    intro A' c' w2 ho2 hg hat
    go_wp2
    go_ret
    refine ⟨A', c', by simp, by have := (own_cap ho2).2.1; omega, by simpa using ho2, (below_alloc w _).grown hg (by simp) (by intro k hk; simp [Value.ownBlock] at hk; omega), fun _ e => ?_⟩
    subst e
    rcases hat with hh | hh <;> simp [Value.ownBlock] at hh

/-- The same bytes? -/
theorem equal_o (a b : List UInt8) (A B : Option Addr) (c d : Nat) (w : World) (ha : Rd w A (bvs a)) (hb : Rd w B (bvs b)) :
    Calls Tryd.prog 38 #[.slice A a.length c, .slice B b.length d] w (fun e w' => e = .returned (.bool (a == b)) ∧ w = w') := by
  have h1 := run_str (P := Tryd.prog) w ha 28 9 5 Tryd.underlying28 Tryd.underlying5 Tryd.underlying9 a.length c rfl
  have h2 := run_str (P := Tryd.prog) w hb 28 9 5 Tryd.underlying28 Tryd.underlying5 Tryd.underlying9 b.length d rfl
  unfold str at h1 h2
  go_enter Tryd.func38, Tryd.ntmps38
  go_wp2
  go_ret
  exact ⟨by simp, rfl⟩

set_option maxRecDepth 100000 in
set_option maxHeartbeats 1600000 in
theorem get32_o (a b c d : UInt8) (l : List UInt8) (A : Option Addr) (cp : Nat) (w : World) (h : Rd w A (bvs (a :: b :: c :: d :: l))) (n : Nat) (hn : n = l.length + 4) :
    Calls Tryd.prog 62 #[.slice A n cp] w (fun e w' => e = .returned (.int .u32 (beV [a, b, c, d] : Int)) ∧ w' = w.drew) := by
  obtain ⟨g, o, hA⟩ := h.some_ (by simp [bvs_length])
  subst hA
  have ha := a.toNat_lt
  have hb := b.toNat_lt
  have hc := c.toNat_lt
  have hd := d.toNat_lt
  have c0 : w.cell? ⟨g, o, none⟩ = some (.int .u8 (a.toNat : Int)) := h.at_ 0 rfl
  have c1 : w.cell? ⟨g, o + 1, none⟩ = some (.int .u8 (b.toNat : Int)) := h.at_ 1 rfl
  have c2 : w.cell? ⟨g, o + 2, none⟩ = some (.int .u8 (c.toNat : Int)) := h.at_ 2 rfl
  have c3 : w.cell? ⟨g, o + 3, none⟩ = some (.int .u8 (d.toNat : Int)) := h.at_ 3 rfl
  have hn0 : (0 : Int) < (n : Int) := by omega
  have hn1 : (1 : Int) < (n : Int) := by omega
  have hn2 : (2 : Int) < (n : Int) := by omega
  have hn3 : (3 : Int) < (n : Int) := by omega
  go_enter Tryd.func62, Tryd.ntmps62
  go_wp2_with fail
  refine wp_region_seg [] [[0, 1, 2, 3, 4, 5, 6, 7, 8, 9, 10, 11, 12, 13, 14, 15, 16, 17, 18, 19, 20, 21, 22]] (by kernel_rfl) (by kernel_rfl) ?_
  simp only [Seg, pick_cons, pick_nil, List.getElem?_toArray, List.getElem?_cons_zero, List.getElem?_cons_succ, Option.toList_some, List.cons_append, List.nil_append]
  go_wp2_with fail
  refine Fin.intro ⟨by kernel_rfl, ?_⟩
  go_wp2
  go_ret
  refine ⟨?_, rfl⟩
  simp
  rw [four_or _ _ _ _ ha hb hc hd]
  simp [beV]
end Go.Proofs.YtbjbjnbloddioaaDoor
