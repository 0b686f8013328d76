/- Zero attributes, made. -/
import Derived.Test.YtekblnaogncplaaBb
set_option linter.unusedVariables false
set_option linter.unusedSimpArgs false
namespace Go.Proofs.Ytekblnaogncplaa
open Go.RowKit

def zattrs (n : Nat) : List AttrD := List.replicate n (0, [])
theorem zattrs_length (n : Nat) : (zattrs n).length = n := by simp [zattrs]
theorem made0 (n i : Nat) (h : i < n) : (madeCells #[.int .i64 0, .slice none 0 0] (n * 2)).toList[i * 2]? = some (.int .i64 0) := by
  have h2 : i * 2 < n * 2 := by omega
  simp [madeCells, h2, Nat.mul_mod_left]
theorem made1 (n i : Nat) (h : i < n) : (madeCells #[.int .i64 0, .slice none 0 0] (n * 2)).toList[i * 2 + 1]? = some (.slice none 0 0) := by
  have h2 : i * 2 + 1 < n * 2 := by omega
  have h3 : (i * 2 + 1) % 2 = 1 := by omega
  simp [madeCells, h2, h3]
theorem zattrs_row {w : World} {base n : Nat} (h : (madeCells #[.int .i64 0, .slice none 0 0] (n * 2)).toList.length = n * 2) : AtRow w base (madeCells #[.int .i64 0, .slice none 0 0] (n * 2)).toList (zattrs n) := by
  refine ⟨by rw [zattrs_length]; exact h, fun i t v hi => ?_, fun u hu => ?_⟩
  · have hlt : i < n := by
      have := (List.getElem?_eq_some_iff.1 hi).1
      rwa [zattrs_length] at this
    have e : (t, v) = ((0 : Int), ([] : List UInt8)) := by
      simp [zattrs, hlt] at hi
      first | exact Prod.ext hi.1.symm hi.2.symm | exact Prod.ext hi.1.symm hi.2 | exact Prod.ext hi.1 hi.2
    injection e with e1 e2
    subst e1; subst e2
    exact ⟨made0 n i hlt, none, 0, made1 n i hlt, Nat.le_refl _, World.ownsRow_nil _ _ _ _⟩
  · obtain ⟨k, hk, rfl⟩ := List.mem_iff_getElem.1 hu
    simp [madeCells]
    rcases Nat.mod_two_eq_zero_or_one k with h0 | h0 <;> simp [h0, Value.oneCell']

/-- A call of attributes alone. -/
theorem attr_o (L : List AttrD) (n c : Nat) (hn : L.length = n) (hl : n ≤ 100) (hv : ∀ a ∈ L, a.2.length ≤ 100000) (hc : n ≤ c) (w : World) (A : Option Addr) (h : AtU w w.heap.size A L) :
    Calls Try.prog 9 #[.agg #[.int .i64 0, .int .i64 0, .int .i64 0, .int .i64 0, .int .i64 0, .int .i64 0, .slice none 0 0, .slice none 0 0, .slice none 0 0, .slice A n c, .slice none 0 0]] w (fun e w' => Gives w w' e (encCall (attrCall L))) := by
  subst hn
  have hU : CallU w w.heap.size (attrCall L) ⟨none, 0, none, 0, none, 0, A, c, none, 0⟩ := ⟨rdu_nil _ _ _, Nat.le_refl _, rdu_nil _ _ _, Nat.le_refl _, rdu_nil _ _ _, Nat.le_refl _, h, hc, atu_nil _ _ _, Nat.le_refl _⟩
  have hM : CallM 100000 (attrCall L) := ⟨by simp [attrCall], by simp [attrCall], by simp [attrCall], by show L.length ≤ _; omega, by simp [attrCall], hv, by simp [attrCall]⟩
  exact call_o (attrCall L) ⟨none, 0, none, 0, none, 0, A, c, none, 0⟩ 100000 w hU hM (Nat.le_refl _)

theorem info3 : (Try.prog.info? 3).map (fun i => (i.zero, i.size, i.bytes)) = some (some (.int .i64 0), 1, 8) := by kernel_rfl
def zints (n : Nat) : List Int := List.replicate n 0
theorem zints_length (n : Nat) : (zints n).length = n := by simp [zints]
theorem made_ints (w : World) (n : Nat) : Rd (w.alloc (.cells (madeCells #[.int .i64 0] n) 3)) (some ⟨w.heap.size, 0, none⟩) (ints (zints n)) := by
  have h := Rd.lit w (madeCells #[.int .i64 0] n) 3
  rw [toList_madeCells_one] at h
  simpa [ints, zints] using h
/-- A reply of a list alone. -/
theorem list_o (n : Nat) (hn : n ≤ 100000) (w : World) (A : Option Addr) (h : Rd w A (ints (zints n))) :
    Calls Try.prog 17 #[.agg #[.int .i64 0, .int .i64 0, .int .i64 0, .slice none 0 0, .slice A n n, .slice none 0 0]] w (fun e w' => Gives w w' e (encReply ⟨0, 0, 0, [], zints n, []⟩)) := by
  have hU : ReplyU w w.heap.size ⟨0, 0, 0, [], zints n, []⟩ ⟨none, 0, A, n, none, 0⟩ := ⟨rdu_nil _ _ _, Nat.le_refl _, h.rdU, by show (zints n).length ≤ n; rw [zints_length]; exact Nat.le_refl _, atu_nil _ _ _, Nat.le_refl _⟩
  have := reply_o ⟨0, 0, 0, [], zints n, []⟩ ⟨none, 0, A, n, none, 0⟩ 100000 w hU ⟨by simp, by show (zints n).length ≤ _; rw [zints_length]; exact hn, by simp, by simp⟩ (Nat.le_refl _)
  have e : replyCells ⟨0, 0, 0, [], zints n, []⟩ ⟨none, 0, A, n, none, 0⟩ = #[.int .i64 0, .int .i64 0, .int .i64 0, .slice none 0 0, .slice A n n, .slice none 0 0] := by simp [replyCells, zints_length]
  rw [e] at this
  exact this
/-- A reply of attributes alone. -/
theorem rattr_o (L : List AttrD) (n c : Nat) (hn : L.length = n) (hl : n ≤ 100) (hv : ∀ a ∈ L, a.2.length ≤ 100000) (hc : n ≤ c) (w : World) (A : Option Addr) (h : AtU w w.heap.size A L) :
    Calls Try.prog 17 #[.agg #[.int .i64 0, .int .i64 0, .int .i64 0, .slice none 0 0, .slice none 0 0, .slice A n c]] w (fun e w' => Gives w w' e (encReply ⟨0, 0, 0, [], [], L⟩)) := by
  subst hn
  exact reply_o ⟨0, 0, 0, [], [], L⟩ ⟨none, 0, none, 0, A, c⟩ 100000 w ⟨rdu_nil _ _ _, Nat.le_refl _, fun i v h => by simp [ints] at h, Nat.le_refl _, h, hc⟩ ⟨by simp, by simp, by show L.length ≤ _; omega, hv⟩ (Nat.le_refl _)

/-- One attribute, made on the spot. -/
theorem one_atu (w : World) (v : List UInt8) (n : Nat) (hn : v.length = n) (A : Option Addr) (h : Rd w A (bvs v)) :
    AtU (w.alloc (.cells #[.int .i64 0, .slice A n n] 50)) (w.alloc (.cells #[.int .i64 0, .slice A n n] 50)).heap.size (some ⟨w.heap.size, 0, none⟩) [(0, v)] := fun i t u hi => by
  subst hn
  have hlt : i < 1 := by simpa using (List.getElem?_eq_some_iff.1 hi).1
  obtain rfl : i = 0 := by omega
  have e : ((0 : Int), v) = (t, u) := by simpa using hi
  injection e with e1 e2
  subst e1; subst e2
  have hk : (w.alloc (.cells #[.int .i64 0, .slice A v.length v.length] 50)).heap[w.heap.size]? = some (.cells #[.int .i64 0, .slice A v.length v.length] 50 (0, 0)) := heap_alloc_new w _
  exact ⟨w.heap.size, 0, rfl, by simp, cell_of_row _ _ 0 _ 50 (0, 0) hk, A, v.length, cell_of_row _ _ 1 _ 50 (0, 0) hk, Nat.le_refl _, (h.below (below_alloc w _)).rdU⟩
end Go.Proofs.Ytekblnaogncplaa
