/- The writer of frames: what each method does to what was written. -/
import Derived.Test.YtekblnaogncplaaC
set_option linter.unusedVariables false
set_option linter.unusedSimpArgs false
namespace Go.Proofs.Ytekblnaogncplaa
open Go.RowKit

/-- An attribute: its type, its value. -/
abbrev AttrD := Int × List UInt8
/-- From A on attributes, below block U. -/
def AtU (w : World) (U : Nat) (A : Option Addr) (L : List AttrD) : Prop :=
  ∀ (i : Nat) (t : Int) (v : List UInt8), L[i]? = some (t, v) → ∃ g o, A = some ⟨g, o, none⟩ ∧ g < U ∧ w.cell? ⟨g, o + i * 2, none⟩ = some (.int .i64 t) ∧
    ∃ Av cv, w.cell? ⟨g, o + i * 2 + 1, none⟩ = some (.slice Av v.length cv) ∧ v.length ≤ cv ∧ RdU w U Av (bvs v)
theorem AtU.below {w w' : World} {U : Nat} {A : Option Addr} {L : List AttrD} (h : AtU w U A L) (hb : Below U w w') : AtU w' U A L := fun i t v hi => by
  obtain ⟨g, o, e, hU, h1, Av, cv, h2, h3, h4⟩ := h i t v hi
  exact ⟨g, o, e, hU, (hb.cell hU).trans h1, Av, cv, (hb.cell hU).trans h2, h3, h4.below hb⟩
theorem AtU.more {w : World} {U U' : Nat} {A : Option Addr} {L : List AttrD} (h : AtU w U A L) (hU : U ≤ U') : AtU w U' A L := fun i t v hi => by
  obtain ⟨g, o, e, hl, h1, Av, cv, h2, h3, h4⟩ := h i t v hi
  exact ⟨g, o, e, by omega, h1, Av, cv, h2, h3, h4.more hU⟩

/-- The writer, told: what it has written; none: something may not be. -/
def WrO (w : World) (B g N : Nat) : Option (List UInt8) → Prop
  | some l => ∃ A c, Wr w B g A c l false ∧ l.length ≤ N
  | none => ∃ A c l, Wr w B g A c l true ∧ l.length ≤ N
theorem WrO.mk {w : World} {B g N : Nat} {A : Option Addr} {c : Nat} {l : List UInt8} {bad : Bool} (h : Wr w B g A c l bad) (hl : l.length ≤ N) : WrO w B g N (if bad then none else some l) := by
  cases bad
  · exact ⟨A, c, h, hl⟩
  · exact ⟨A, c, l, h, hl⟩
theorem WrO.open_ {w : World} {B g N : Nat} {o : Option (List UInt8)} (h : WrO w B g N o) : ∃ A c l, ∃ bad : Bool, Wr w B g A c l bad ∧ l.length ≤ N ∧ o = if bad then none else some l := by
  cases o with
  | none => obtain ⟨A, c, l, h, hl⟩ := h; exact ⟨A, c, l, true, h, hl, rfl⟩
  | some l => obtain ⟨A, c, h, hl⟩ := h; exact ⟨A, c, l, false, h, hl, rfl⟩
theorem WrO.more {w : World} {B g N N' : Nat} {o : Option (List UInt8)} (h : WrO w B g N o) (hN : N ≤ N') : WrO w B g N' o := by
  obtain ⟨A, c, l, bad, hw, hl, rfl⟩ := h.open_
  exact WrO.mk hw (by omega)
theorem WrO.le {w : World} {B g N : Nat} {o : Option (List UInt8)} (h : WrO w B g N o) : B ≤ g ∧ g < w.heap.size := by
  obtain ⟨A, c, l, bad, hw, hl, rfl⟩ := h.open_
  exact ⟨hw.le, hw.lt⟩

def oput (o : Option (List UInt8)) (n : Int) (k : Nat) (most : Int) : Option (List UInt8) := o.bind fun l => if n < 0 ∨ n > most then none else some (l ++ be n.toNat k)
def obytes (o : Option (List UInt8)) (b : List UInt8) (k : Nat) (most : Int) : Option (List UInt8) := (oput o b.length k most).map (· ++ b)
def oattr (o : Option (List UInt8)) (a : AttrD) : Option (List UInt8) := obytes (oput o a.1 2 65535) a.2 2 16384
def oattrs (o : Option (List UInt8)) (L : List AttrD) : Option (List UInt8) := L.foldl oattr (oput o L.length 1 64)
def oframe (o : Option (List UInt8)) : Option (List UInt8) := o.bind fun l => if l.length > 262144 then none else some (be l.length 4 ++ l)

theorem put_o (n : Int) (k : Nat) (hk : k = 1 ∨ k = 2 ∨ k = 4) (most : Int) (hmost : most ≤ 2147483647) (g B N : Nat) (o : Option (List UInt8)) (w : World) (hW : WrO w B g N o) (hN : N ≤ 1000000000000) :
    Calls Try.prog 22 #[.pointer (some ⟨g, 0, none⟩), .int .i64 n, .int .i64 (k : Int), .int .i64 most] w (fun e w' =>
      e = .returned (.tuple #[]) ∧ WrO w' B g (N + 4) (oput o n k most) ∧ WFr B g w w') := by
  obtain ⟨A, c, l, bad, h, hl, rfl⟩ := hW.open_
  refine (put_any n k hk most hmost g B A c l bad w h (by omega)).mono ?_
  rintro e w' ⟨he, ⟨A', c', h'⟩, hf⟩
  refine ⟨he, ?_, hf⟩
  unfold wput at h'
  have hk4 : k ≤ 4 := by omega
  by_cases hm : n < 0 ∨ n > most
  · rw [if_pos hm] at h'
    have := WrO.mk (N := N + 4) h' (by simp; omega)
    cases bad <;> simpa [oput, hm] using this
  · rw [if_neg hm] at h'
    have := WrO.mk (N := N + 4) h' (by simp [be_length]; omega)
    cases bad <;> simpa [oput, hm] using this

set_option maxRecDepth 100000 in
set_option maxHeartbeats 400000 in
theorem bytes_o (b : List UInt8) (Ab : Option Addr) (cb : Nat) (k : Nat) (hk : k = 1 ∨ k = 2 ∨ k = 4) (most : Int) (hmost : most ≤ 2147483647) (g B N : Nat) (o : Option (List UInt8)) (w : World) (hW : WrO w B g N o) (hN : N + 4 + b.length ≤ 1000000000000)
    (hb : RdU w B Ab (bvs b)) :
    Calls Try.prog 23 #[.pointer (some ⟨g, 0, none⟩), .slice Ab b.length cb, .int .i64 (k : Int), .int .i64 most] w (fun e w' =>
      e = .returned (.tuple #[]) ∧ WrO w' B g (N + 4 + b.length) (obytes o b k most) ∧ WFr B g w w') := by
  have hle := hW.le
  go_enter Try.func23, Try.ntmps23
  go_wp2_with fail
  refine (put_o b.length k hk most hmost g B N o w hW (by omega)).mono ?_
  rintro e w1 ⟨rfl, hW1, hf1⟩
  obtain ⟨A, c, l, bad, h, hl, ho⟩ := hW1.open_
  have HO := Lib.hid ho
  clear ho
  have hc0 : w1.cell? ⟨g, 0, none⟩ = some (.slice A l.length c) := cell_of_row w1 g 0 _ 58 (0, 0) h.blk
  have hc1 : w1.cell? ⟨g, 1, none⟩ = some (.bool bad) := cell_of_row w1 g 1 _ 58 (0, 0) h.blk
  have hf0 : w1.frozen? ⟨g, 0, none⟩ = false := frozen_of_row w1 g 0 _ 58 h.blk
  have hb1 := hb.below (hf1.below hle.1 (by omega))
  have hlt := h.lt
  cases bad with
  | true =>
    go_wp2
    go_end0
    refine ⟨rfl, ?_, hf1⟩
    unfold obytes
    rw [HO.out] at hW1 ⊢
    exact hW1.more (by omega)
  | false =>
    go_wp2_with (at_builtin; refine Stop.out ?_)
    refine Stop.mk ?_
    refine wpList_app _ rfl (.tmp 23) (.tmp 24) 22 rfl 5 (.int .u8 0) 1 1 B Try.underlying22 info5 rfl (by omega) (.slice A l.length c) l.length (bvs l) rfl h.own Ab b.length cb (bvs b) rfl (by simp [bvs_length]) hb1.rd (bvs_one _) (by omega) (by omega) (by have := h.le; omega) ?_
    intro A' c' w2 ho2 hg hat
    have hc2 := (hg.cell_far ⟨g, 0, none⟩ hlt h.ne).trans hc0
    have hf2 := (hg.frozen_far ⟨g, 0, none⟩ hlt h.ne).trans hf0
    go_wp2
    go_end0
    have H := h.next (l' := b) (Below.refl _ _) ho2 hg
    have H1 := WrO.mk (N := N + 4 + b.length) H.1 (by simp; omega)
    refine ⟨rfl, ?_, hf1.trans H.2⟩
    unfold obytes
    rw [HO.out]
    exact H1
theorem Wr.kept {w w' : World} {B g : Nat} {A : Option Addr} {c : Nat} {l : List UInt8} {bad : Bool} (h : Wr w B g A c l bad) (hb : Below w.heap.size w w') : Wr w' B g A c l bad :=
  ⟨(hb.block g h.lt).trans h.blk, own_below h.own hb, h.le⟩
theorem WrO.kept {w w' : World} {B g N : Nat} {o : Option (List UInt8)} (h : WrO w B g N o) (hb : Below w.heap.size w w') : WrO w' B g N o := by
  obtain ⟨A, c, l, bad, hw, hl, rfl⟩ := h.open_
  exact WrO.mk (hw.kept hb) hl
theorem below_alloc (w : World) (o : Obj) : Below w.heap.size w (w.alloc o) := (Below.refl _ _).alloc (Nat.le_refl _) o
theorem oattr_none (a : AttrD) : oattr none a = none := rfl
theorem foldl_none (L : List AttrD) : L.foldl oattr none = none := by
  induction L with
  | nil => rfl
  | cons a L ih => exact ih

theorem foldl_split {α β : Type} (f : β → α → β) (i : β) (L : List α) (k : Nat) : L.foldl f i = (L.drop k).foldl f ((L.take k).foldl f i) := by
  rw [← List.foldl_append, List.take_append_drop]

set_option maxRecDepth 100000 in
set_option maxHeartbeats 400000 in
theorem attrs_o (L : List AttrD) (Al : Option Addr) (cl : Nat) (g B N M : Nat) (o : Option (List UInt8)) (w : World) (hW : WrO w B g N o)
    (hL : AtU w B Al L) (hM : ∀ a ∈ L, a.2.length ≤ M) (hN : N + 4 + L.length * (M + 8) ≤ 1000000000000) :
    Calls Try.prog 24 #[.pointer (some ⟨g, 0, none⟩), .slice Al L.length cl] w (fun e w' =>
      e = .returned (.tuple #[]) ∧ WrO w' B g (N + 4 + L.length * (M + 8)) (oattrs o L) ∧ WFr B g w w') := by
  have hle := hW.le
  have hLs : L.length ≤ 1000000000000 := Nat.le_trans (Nat.le_mul_of_pos_right _ (by omega)) (Nat.le_trans (Nat.le_add_left _ _) hN)
  go_enter Try.func24, Try.ntmps24
  go_wp2_with fail
  refine (put_o L.length 1 (.inl rfl) 64 (by omega) g B N o w hW (by omega)).mono ?_
  rintro e w1 ⟨rfl, hW1, hf1⟩
  go_wp2_with fail
  go_loopw [12] (fun i wr => ∃ k : Nat, k ≤ L.length ∧ i = .int .i64 k ∧ WrO wr B g (N + 4 + k * (M + 8)) ((L.take k).foldl oattr (oput o L.length 1 64)) ∧ WFr B g w wr) (fun i _ => L.length - (intOf i).toNat)
  case atStart => exact ⟨0, by omega, rfl, by simpa using hW1, hf1⟩
  case round =>
    obtain ⟨k, hk, rfl, hWk, hfk⟩ := hrel
    by_cases hlt : k < L.length
    · have hle2 := hWk.le
      have hNk : N + 4 + k * (M + 8) + (M + 8) ≤ N + 4 + L.length * (M + 8) := by
        have : (k + 1) * (M + 8) ≤ L.length * (M + 8) := Nat.mul_le_mul_right _ hlt
        rw [Nat.add_mul] at this
        omega
      obtain ⟨A, c, l, bad, h, hl, ho⟩ := hWk.open_
      have HO := Lib.hid ho
      clear ho
      have hc1 : wr.cell? ⟨g, 1, none⟩ = some (.bool bad) := cell_of_row wr g 1 _ 58 (0, 0) h.blk
      obtain ⟨ga, oa, hA, hU, hx1, Av, cv, hx2, hcv, hrv⟩ := (hL.below (hfk.below hle.1 (by omega))) k L[k].1 L[k].2 (by simp [hlt])
      subst hA
      have hMk := hM L[k] (List.getElem_mem hlt)
      cases bad with
      | true =>
        go_wp2_with fail
        refine bodyPost_ret (results_none rfl _ _ _) rfl ?_
        refine ⟨rfl, ?_, hfk.trans (WFr.of_below (below_alloc _ _))⟩
        have e : oattrs o L = none := by
          unfold oattrs
          rw [foldl_split _ _ L k, HO.out]
          exact foldl_none _
        rw [e]
        rw [HO.out] at hWk
        exact (hWk.kept (below_alloc _ _)).more (by omega)
      | false =>
        have hWa := hWk.kept (below_alloc wr (.cells #[.int .i64 L[k].1, .slice Av L[k].2.length cv] 50))
        go_wp2_with fail
        refine (put_o L[k].1 2 (.inr (.inl rfl)) 65535 (by omega) g B _ _ _ hWa (by omega)).mono ?_
        rintro e w2 ⟨rfl, hW2, hf2⟩
        have hblk := hf2.blk (heap_alloc_new wr (.cells #[.int .i64 L[k].1, .slice Av L[k].2.length cv] 50)) (by omega) (by decide)
        have hd1 : w2.cell? ⟨wr.heap.size, 1, none⟩ = some (.slice Av L[k].2.length cv) := cell_of_row w2 _ 1 _ 50 (0, 0) hblk
        have hf2' := (hfk.trans (WFr.of_below (below_alloc wr (.cells #[.int .i64 L[k].1, .slice Av L[k].2.length cv] 50)))).trans hf2
        have hrv2 := hrv.below ((WFr.of_below (B := B) (g := g) (below_alloc wr (.cells #[.int .i64 L[k].1, .slice Av L[k].2.length cv] 50))).trans hf2 |>.below hle.1 (by omega))
        clear hblk hx1 hx2 hWa
        go_wp2_with fail
        refine (bytes_o L[k].2 Av cv 2 (.inr (.inl rfl)) 16384 (by omega) g B _ _ w2 hW2 (by omega) hrv2).mono ?_
        rintro e w3 ⟨rfl, hW3, hf3⟩
        go_wp2_with fail
        go_roundw
        case rel =>
          refine ⟨k + 1, hlt, by go_num, ?_, hf2'.trans hf3⟩
          rw [List.take_succ_eq_append_getElem hlt, List.foldl_append]
          refine hW3.more ?_
          rw [Nat.add_mul]
          omega
        case measure => simp [intOf]; omega
    · have hk2 : k = L.length := by omega
      subst hk2
      go_wp2_with fail
      go_end0
      refine ⟨rfl, ?_, hfk⟩
      rw [List.take_length] at hWk
      exact hWk
end Go.Proofs.Ytekblnaogncplaa
