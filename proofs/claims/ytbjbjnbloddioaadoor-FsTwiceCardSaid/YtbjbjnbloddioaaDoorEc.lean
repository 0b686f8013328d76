/- Chunks: the iterator. -/
import Derived.Test.YtbjbjnbloddioaaDoorEb
import Derived.Test.YtbjbjnbloddioaaDoorNa
import Derived.RangeFuncBox
import Derived.Shelf.Abstract
import Derived.Shelf.RegionOpen
import Derived.WalkKit
import Derived.OwnWalkIn
import Derived.TacticsInMore
import Derived.LoopNIn
import Derived.LoopIn
set_option linter.unusedVariables false
set_option linter.unusedSimpArgs false
namespace Go.Proofs.YtbjbjnbloddioaaDoor
open Go.RowKit Go.Shelf
attribute [local go_sem] Oper.semAt_some

/-- The k-th piece of 64 bytes. -/
def piece (l : List UInt8) (k : Nat) : List UInt8 := (l.drop (64 * k)).take 64
/-- What is handed over: the next piece, in memory of its own. -/
def GC (n₀ : Nat) (l : List UInt8) (pre : List (Int × Value)) (x : Int × Value) (W : World) : Prop :=
  64 * pre.length < l.length ∧ ∃ A c, x.2 = .slice A (piece l pre.length).length c ∧ W.ownsRow n₀ 5 1 (.slice A (piece l pre.length).length c) (piece l pre.length).length (bvs (piece l pre.length))
/-- These blocks lie as they lay. -/
def Kb (S : Nat → Prop) (W W' : World) : Prop := W.heap.size ≤ W'.heap.size ∧ ∀ k, S k → k < W.heap.size → W'.heap[k]? = W.heap[k]?
theorem Kb.trans {S : Nat → Prop} {A B C : World} (h : Kb S A B) (k : Kb S B C) : Kb S A C := ⟨Nat.le_trans h.1 k.1, fun i hi hl => (k.2 i hi (Nat.lt_of_lt_of_le hl h.1)).trans (h.2 i hi hl)⟩
theorem Kb.put {S : Nat → Prop} {n : Nat} (hS : ∀ k, S k → k < n) (W : World) (l : Nat) (o o' : Obj) (hl : n ≤ l) (h : W.heap[l]? = some o) : Kb S W (W.putObj l o') :=
  ⟨by simp, fun k hk _ => World.putObj_heap_other (by have := hS k hk; omega)⟩
/-- The iterator's own write: its box. -/
def OwB (bb : Nat) (A B : World) : Prop := ∃ v, B = A.setCell ⟨bb, 0, none⟩ v
theorem OwB.keeps {bb : Nat} {A B : World} (h : OwB bb A B) : KeepsOthers A B := by
  obtain ⟨v, rfl⟩ := h
  exact KeepsOthers.setCell _ _ _
/-- Where the bytes that are left stand. -/
def At5 (ga : Nat) (ca : Array Value) (A : Option Addr) (xs : List Value) : Prop := ∀ j u, xs[j]? = some u → ∃ o, A = some ⟨ga, o, none⟩ ∧ ca[o + j]? = some u
theorem At5.rd {ga : Nat} {ca : Array Value} {A : Option Addr} {xs : List Value} {w : World} (h : At5 ga ca A xs) (hg : w.heap[ga]? = some (.cells ca 5 (0, 0))) : Rd w A xs := fun j u hu => by
  obtain ⟨o, e, hc⟩ := h j u hu
  exact ⟨ga, o, e, (cell_of_row w ga (o + j) ca 5 (0, 0) hg).trans hc⟩
theorem At5.drop {ga : Nat} {ca : Array Value} {A : Option Addr} {xs : List Value} (h : At5 ga ca A xs) (k : Nat) : At5 ga ca (Option.map (fun x => x.add k) A) (xs.drop k) := fun j u hu => by
  rw [List.getElem?_drop] at hu
  obtain ⟨o, rfl, hc⟩ := h _ u hu
  exact ⟨o + k, by simp [add_lit], by rw [Nat.add_assoc]; exact hc⟩
theorem At5.nil (ga : Nat) (ca : Array Value) (A : Option Addr) : At5 ga ca A [] := fun j u hu => by simp at hu
theorem gc_put (n₀ : Nat) (l : List UInt8) : ∀ (pre : List (Int × Value)) (x : Int × Value) (W : World) (k : Nat) (o o' : Obj), GC n₀ l pre x W → W.heap[k]? = some o → o.isCells = false → GC n₀ l pre x (W.putObj k o') := by
  rintro pre x W k o o' ⟨h1, A, c, h2, h3⟩ hk ho
  exact ⟨h1, A, c, h2, ownsRow_putObj h3 o' hk ho⟩

set_option maxRecDepth 100000 in
set_option maxHeartbeats 1600000 in
theorem chunks_in (n : Nat) (hn : 1 ≤ n) (l' bn bb ga n₀ : Nat) (l : List UInt8) (ca : Array Value) (A : Option Addr) (c : Nat) (hl : l.length ≤ 100000000) (hc : l.length ≤ c)
    (J Jx : List (Int × Value) → World → Prop) (W : World) (hJ : AbidesFrom W.heap.size J) (hJo : ∀ s A B, J s A → OwB bb A B → J s B)
    (hY : ∀ pre x W, J pre W → GC n₀ l pre x W → YieldAt Fence.wide (n - 1) Tryd.prog l' #[.int .i64 x.1, x.2] W fun e W' =>
      (e = .returned (.bool true) ∧ J (pre ++ [x]) W' ∧ Kb (fun k => k = bn ∨ k = bb ∨ k = ga) W W') ∨ (e = .returned (.bool false) ∧ Jx (pre ++ [x]) W'))
    (hn' : W.heap[bn]? = some (.cells #[.int .i64 64] 3 (0, 0))) (hb' : W.heap[bb]? = some (.cells #[.slice A l.length c] 28 (0, 0))) (hg' : l ≠ [] → W.heap[ga]? = some (.cells ca 5 (0, 0))) (hat : At5 ga ca A (bvs l)) (hn₀ : n₀ ≤ W.heap.size) (hgb : ga ≠ bb) (hnb : bn ≠ bb) (h0 : J [] W) :
    CallsIn Fence.wide n Tryd.prog 58 #[.func (.yield l') #[] #[], .pointer (some ⟨bn, 0, none⟩), .pointer (some ⟨bb, 0, none⟩)] W fun e W' => (∃ v, e = .returned v) ∧
      ((∃ ys, l.length ≤ 64 * ys.length ∧ 64 * ys.length < l.length + 64 ∧ J ys W') ∨ (∃ pre, Jx pre W')) := by
  refine callsIn_of_wp Tryd.func58 rfl trivial ?_ rfl
  simp only [Tryd.ntmps58, List.size_toArray, List.length_cons, List.length_nil, Nat.reduceAdd, Nat.reduceSub, Array.replicate_succ, Array.replicate_zero, List.push_toArray, List.append_toArray, List.nil_append, List.cons_append]
  have c0 : W.cell? ⟨bn, 0, none⟩ = some (.int .i64 64) := cell_of_row W bn 0 _ 3 (0, 0) hn'
  gi_wp2
  gi_loopw [4] (fun i wr => ∃ k : Nat, 64 * k < l.length + 64 ∧ i = .int .i64 k ∧ (∃ pre, pre.length = k ∧ J pre wr) ∧
      (∃ Ak ck, wr.heap[bb]? = some (.cells #[.slice Ak (l.drop (64 * k)).length ck] 28 (0, 0)) ∧ (l.drop (64 * k)).length ≤ ck ∧ At5 ga ca Ak (bvs (l.drop (64 * k)))) ∧
      wr.heap[bn]? = some (.cells #[.int .i64 64] 3 (0, 0)) ∧ (l ≠ [] → wr.heap[ga]? = some (.cells ca 5 (0, 0))) ∧ W.heap.size ≤ wr.heap.size)
    (fun i _ => l.length + 64 - 64 * (intOf i).toNat)
  case atStart => exact ⟨0, by omega, rfl, ⟨[], rfl, h0⟩, ⟨A, c, hb', hc, hat⟩, hn', hg', Nat.le_refl _⟩
  case round =>
    obtain ⟨k, hk, rfl, ⟨pre, hpre, hJs⟩, ⟨Ak, ck, hbk, hck, hatk⟩, hnk, hgk, hzk⟩ := hrel
    have hdl : (l.drop (64 * k)).length = l.length - 64 * k := by simp
    have hpc : piece l k = (l.drop (64 * k)).take 64 := rfl
    have hnext : l.drop (64 * (k + 1)) = (l.drop (64 * k)).drop 64 := by rw [List.drop_drop]; congr 1
    have cb : wr.cell? ⟨bb, 0, none⟩ = some (.slice Ak (l.drop (64 * k)).length ck) := cell_of_row wr bb 0 _ 28 (0, 0) hbk
    have fb : wr.frozen? ⟨bb, 0, none⟩ = false := frozen_of_row wr bb 0 _ 28 hbk
    have cn : wr.cell? ⟨bn, 0, none⟩ = some (.int .i64 64) := cell_of_row wr bn 0 _ 3 (0, 0) hnk
    by_cases hlt : 64 * k < l.length
    · have hlne : l ≠ [] := by intro e; subst e; simp at hlt
      have hgw := hgk hlne
      have hYk := hY pre
      generalize hr : l.drop (64 * k) = r at hbk hck hatk cb hdl hpc hnext
      have hr0 : 0 < r.length := by omega
      obtain ⟨m, hm⟩ : ∃ m, (r.take 64).length = m := ⟨_, rfl⟩
      have hm' : m = min 64 r.length := by rw [← hm]; simp
      have hmin : (if (r.length : Int) < 64 then (r.length : Int) else 64) = (m : Int) := by
        rw [hm']
        split <;> omega
      have hrd : Rd wr Ak (bvs (r.take 64)) := by
        have := (hatk.rd hgw).take 64
        rwa [show (bvs r).take 64 = bvs (r.take 64) by simp [bvs]] at this
      have hcl := clone_o (r.take 64) Ak ck wr hrd (by omega)
      rw [hm] at hcl
      have hmc : (m : Int) ≤ (ck : Int) := by omega
      have HM := Lib.hid hm
      have HR := Lib.hid hr
      have HP := Lib.hid hpc
      have HN := Lib.hid hnext
      have hri : (0 : Int) < (r.length : Int) := by omega
      have HM2 := Lib.hid hm'
      have HD := Lib.hid hdl
      have hrl : r.length ≤ 100000000 := by omega
      clear hm hr hpc hnext hm' hrd hdl
      gi_wp2_with (refine ⟨trivial, ?_⟩; gi_at_call 46; refine (callsIn_wide.2 hcl).mono ?_; refine Stop.out ?_)
      refine Stop.mk ?_
      first | rintro e w2 B2 d2 rfl hd2 ho2 hb2 hnn | rintro e w2 ⟨B2, d2, rfl, hd2, ho2, hb2, hnn⟩
      clear hcl hmin
      have hJ2 : J pre w2 := hJ pre wr w2 none hJs (grown_of_below hb2) (by simp)
      have hpp : piece l pre.length = r.take 64 := by rw [hpre]; exact HP.out
      have hbb : bb < wr.heap.size := (Array.getElem?_eq_some_iff.1 hbk).1
      obtain ⟨fn, tmps, asg, bdy, hy, hR⟩ := hYk ((k : Int), Value.slice B2 m d2) w2 hJ2 ⟨by rw [hpre]; exact hlt, B2, d2, by rw [hpp, HM.out], by rw [hpp, HM.out]; exact own_less ho2 (Nat.le_trans hn₀ hzk)⟩
      dsimp only at hy
      have hb2' := (hb2.block bb hbb).trans hbk
      have hn2 := (hb2.block bn (Array.getElem?_eq_some_iff.1 hnk).1).trans hnk
      have hg2 := (hb2.block ga (Array.getElem?_eq_some_iff.1 hgw).1).trans hgw
      gi_wp2
      refine hR.mono ?_
      rintro e W3 (⟨rfl, hJ3, hk3⟩ | ⟨rfl, hJx3⟩)
      · have hb3 := (hk3.2 bb (.inr (.inl rfl)) (Nat.lt_of_lt_of_le hbb hb2.size)).trans hb2'
        have hn3 := (hk3.2 bn (.inl rfl) (Array.getElem?_eq_some_iff.1 hn2).1).trans hn2
        have hg3 := (hk3.2 ga (.inr (.inr rfl)) (Array.getElem?_eq_some_iff.1 hg2).1).trans hg2
        have cb3 : W3.cell? ⟨bb, 0, none⟩ = some (.slice Ak r.length ck) := cell_of_row W3 bb 0 _ 28 (0, 0) hb3
        have fb3 : W3.frozen? ⟨bb, 0, none⟩ = false := frozen_of_row W3 bb 0 _ 28 hb3
        have hmr : (m : Int) ≤ (r.length : Int) := by have := HM2.out; omega
        clear hb2' hn2 hg2 cb fb cn hy
        have hdm : (r.drop 64).length = r.length - m := by have := HM2.out; simp; omega
        have HDM := Lib.hid hdm
        clear hdm
        have hpost : ∀ (A' : Option Addr) (c' : Nat), At5 ga ca A' (bvs (r.drop 64)) → r.length - m ≤ c' → ∃ k' : Nat, 64 * k' < l.length + 64 ∧ Value.int .i64 ((k : Int) + 1) = .int .i64 (k' : Int) ∧ (∃ pre', pre'.length = k' ∧ J pre' (W3.setCell ⟨bb, 0, none⟩ (.slice A' (r.length - m) c'))) ∧
            (∃ Ak ck, (W3.setCell ⟨bb, 0, none⟩ (.slice A' (r.length - m) c')).heap[bb]? = some (.cells #[.slice Ak (l.drop (64 * k')).length ck] 28 (0, 0)) ∧ (l.drop (64 * k')).length ≤ ck ∧ At5 ga ca Ak (bvs (l.drop (64 * k')))) ∧
            (W3.setCell ⟨bb, 0, none⟩ (.slice A' (r.length - m) c')).heap[bn]? = some (.cells #[.int .i64 64] 3 (0, 0)) ∧ (l ≠ [] → (W3.setCell ⟨bb, 0, none⟩ (.slice A' (r.length - m) c')).heap[ga]? = some (.cells ca 5 (0, 0))) ∧ W.heap.size ≤ (W3.setCell ⟨bb, 0, none⟩ (.slice A' (r.length - m) c')).heap.size := fun A' c' hA hc' => by
          refine ⟨k + 1, by omega, by go_num, ⟨pre ++ [((k : Int), Value.slice B2 m d2)], by simp [hpre], hJo _ _ _ hJ3 ⟨_, rfl⟩⟩, ⟨A', c', ?_, ?_, ?_⟩, ?_, fun _ => ?_, ?_⟩
          · have := heap_setCell_same W3 bb 0 _ 28 (.slice A' (r.length - m) c') hb3
            rw [HN.out, HDM.out]
            simpa using this
          · rw [HN.out, HDM.out]; exact hc'
          · rw [HN.out]; exact hA
          · exact (heap_setCell_other W3 _ _ _ (by simpa using hnb)).trans hn3
          · exact (heap_setCell_other W3 _ _ _ (by simpa using hgb)).trans hg3
          · have h1 := hb2.size
            have h2 := hk3.1
            simp; omega
        have HPO := Lib.hid hpost
        clear hpost hb3 hn3 hg3
        by_cases hce : ck = m
        · have hrm : r.length = m := by omega
          have hdr : r.drop 64 = [] := List.drop_of_length_le (by have := HM2.out; omega)
          have hpo := HPO.out Ak 0 (by rw [hdr]; exact At5.nil _ _ _) (by omega)
          rw [show r.length - m = 0 by omega] at hpo
          have HQ := Lib.hid hpo
          rw [hrm] at cb3
          subst hce
          clear hpo HPO hrm hdr
          gi_wp2
          go_roundw
          case rel => exact HQ.out
          case measure => simp [intOf]; omega
        · have hat3 : At5 ga ca (Option.map (fun x => x.add m) Ak) (bvs (r.drop 64)) := by
            by_cases h64 : m = 64
            · have := hatk.drop 64
              rw [h64]
              rwa [show (bvs r).drop 64 = bvs (r.drop 64) by simp [bvs]] at this
            · rw [List.drop_of_length_le (by have := HM2.out; omega)]
              exact At5.nil _ _ _
          have hpo := HPO.out _ (ck - m) hat3 (by omega)
          have HQ := Lib.hid hpo
          clear hpo HPO hat3
          gi_wp2
          go_roundw
          case rel => exact HQ.out
          case measure => simp [intOf]; omega
      · gi_wp2
        refine bodyPost_ret (results_none rfl _ _ _) rfl ?_
        exact ⟨⟨_, rfl⟩, .inr ⟨_, hJx3⟩⟩
    · have hdl0 : (l.drop (64 * k)).length = 0 := by omega
      rw [hdl0] at cb
      gi_wp2
      first | rw [Exit.noGoto_normal] | skip
      go_end0
      exact ⟨⟨_, rfl⟩, .inl ⟨pre, by rw [hpre]; omega, by rw [hpre]; exact hk, hJs⟩⟩

theorem chunks_told (n : Nat) (hn : 1 ≤ n) (bn bb ga n₀ : Nat) (l : List UInt8) (ca : Array Value) (A : Option Addr) (c : Nat) (hl : l.length ≤ 100000000) (hc : l.length ≤ c) (w : World)
    (hn' : w.heap[bn]? = some (.cells #[.int .i64 64] 3 (0, 0))) (hb' : w.heap[bb]? = some (.cells #[.slice A l.length c] 28 (0, 0))) (hg' : l ≠ [] → w.heap[ga]? = some (.cells ca 5 (0, 0))) (hat : At5 ga ca A (bvs l)) (hn₀ : n₀ ≤ w.heap.size) (hgb : ga ≠ bb) (hnb : bn ≠ bb) :
    SeqG Fence.wide n Tryd.prog 58 #[.pointer (some ⟨bn, 0, none⟩), .pointer (some ⟨bb, 0, none⟩)] (fun x : Int × Value => #[.int .i64 x.1, x.2]) (Kb (fun k => k = bn ∨ k = bb ∨ k = ga)) (OwB bb) (GC n₀ l) (fun ys => l.length ≤ 64 * ys.length ∧ 64 * ys.length < l.length + 64) w :=
  fun l' J Jx W hW hJ hJo hY h0 => by
    rw [show (#[Value.func (.yield l') #[] #[]] ++ #[Value.pointer (some ⟨bn, 0, none⟩), .pointer (some ⟨bb, 0, none⟩)] : Array Value) = #[.func (.yield l') #[] #[], .pointer (some ⟨bn, 0, none⟩), .pointer (some ⟨bb, 0, none⟩)] by simp]
    refine CallsIn.mono (chunks_in n hn l' bn bb ga n₀ l ca A c hl hc J Jx W hJ hJo hY ((hW.block bn (Array.getElem?_eq_some_iff.1 hn').1).trans hn') ((hW.block bb (Array.getElem?_eq_some_iff.1 hb').1).trans hb')
      (fun hne => (hW.block ga (Array.getElem?_eq_some_iff.1 (hg' hne)).1).trans (hg' hne)) hat (Nat.le_trans hn₀ hW.size) hgb hnb h0) (fun e w h => ⟨h.1, h.2.imp (fun ⟨ys, h1, h2, h3⟩ => ⟨ys, ⟨h1, h2⟩, h3⟩) id⟩)
theorem chunks_o (A : Option Addr) (n c : Nat) (w : World) :
    Calls Tryd.prog 52 #[.slice A n c, .int .i64 64] w (fun e w' => e = .returned (.func (.func 58) #[] #[.pointer (some ⟨w.heap.size + 1, 0, none⟩), .pointer (some ⟨w.heap.size, 0, none⟩)]) ∧ w' = (w.alloc (.cells #[.slice A n c] 28)).alloc (.cells #[.int .i64 64] 3)) := by
  go_enter Tryd.func52, Tryd.ntmps52
  go_wp2
  go_ret
  exact ⟨rfl, rfl⟩
/-- A block taken in. -/
theorem take_o (g : Nat) (n : Int) (h : List Int) (wt : Value) (p : List UInt8) (A : Option Addr) (c : Nat) (w : World) (hg : w.heap[g]? = some (.cells (hsCells 3 h wt n) 91 (0, 0))) (hh : h.length = 8)
    (hp : p.length = 64) (hr : Rd w A (bvs p)) (hc : 64 ≤ c) (hK : Kg w) :
    Calls Tryd.prog 54 #[.pointer (some ⟨g, 0, none⟩), .slice A 64 c] w (fun e w' => e = .returned (.tuple #[]) ∧ w'.heap[g]? = some (.cells (hsCells 3 (shaBlk h p) wt n) 91 (0, 0)) ∧ w.grownBy w' (some g)) := by
  have c0 : w.cell? ⟨g, 0, none⟩ = some (.int .i64 3) := cell_of_row w g 0 _ 91 (0, 0) hg
  go_enter Tryd.func54, Tryd.ntmps54
  go_wp2_with fail
  refine (sha256_o g 3 n h wt p A c w hg hh hp hr hc hK).mono ?_
  rintro e w1 ⟨rfl, h1, h2⟩
  go_wp2_with fail
  go_end0
  exact ⟨rfl, h1, h2⟩
end Go.Proofs.YtbjbjnbloddioaaDoor
