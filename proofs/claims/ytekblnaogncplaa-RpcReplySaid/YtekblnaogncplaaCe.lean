/- RpcReply. -/
import Derived.Test.YtekblnaogncplaaW
import Derived.Test.YtekblnaogncplaaO
import Derived.Test.YtekblnaogncplaaCa
import Derived.Test.YtekblnaogncplaaCb
import Derived.Test.YtekblnaogncplaaCc
set_option linter.unusedVariables false
set_option linter.unusedSimpArgs false
namespace Go.Proofs.Ytekblnaogncplaa
open Go.RowKit

def cutReply (x : ReplyD) : ReplyD := { x with data := x.data.take 300, list := x.list.take 1100, attrs := cutA 100 x.attrs }
theorem cutR_len (n : Nat) (L : List AttrD) : (cutA n L).length ≤ 14 ∧ ∀ a ∈ cutA n L, a.2.length ≤ n := by
  refine ⟨by simp [cutA]; omega, fun a ha => ?_⟩
  obtain ⟨b, hb, rfl⟩ := List.mem_map.1 ha
  simp
  omega
theorem cutReply_M (x : ReplyD) : ReplyM 100000 (cutReply x) :=
  ⟨by simp [cutReply]; omega, by simp [cutReply]; omega, Nat.le_trans (cutR_len _ _).1 (by omega), fun a ha => Nat.le_trans ((cutR_len _ _).2 a ha) (by omega)⟩
theorem encL_lenR (n : Nat) : ∀ L : List AttrD, (∀ a ∈ L, a.2.length ≤ n) → (encL L).length ≤ L.length * (n + 4)
  | [], _ => by simp [encL]
  | a :: L, h => by
    have h1 := encL_lenR n L (fun b hb => h b (List.mem_cons_of_mem _ hb))
    have h2 := h a List.mem_cons_self
    rw [encL_cons, List.length_cons, Nat.add_mul]
    simp [be_length]
    omega
theorem cutR_small (x : ReplyD) {f : List UInt8} (h : encReply (cutReply x) = some f) : f.length ≤ 100000 := by
  refine frameR_small h (by simp [cutReply]; omega) ?_
  cases ht : oattrs (some []) (cutReply x).attrs with
  | none => rfl
  | some t =>
    obtain ⟨h1, _, _⟩ := oattrs_list ht
    have hl := cutR_len 100 x.attrs
    have h2 := encL_lenR 100 _ hl.2
    have h3 : (cutA 100 x.attrs).length * (100 + 4) ≤ 14 * 104 := Nat.mul_le_mul hl.1 (Nat.le_refl _)
    have h4 : (cutReply x).attrs = cutA 100 x.attrs := rfl
    rw [h4] at h1
    show decide (t.length ≤ 5000) = true
    rw [h1]
    simp [be_length]
    omega

/-- The argument's block. -/
structure ArgAt (w wk : World) (cs : Array Value) : Prop where
  blk : wk.heap[w.heap.size]? = some (.cells cs 48 (0, 0))
  below : Below w.heap.size w wk
theorem ArgAt.lt {w wk : World} {cs : Array Value} (h : ArgAt w wk cs) : w.heap.size < wk.heap.size := (Array.getElem?_eq_some_iff.1 h.blk).1
theorem ArgAt.kept {w wk w' : World} {cs : Array Value} (h : ArgAt w wk cs) (hb : Below wk.heap.size wk w') : ArgAt w w' cs :=
  ⟨(hb.block _ h.lt).trans h.blk, h.below.trans (hb.mono h.below.size)⟩
theorem ArgAt.store {w wk : World} {cs : Array Value} (h : ArgAt w wk cs) (j : Nat) (v : Value) : ArgAt w (wk.setCell ⟨w.heap.size, j, none⟩ v) (cs.setIfInBounds j v) :=
  ⟨heap_setCell_same wk _ j cs 48 v h.blk, h.below.setCell (Nat.le_refl _) v⟩
theorem ArgAt.cell {w wk : World} {cs : Array Value} (h : ArgAt w wk cs) (j : Nat) : wk.cell? ⟨w.heap.size, j, none⟩ = cs[j]? := cell_of_row wk _ j _ 48 (0, 0) h.blk
theorem ArgAt.frozen {w wk : World} {cs : Array Value} (h : ArgAt w wk cs) (j : Nat) : wk.frozen? ⟨w.heap.size, j, none⟩ = false := frozen_of_row wk _ j _ 48 h.blk
theorem wpList_load_rowH {P : Program} {ops : Array Oper} {rest : List Oper} {o : Oper} {a : Act} {w : World} {Q : Exit → Act → World → Prop} (hw : Region.wanted o (yielded ops a.tmps) = true) (ty : TypeId) (x : Operand) (ho : o.op = .load ty x)
    (g : Nat) (hx : a.eval x = .pointer (some ⟨g, 0, none⟩)) (t : TypeId) (cs : Array Value) (fr : Nat × Nat) (d : TypeDesc) (hg : w.heap[g]? = some (.cells cs t fr))
    (hu : P.underlying ty = some d) (hd : (match d with | .struct _ | .array _ _ => true | _ => false) = true) (hi : (P.info? ty).map (·.size) = some cs.size)
    (h : wpList P ops Q rest (a.put o.dst (.agg cs)) w) : wpList P ops Q (o :: rest) a w := by
  rw [wpList, if_pos hw]
  exact .inl (wp_load_row ty x ho g hx t cs fr d hg hu hd hi h)

set_option maxRecDepth 100000 in
set_option maxHeartbeats 3200000 in
theorem rpcReply_o (x : ReplyD) (p : ReplyP) (w : World) (hx : ReplyU w w.heap.size x p) (hl : x.list.length ≤ 9223372036854775807 ∧ x.attrs.length ≤ 9223372036854775807) :
    Calls Try.prog 6 #[.agg (replyCells x p)] w (fun e w' => e = .returned (.bool true) ∧ Below w.heap.size w w') := by
  obtain ⟨pd, pdc, pl, plc, pt, ptc⟩ := p
  have A0 : ArgAt w (w.alloc (.cells (replyCells x ⟨pd, pdc, pl, plc, pt, ptc⟩) 48)) (replyCells x ⟨pd, pdc, pl, plc, pt, ptc⟩) := ⟨heap_alloc_new w _, below_alloc w _⟩
  have hcM := cutReply_M x
  have hcS : ∀ f, encReply (cutReply x) = some f → f.length ≤ 100000 := fun f => cutR_small x
  have hcE : cutReply x = ⟨x.rv, x.a, x.b, x.data.take 300, x.list.take 1100, cutA 100 x.attrs⟩ := rfl
  unfold replyCells at A0 ⊢
  dsimp only at A0 ⊢
  go_enter Try.func6, Try.ntmps6
  go_wp2_with fail
  refine (begun_o _).mono ?_
  rintro e w1 ⟨rfl, hb1⟩
  have A1 := A0.kept hb1
  clear A0 hb1
  have g3 : w1.cell? ⟨w.heap.size, 3, none⟩ = some (.slice pd x.data.length pdc) := A1.cell 3
  have e3 := A1.frozen 3
  have hsh := short_o x.data 300 (by omega) pd pdc w1 (hx.data.below A1.below).rd hx.dc
  have hld : (x.data.take 300).length ≤ pdc := Nat.le_trans (by simp; omega) hx.dc
  generalize hv1 : x.data.take 300 = v1 at hsh hld hcE
  have HV1 := Lib.hid hv1
  clear hv1
  go_wp2_with fail
  refine hsh.mono ?_
  clear hsh
  rintro e w2 ⟨rfl, rfl⟩
  have A2 := A1.store 3 (.slice pd v1.length pdc)
  have g5 : w1.cell? ⟨w.heap.size, 5, none⟩ = some (.slice pt x.attrs.length ptc) := A1.cell 5
  go_wp2_with fail
  clear g3 e3 g5 A1
  generalize w1.setCell ⟨w.heap.size, 3, none⟩ (.slice pd v1.length pdc) = w2 at A2 ⊢
  refine (cutA_o 100 (by omega) x.attrs pt ptc w2 ((hx.attrs.below A2.below).more A2.below.size) hl.2).mono ?_
  rintro e w3 ⟨⟨At, ct, xt, rfl, hct, hot, hat⟩, hb3⟩
  have A3 := A2.kept hb3
  have hz2 := A2.lt
  generalize hv2 : cutA 100 x.attrs = v2 at hct hot hat hcE ⊢
  have HV2 := Lib.hid hv2
  clear hv2 hb3 A2
  have g5 : w3.cell? ⟨w.heap.size, 5, none⟩ = some (.slice pt x.attrs.length ptc) := A3.cell 5
  have e5 := A3.frozen 5
  have A4 := A3.store 5 (.slice At v2.length ct)
  have ot4 := own_up hot hz2 (Up.store w3 (Nat.le_refl w.heap.size) 5 (.slice At v2.length ct))
  have at4 := hat.up hz2 (Up.store w3 (Nat.le_refl w.heap.size) 5 (.slice At v2.length ct))
  clear hot hat
  have g4 : w3.cell? ⟨w.heap.size, 4, none⟩ = some (.slice pl x.list.length plc) := A3.cell 4
  have e4 := A3.frozen 4
  clear A3
  have hlc : x.list.length ≤ plc := hx.lc
  by_cases hbig : 1100 < x.list.length
  · have hbig' : (1100 : Int) < (x.list.length : Int) := by omega
    obtain ⟨gl, ol, hpl⟩ := hx.list.rd.some_ (by simp [ints]; omega)
    subst hpl
    have hcl : (1100 : Int) ≤ (plc : Int) := by omega
    have A5 := A4.store 4 (.slice (some ⟨gl, ol, none⟩) 1100 plc)
    have ot5 := own_up ot4 hz2 (Up.store (w3.setCell ⟨w.heap.size, 5, none⟩ (.slice At v2.length ct)) (Nat.le_refl w.heap.size) 4 (.slice (some ⟨gl, ol, none⟩) 1100 plc))
    have at5 := at4.up hz2 (Up.store (w3.setCell ⟨w.heap.size, 5, none⟩ (.slice At v2.length ct)) (Nat.le_refl w.heap.size) 4 (.slice (some ⟨gl, ol, none⟩) 1100 plc))
    have hll : (x.list.take 1100).length = 1100 := by simp; omega
    have hy : ∃ q, ((w3.setCell ⟨w.heap.size, 5, none⟩ (.slice At v2.length ct)).setCell ⟨w.heap.size, 4, none⟩ (.slice (some ⟨gl, ol, none⟩) 1100 plc)).heap[w.heap.size]? = some (.cells (replyCells (cutReply x) q) 48 (0, 0)) ∧ ReplyU ((w3.setCell ⟨w.heap.size, 5, none⟩ (.slice At v2.length ct)).setCell ⟨w.heap.size, 4, none⟩ (.slice (some ⟨gl, ol, none⟩) 1100 plc)) ((w3.setCell ⟨w.heap.size, 5, none⟩ (.slice At v2.length ct)).setCell ⟨w.heap.size, 4, none⟩ (.slice (some ⟨gl, ol, none⟩) 1100 plc)).heap.size (cutReply x) q := by
      refine ⟨⟨pd, pdc, some ⟨gl, ol, none⟩, plc, At, ct⟩, ?_, ?_⟩
      · rw [hcE]
        unfold replyCells
        dsimp only
        rw [hll]
        exact A5.blk
      · have r1 := ((hx.data.take 300).below A5.below).more A5.below.size
        have r2 := ((hx.list.take 1100).below A5.below).more A5.below.size
        have t1 : (bvs x.data).take 300 = bvs v1 := by rw [← HV1.out]; simp [bvs]
        have t2 : (ints x.list).take 1100 = ints (x.list.take 1100) := by simp [ints]
        rw [t1] at r1
        rw [t2] at r2
        rw [hcE]
        exact ⟨r1, hld, r2, by dsimp only; omega, at5.atU ot5, hct⟩
    obtain ⟨q, hk, hU⟩ := hy
    have hbw := A5.below
    clear A4 A5 ot4 at4 ot5 at5 HV1 HV2 hcE hld hct
    go_wp2_with (with_reducible refine Stop.load 48 ?_)
    refine Stop.mk ?_
    clear g4 e4 g5 e5
    generalize (w3.setCell ⟨w.heap.size, 5, none⟩ (.slice At v2.length ct)).setCell ⟨w.heap.size, 4, none⟩ (.slice (some ⟨gl, ol, none⟩) 1100 plc) = wc at hk hU hbw ⊢
    generalize cutReply x = y at hcM hcS hk hU
    have hz : w.heap.size < wc.heap.size := (Array.getElem?_eq_some_iff.1 hk).1
    refine wpList_load_row rfl 48 _ rfl w.heap.size rfl 48 _ _ _ hk Try.underlying48 rfl size48 ?_
    go_wp2_with fail
    refine (reply_o y q 100000 wc hU hcM (Nat.le_refl _)).mono ?_
    intro e w5 hG
    obtain ⟨A, c, rfl, hc, ho, hb5⟩ := hG
    have hk5 := (hb5.block w.heap.size hz).trans hk
    have hU5 := (hU.below hb5).more_ hb5.size
    have hz5 := Nat.lt_of_lt_of_le hz hb5.size
    have hrb : ∀ f, encReply y = some f → (readReply (f.drop 4) = (y, true) ∧ 4 < f.length ∧ f.length ≤ 262148) ∧ f.length ≤ 100000 := fun f hf => ⟨readR_back hf, hcS f hf⟩
    have hes := encReply_same y
    generalize encReply y = r at hc ho hrb hes ⊢
    have HES := Lib.hid hes
    have HRB := Lib.hid hrb
    clear hes hrb hcS
    have hbw5 := hbw.trans (hb5.mono hbw.size)
    clear hk hU hb5
    go_wp2_with (with_reducible refine Stop.load 48 ?_)
    refine Stop.mk ?_
    refine wpList_load_row rfl 48 _ rfl w.heap.size rfl 48 _ _ _ hk5 Try.underlying48 rfl size48 ?_
    go_wp2_with fail
    refine (refReply_o y q w5 hU5 hcM).mono ?_
    intro e w6 hG
    rw [← HES.out] at hG
    obtain ⟨A2, c2, rfl, hc2, ho2, hb6⟩ := hG
    have hk6 := (hb6.block w.heap.size hz5).trans hk5
    have hU6 := (hU5.below hb6).more_ hb6.size
    have hz6 := Nat.lt_of_lt_of_le hz5 hb6.size
    have hbw6 := hbw5.trans (hb6.mono hbw5.size)
    have hR1 := (Rd.own ho).below hb6
    have hR2 := Rd.own ho2
    have s1 := run_str (P := Try.prog) w6 hR1 22 9 5 Try.underlying22 Try.underlying5 Try.underlying9 (r.getD []).length c rfl
    have s2 := run_str (P := Try.prog) w6 hR2 22 9 5 Try.underlying22 Try.underlying5 Try.underlying9 (r.getD []).length c2 rfl
    unfold str at s1 s2
    clear HES hk5 hU5 ho ho2 hb6
    cases r with
    | none =>
      simp only [Option.getD_none, List.length_nil] at s1 s2
      clear HRB
      go_wp2_with fail
      go_ret
      exact ⟨rfl, hbw6⟩
    | some f =>
      obtain ⟨⟨hrd, hgt, hfl⟩, hfs⟩ := HRB.out f rfl
      simp only [Option.getD_some] at hc hc2 hR1 hR2 s1 s2
      have hR3 := hR1.dropS 4 (by decide)
      rw [show (bvs f).drop 4 = bvs (f.drop 4) by simp [bvs]] at hR3
      obtain ⟨g, o, rfl⟩ : ∃ g o, A = some ⟨g, o, none⟩ := hR1.some_ (by simp [bvs_length]; omega)
      have hR3 : Rd w6 (some ⟨g, o + 4, none⟩) (bvs (f.drop 4)) := hR3
      have hi1 : (4 : Int) ≤ (f.length : Int) := by omega
      have hi2 : ¬ (c = 4) := by omega
      have hcall := readReply_o (f.drop 4) (some ⟨g, o + 4, none⟩) (c - 4) w6 hR3 (by simp; omega) (by simp; omega)
      rw [hrd] at hcall
      have hdl : (f.drop 4).length = f.length - 4 := by simp
      rw [hdl] at hcall
      clear HRB hrd hR1 hR2 hR3
      go_wp2_with fail
      refine hcall.mono ?_
      clear hcall
      rintro e w7 ⟨q7, rfl, hU7, hb7⟩
      have hk7 := (hb7.block w.heap.size hz6).trans hk6
      have hU6' := (hU6.below hb7).more_ hb7.size
      have hz7 := Nat.lt_of_lt_of_le hz6 hb7.size
      have hbw7 := hbw6.trans (hb7.mono hbw6.size)
      clear s1 s2 hk6 hU6 hb7
      go_wp2_with (with_reducible refine Stop.store 48 ?_)
      refine Stop.mk ?_
      refine wpList_new48 rfl _ _ rfl w7 w7.heap.size rfl y q7 rfl rfl rfl ?_
      obtain ⟨w8, hw8⟩ : ∃ w8, w8 = w7.alloc (.cells (replyCells y q7) 48) := ⟨_, rfl⟩
      have hb8 : Below w7.heap.size w7 w8 := by rw [hw8]; exact below_alloc w7 _
      have hk8' : w8.heap[w7.heap.size]? = some (.cells (replyCells y q7) 48 (0, 0)) := by rw [hw8]; exact heap_alloc_new w7 _
      have hk8 := (hb8.block w.heap.size hz7).trans hk7
      have hUa := (hU7.below hb8).more_ hb8.size
      have hUb := (hU6'.below hb8).more_ hb8.size
      have hbw8 := hbw7.trans (hb8.mono hbw7.size)
      rw [← hw8]
      clear hw8 hU7 hU6' hk7 hb8
      go_wp2_with (with_reducible refine Stop.load 48 ?_)
      refine Stop.mk ?_
      refine wpList_load_rowH rfl 48 _ rfl w7.heap.size rfl 48 _ _ _ hk8' Try.underlying48 rfl size48 ?_
      go_wp2_with (with_reducible refine Stop.load 48 ?_)
      refine Stop.mk ?_
      refine wpList_load_rowH rfl 48 _ rfl w.heap.size rfl 48 _ _ _ hk8 Try.underlying48 rfl size48 ?_
      go_wp2_with fail
      refine (replyEq_o y q7 q w8 hUa hUb ⟨Nat.le_trans hcM.attrs (by omega), Nat.le_trans hcM.list (by omega)⟩).mono ?_
      rintro e w9 ⟨rfl, hb9⟩
      go_wp2_with fail
      go_ret
      exact ⟨rfl, hbw8.trans (hb9.mono hbw8.size)⟩
  · have hbig' : (x.list.length : Int) ≤ (1100 : Int) := by omega
    have hll : x.list.take 1100 = x.list := List.take_of_length_le (by omega)
    have hy : ∃ q, (w3.setCell ⟨w.heap.size, 5, none⟩ (.slice At v2.length ct)).heap[w.heap.size]? = some (.cells (replyCells (cutReply x) q) 48 (0, 0)) ∧ ReplyU (w3.setCell ⟨w.heap.size, 5, none⟩ (.slice At v2.length ct)) (w3.setCell ⟨w.heap.size, 5, none⟩ (.slice At v2.length ct)).heap.size (cutReply x) q := by
      refine ⟨⟨pd, pdc, pl, plc, At, ct⟩, ?_, ?_⟩
      · rw [hcE, hll]
        exact A4.blk
      · have r1 := ((hx.data.take 300).below A4.below).more A4.below.size
        have r2 := (hx.list.below A4.below).more A4.below.size
        have t1 : (bvs x.data).take 300 = bvs v1 := by rw [← HV1.out]; simp [bvs]
        rw [t1] at r1
        rw [hcE, hll]
        exact ⟨r1, hld, r2, hlc, at4.atU ot4, hct⟩
    obtain ⟨q, hk, hU⟩ := hy
    have hbw := A4.below
    clear A4 ot4 at4 HV1 HV2 hcE hld hct hll
    go_wp2_with (with_reducible refine Stop.load 48 ?_)
    refine Stop.mk ?_
    clear g4 e4 g5 e5
    generalize w3.setCell ⟨w.heap.size, 5, none⟩ (.slice At v2.length ct) = wc at hk hU hbw ⊢
    generalize cutReply x = y at hcM hcS hk hU
    have hz : w.heap.size < wc.heap.size := (Array.getElem?_eq_some_iff.1 hk).1
    refine wpList_load_row rfl 48 _ rfl w.heap.size rfl 48 _ _ _ hk Try.underlying48 rfl size48 ?_
    go_wp2_with fail
    refine (reply_o y q 100000 wc hU hcM (Nat.le_refl _)).mono ?_
    intro e w5 hG
    obtain ⟨A, c, rfl, hc, ho, hb5⟩ := hG
    have hk5 := (hb5.block w.heap.size hz).trans hk
    have hU5 := (hU.below hb5).more_ hb5.size
    have hz5 := Nat.lt_of_lt_of_le hz hb5.size
    have hrb : ∀ f, encReply y = some f → (readReply (f.drop 4) = (y, true) ∧ 4 < f.length ∧ f.length ≤ 262148) ∧ f.length ≤ 100000 := fun f hf => ⟨readR_back hf, hcS f hf⟩
    have hes := encReply_same y
    generalize encReply y = r at hc ho hrb hes ⊢
    have HES := Lib.hid hes
    have HRB := Lib.hid hrb
    clear hes hrb hcS
    have hbw5 := hbw.trans (hb5.mono hbw.size)
    clear hk hU hb5
    go_wp2_with (with_reducible refine Stop.load 48 ?_)
    refine Stop.mk ?_
    refine wpList_load_row rfl 48 _ rfl w.heap.size rfl 48 _ _ _ hk5 Try.underlying48 rfl size48 ?_
    go_wp2_with fail
    refine (refReply_o y q w5 hU5 hcM).mono ?_
    intro e w6 hG
    rw [← HES.out] at hG
    obtain ⟨A2, c2, rfl, hc2, ho2, hb6⟩ := hG
    have hk6 := (hb6.block w.heap.size hz5).trans hk5
    have hU6 := (hU5.below hb6).more_ hb6.size
    have hz6 := Nat.lt_of_lt_of_le hz5 hb6.size
    have hbw6 := hbw5.trans (hb6.mono hbw5.size)
    have hR1 := (Rd.own ho).below hb6
    have hR2 := Rd.own ho2
    have s1 := run_str (P := Try.prog) w6 hR1 22 9 5 Try.underlying22 Try.underlying5 Try.underlying9 (r.getD []).length c rfl
    have s2 := run_str (P := Try.prog) w6 hR2 22 9 5 Try.underlying22 Try.underlying5 Try.underlying9 (r.getD []).length c2 rfl
    unfold str at s1 s2
    clear HES hk5 hU5 ho ho2 hb6
    cases r with
    | none =>
      simp only [Option.getD_none, List.length_nil] at s1 s2
      clear HRB
      go_wp2_with fail
      go_ret
      exact ⟨rfl, hbw6⟩
    | some f =>
      obtain ⟨⟨hrd, hgt, hfl⟩, hfs⟩ := HRB.out f rfl
      simp only [Option.getD_some] at hc hc2 hR1 hR2 s1 s2
      have hR3 := hR1.dropS 4 (by decide)
      rw [show (bvs f).drop 4 = bvs (f.drop 4) by simp [bvs]] at hR3
      obtain ⟨g, o, rfl⟩ : ∃ g o, A = some ⟨g, o, none⟩ := hR1.some_ (by simp [bvs_length]; omega)
      have hR3 : Rd w6 (some ⟨g, o + 4, none⟩) (bvs (f.drop 4)) := hR3
      have hi1 : (4 : Int) ≤ (f.length : Int) := by omega
      have hi2 : ¬ (c = 4) := by omega
      have hcall := readReply_o (f.drop 4) (some ⟨g, o + 4, none⟩) (c - 4) w6 hR3 (by simp; omega) (by simp; omega)
      rw [hrd] at hcall
      have hdl : (f.drop 4).length = f.length - 4 := by simp
      rw [hdl] at hcall
      clear HRB hrd hR1 hR2 hR3
      go_wp2_with fail
      refine hcall.mono ?_
      clear hcall
      rintro e w7 ⟨q7, rfl, hU7, hb7⟩
      have hk7 := (hb7.block w.heap.size hz6).trans hk6
      have hU6' := (hU6.below hb7).more_ hb7.size
      have hz7 := Nat.lt_of_lt_of_le hz6 hb7.size
      have hbw7 := hbw6.trans (hb7.mono hbw6.size)
      clear s1 s2 hk6 hU6 hb7
      go_wp2_with (with_reducible refine Stop.store 48 ?_)
      refine Stop.mk ?_
      refine wpList_new48 rfl _ _ rfl w7 w7.heap.size rfl y q7 rfl rfl rfl ?_
      obtain ⟨w8, hw8⟩ : ∃ w8, w8 = w7.alloc (.cells (replyCells y q7) 48) := ⟨_, rfl⟩
      have hb8 : Below w7.heap.size w7 w8 := by rw [hw8]; exact below_alloc w7 _
      have hk8' : w8.heap[w7.heap.size]? = some (.cells (replyCells y q7) 48 (0, 0)) := by rw [hw8]; exact heap_alloc_new w7 _
      have hk8 := (hb8.block w.heap.size hz7).trans hk7
      have hUa := (hU7.below hb8).more_ hb8.size
      have hUb := (hU6'.below hb8).more_ hb8.size
      have hbw8 := hbw7.trans (hb8.mono hbw7.size)
      rw [← hw8]
      clear hw8 hU7 hU6' hk7 hb8
      go_wp2_with (with_reducible refine Stop.load 48 ?_)
      refine Stop.mk ?_
      refine wpList_load_rowH rfl 48 _ rfl w7.heap.size rfl 48 _ _ _ hk8' Try.underlying48 rfl size48 ?_
      go_wp2_with (with_reducible refine Stop.load 48 ?_)
      refine Stop.mk ?_
      refine wpList_load_rowH rfl 48 _ rfl w.heap.size rfl 48 _ _ _ hk8 Try.underlying48 rfl size48 ?_
      go_wp2_with fail
      refine (replyEq_o y q7 q w8 hUa hUb ⟨Nat.le_trans hcM.attrs (by omega), Nat.le_trans hcM.list (by omega)⟩).mono ?_
      rintro e w9 ⟨rfl, hb9⟩
      go_wp2_with fail
      go_ret
      exact ⟨rfl, hbw8.trans (hb9.mono hbw8.size)⟩
end Go.Proofs.Ytekblnaogncplaa
