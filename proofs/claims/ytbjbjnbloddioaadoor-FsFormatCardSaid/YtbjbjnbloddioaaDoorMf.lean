/- FsWhole walked. -/
import Derived.Test.YtbjbjnbloddioaaDoorMe
import Derived.OwnWalk
import Derived.ArgAppend
set_option linter.unusedVariables false
set_option linter.unusedSimpArgs false
namespace Go.Proofs.YtbjbjnbloddioaaDoor
open Go.RowKit Go.Shelf

theorem own_prefix {w : World} {base n m c g : Nat} {e : TypeId} {k : Nat} {xs ys : List Value} (h : w.ownsRow base e k (.slice (some ⟨g, 0, none⟩) (n + m) c) (n + m) (xs ++ ys)) (hx : xs.length = n * k) : w.ownsRow base e k (.slice (some ⟨g, 0, none⟩) n c) n xs := by
  rcases h.2 with ⟨e, _⟩ | ⟨g', cap, cur, e, h1, h2, h3, h4, h5, h6⟩
  · cases e
  · injection e with e1 e2 e3
    injection e1 with e1
    injection e1 with e1
    subst e1 e3
    refine ⟨hx, .inr ⟨g, c, cur, rfl, h1, h2, by omega, h4, h5, ?_⟩⟩
    have h7 : (cur.toList.take ((n + m) * k)).take (n * k) = (xs ++ ys).take (n * k) := by rw [h6]
    rw [List.take_take, Nat.min_eq_left (Nat.mul_le_mul_right _ (by omega)), List.take_append_of_le_length (by omega), List.take_of_length_le (l := xs) (by omega)] at h7
    exact h7
/-- append to a row of one's own, which is kept as a row too. -/
theorem wpList_app_keep {P : Program} (w : World) {ops : Array Oper} {rest : List Oper} {o : Oper} {a : Act} {Q : Exit → Act → World → Prop} (hgd : o.guard = none) (s x : Operand) (t : TypeId)
    (ho : o.op = .call { callee := .builtin .append, args := #[s, x], argTypes := #[t, t] })
    (e : TypeId) (z : Value) (size bytes base : Nat) (ht : P.underlying t = some (.slice e)) (hinfo : (P.info? e).map (fun i => (i.zero, i.size, i.bytes)) = some (some z, size, bytes))
    (hzs : z.cells.size = size) (hsz : 0 < size)
    (g n c : Nat) (xs : List Value) (hs : a.eval s = .slice (some ⟨g, 0, none⟩) n c) (hown : w.ownsRow base e size (.slice (some ⟨g, 0, none⟩) n c) n xs) (ad : Addr) (m cc : Nat) (news : List Value) (hx : a.eval x = .slice (some ad) m cc) (hl : news.length = m * size) (hr : Rd w (some ad) news) (h1 : ∀ u ∈ news, u.oneCell' = true)
    (hb : (n + m) * bytes ≤ 140737488355328) (hm : n + m ≤ 140737488355328) (hm0 : 0 < n + m) (hbase : base ≤ w.heap.size)
    (h : ∀ A' c' w', w'.ownsRow base e size (.slice A' (n + m) c') (n + m) (xs ++ news) → w'.ownsRow base e size (.slice (some ⟨g, 0, none⟩) n c) n xs → w.grownBy w' (some g) → wpList P ops Q rest (a.put o.dst (.slice A' (n + m) c')) w') : wpList P ops Q (o :: rest) a w := by
  obtain ⟨i, hi, hzz⟩ := Option.map_eq_some_iff.1 hinfo
  simp only [Prod.mk.injEq] at hzz
  obtain ⟨hz0, hz1, hz2⟩ := hzz
  by_cases hroom : n + m ≤ c
  · exact wpList_append_fits w hgd s x t ho base e i size ht hi hz1 g n c xs hs hown ad m cc news hx hl (fun j u hu => hr.cell hu) h1 hroom fun w' h2 h3 => h _ _ w' h2 (own_prefix h2 hown.1) h3
  · refine wpList_append_grows w hgd s x t ho e i z size bytes ht hi hz0 hz1 hz2 hzs hsz (some ⟨g, 0, none⟩) n c xs hs (fun e => by cases e) hown.1 (fun b eb j u hu => ?_) ad m cc news hx hl (fun j u hu => hr.cell hu) h1 (by omega) (by simp only [maxLen]; omega) hb fun v' w' h2 h3 => ?_
    · injection eb with eb
      subst eb
      exact hown.cells (g := g) rfl j u hu
    · obtain ⟨g', cap, rfl, _⟩ := h2.form hm0
      exact h _ _ w' (own_less h2 hbase) (hown.kept h3 (.inr (by simp [Value.ownBlock]))) ⟨h3.os, h3.tape, h3.output, h3.size, fun k hk _ => h3.block k hk (by simp)⟩

theorem VAt.below {w w' : World} {v g gl : Nat} {V : VolD} (h : VAt w v g gl V) (hb : Below w.heap.size w w') : VAt w' v g gl V :=
  ⟨(hb.block v (Array.getElem?_eq_some_iff.1 h.vol).1).trans h.vol, h.disk.below hb, h.len, h.small⟩
theorem VAt.fr {S : Nat → Prop} {w w' : World} {v g gl : Nat} {V : VolD} (h : VAt w v g gl V) (hf : Fr S w w') (h5 : No5 S w) (hn : ∀ k, three v g gl k → ¬ S k) : VAt w' v g gl V :=
  ⟨hf.same h.vol (hn v (.inl rfl)), h.disk.fr hf h5 (hn g (.inr (.inl rfl))) (hn gl (.inr (.inr rfl))), h.len, h.small⟩
/-- All blocks' puts, the first k. -/
def wholeL (bb : List UInt8) (k : Nat) : List (Int × List UInt8) := (List.range k).map fun (i : Nat) => ((i : Int), fullB (UInt8.ofNat i :: bb) 256)
theorem wholeL_len (bb : List UInt8) (k : Nat) : (wholeL bb k).length = k := by simp [wholeL]
theorem wholeL_succ (bb : List UInt8) (k : Nat) : wholeL bb (k + 1) = wholeL bb k ++ [((k : Int), fullB (UInt8.ofNat k :: bb) 256)] := by simp [wholeL, List.range_succ]
theorem wholeL_may (bb : List UInt8) (k : Nat) : mayB (wholeL bb k) k = true := by
  unfold mayB
  rw [wholeL_len]
  simp [wholeL, putOK, fullB_len]
theorem wholeL_more (bb : List UInt8) (k : Nat) (p : Int × List UInt8) : mayB (wholeL bb k ++ [p]) k = false := by
  unfold mayB
  rw [List.length_append, wholeL_len]
  have : decide (k + [p].length ≤ k) = false := by simp
  rw [this]
  rfl

set_option maxRecDepth 100000 in
set_option maxHeartbeats 6400000 in
theorem fsWhole_o (s : Int) (hs1 : -9223372036854775808 ≤ s) (hs2 : s ≤ 9223372036854775807) (bb : List UInt8) (B : Option Addr) (cb : Nat) (w : World) (hB : Rd w B (bvs bb)) (hbl : bb.length ≤ 140737488351232) (hK : Kg w) :
    Calls Tryd.prog 4 #[.int .i64 s, .slice B bb.length cb] w (fun e w' => e = .returned (.bool true) ∧ Below w.heap.size w w') := by
  have hK0 := hK.pos
  obtain ⟨i5, hi, hz, hs, hby⟩ := info_parts info5
  have hszo := lsize_o s hs1 hs2
  have hsb := sizeN_bd s
  clear hs1 hs2
  go_enter Tryd.func4, Tryd.ntmps4
  go_wp2_with fail
  refine (begun_o w hK).mono ?_
  rintro e w0 ⟨rfl, hb0⟩
  have hK0' := hK.below hb0 hK0
  go_wp2_with fail
  refine (hszo w0).mono ?_
  rintro e _ ⟨rfl, rfl⟩
  clear hszo
  generalize sizeN s = N at *
  obtain ⟨h1, h2⟩ := hsb
  go_wp2_with fail
  refine (newd_o N (by omega) (by omega) w0).mono ?_
  rintro e w1 ⟨g, gl, rfl, hg, hgl, hD1, hb1⟩
  have hK1 := hK0'.below hb1 hK0'.pos
  have hp0 := hK0'.pos
  have h00 : ¬ two g gl 0 := by rintro (e | e) <;> omega
  go_wp2_with fail
  refine (format_o g gl _ w1 hD1 hK1 h00).mono ?_
  obtain ⟨f1, f2, f3, f4⟩ := fmt_free (new_zero N) (by rw [new_len]; omega) (rfl : (DiskD.new N).fuse = none)
  rw [new_len] at f2 f4
  rw [f1]
  generalize (DiskD.new N).format.2 = D2 at f2 f3 f4
  rintro e w2 ⟨rfl, hD2, hf2⟩
  have hb2 : Below w0.heap.size w0 w2 := hb1.trans (hf2.to (fun k hk => by rcases hk with rfl | rfl <;> assumption) hb1.size)
  have hK2 := hK0'.below hb2 hp0
  go_wp2_with fail
  refine (mount_o g gl D2 w2 hD2 hK2 f2.a.heads.1 f2.a.heads.2).mono ?_
  rintro e w3 ⟨hR, hb3⟩
  obtain ⟨v, rfl, hv, hvol⟩ := mountR_good f2 (free_dead f3) hR
  have hb3w : Below w0.heap.size w0 w3 := hb2.trans (hb3.mono hb2.size)
  have hD3 := hD2.below hb3
  clear hR
  have hvw : w0.heap.size ≤ v := Nat.le_trans hb2.size hv
  generalize hb : (N - 8) / 2 = b at f2 hvol
  have HB := Lib.hid hb
  have hbb : b ≤ 26 ∧ 4 ≤ b := by omega
  have hdiv : ((N : Int) - 8) / 2 = (b : Int) := by omega
  have HDV := Lib.hid hdiv
  have hVA := good_vat f2 hD3 hvol
  have hNi : (16 : Int) ≤ N ∧ (N : Int) ≤ 60 := by omega
  have HF := Lib.hid (And.intro f2 (And.intro f3 f4))
  have HV := Lib.hid hVA
  have HW := Lib.hid (And.intro hb0 hb3w)
  have hp3 : ¬ three v g gl 0 := by rintro (e | e | e) <;> omega
  have hlow : ∀ i, three v g gl i → w0.heap.size ≤ i := by rintro i (rfl | rfl | rfl) <;> assumption
  clear hb hdiv f2 f3 f4 hVA hb3w hf2 hD2 hD3 hD1 hvol hb1 hb2 hb3 hK1 hK2 f1 hb0
  obtain ⟨hN1, hN2⟩ := hNi
  go_wp2_with fail
  have hfr := fresh_o b (by omega) w3
  rw [← HDV.out] at hfr
  refine hfr.mono ?_
  rintro e w4 ⟨A4, c4, rfl, hc4, hm4, hb4⟩
  clear hfr
  go_wp2_with fail
  go_loopw [12, 13] (fun l i wr => ∃ (k : Nat) (A : Option Addr) (c : Nat) (xs : List Value), k ≤ b ∧ i = .int .i64 k ∧ l = .slice A k c ∧ wr.ownsRow w4.heap.size 30 2 (.slice A k c) k xs ∧ PutsXs wr xs (wholeL bb k) ∧ Below w4.heap.size w4 wr) (fun _ i _ => b - (intOf i).toNat)
  case atStart => exact ⟨0, none, 0, [], by omega, rfl, rfl, World.ownsRow_nil _ _ _ _, ⟨by simp [wholeL], fun j p hp => by simp [wholeL] at hp⟩, Below.refl _ _⟩
  case round =>
    obtain ⟨k, A, c, xs, hk, rfl, rfl, ho, hX, hbr⟩ := hrel
    by_cases hlt : k < b
    · have hb4w : Below w.heap.size w w4 := by
        obtain ⟨q1, q2⟩ := HW.out
        have q3 := q1.trans (q2.mono q1.size)
        exact q3.trans (hb4.mono q3.size)
      have hbw := hb4w.trans (hbr.mono hb4w.size)
      have hBr := hB.below hbw
      have hk256 : (k : Int) < 256 := by omega
      have HO := Lib.hid (And.intro ho (And.intro hX hbr))
      have HBR := Lib.hid (And.intro hBr hbw)
      clear ho hX hbr hBr hbw hb4w hm4 hb4
      go_wp2_with (at_builtin; refine Stop.out ?_)
      refine Stop.mk ?_
      obtain ⟨hBr, hbw⟩ := HBR.out
      have hb5 := below_alloc wr (.cells #[.int .u8 (k : Int)] 5)
      have hk5 := heap_alloc_new wr (.cells #[.int .u8 (k : Int)] 5)
      refine wpList_app _ rfl (.tmp 55) (.tmp 56) 28 rfl 5 (.int .u8 0) 1 1 wr.heap.size Tryd.underlying28 info5 rfl (by omega) (.slice (some ⟨wr.heap.size, 0, none⟩) 1 1) 1 [.int .u8 (k : Int)] rfl (own_row (Nat.le_refl _) hk5 (Nat.le_refl _) (by simp [maxLen]) rfl rfl) B bb.length cb (bvs bb) rfl (by simp [bvs_length]) (hBr.below hb5) (bvs_one _) (by omega) (by omega) (by simp) ?_
      intro A5 c5 w5 ho5 hg5 _
      have e5 : [Value.int .u8 (k : Int)] ++ bvs bb = bvs (UInt8.ofNat k :: bb) := by
        have : (k : Int) = ((k % 256 : Nat) : Int) := by omega
        simp [bvs, bv]
        omega
      rw [e5] at ho5
      have hb5r : Below wr.heap.size wr w5 := hb5.grown hg5 hb5.size (fun j e => by simp [Value.ownBlock] at e; omega)
      have el : (UInt8.ofNat k :: bb).length = 1 + bb.length := by simp; omega
      have hfull := full_o (UInt8.ofNat k :: bb) 256 (by omega) A5 c5 w5 (Rd.own ho5) (by rw [el]; omega)
      rw [el] at hfull
      have hfl := fullB_len (UInt8.ofNat k :: bb) 256
      have hsucc := wholeL_succ bb k
      generalize fullB (UInt8.ofNat k :: bb) 256 = x at hfull hfl hsucc
      have HR := Lib.hid (And.intro hb5r (And.intro hfl hsucc))
      clear ho5 hg5 hb5 hk5 e5 hb5r el hfl hsucc hBr hbw
      go_wp2_with fail
      refine hfull.mono ?_
      rintro e w6 ⟨gf, rfl, hgf, hrow, hb6⟩
      clear hfull
      obtain ⟨hb5r, hfl, hsucc⟩ := HR.out
      have hb6r := hb5r.trans (hb6.mono hb5r.size)
      have hr6 : Rd5 w6 (some ⟨gf, 0, none⟩) x := Rd5.blk hrow
      obtain ⟨ho, hX, hbr⟩ := HO.out
      have hX6 := (hX.below hb6r).snoc (i := (k : Int)) (c2 := 256) (by omega) hr6
      rw [hfl, ← hsucc] at hX6
      have hb7 := below_alloc w6 (.cells #[.int .i64 (k : Int), .slice (some ⟨gf, 0, none⟩) 256 256] 30)
      have ho7 := own_below (own_below ho hb6r) hb7
      have hbw6 := hbr.trans (hb6r.mono hbr.size)
      have hbw7 := hbw6.trans (hb7.mono hbw6.size)
      have HZ := Lib.hid (And.intro (hX6.below hb7) (And.intro ho7 hbw7))
      clear hb5r hfl hsucc hb6r hr6 ho hX hbr hX6 hb7 ho7 hbw6 hbw7 hrow hb6
      go_wp2_with (at_builtin; refine Stop.out ?_)
      refine Stop.mk ?_
      obtain ⟨z1, z2, z3⟩ := HZ.out
      refine wpList_app _ rfl (.tmp 51) (.tmp 60) 40 rfl 30 (.agg #[.int .i64 0, .slice none 0 0]) 2 32 w4.heap.size Tryd.underlying40 info30 rfl (by omega) (.slice A k c) k xs rfl z2 (some ⟨w6.heap.size, 0, none⟩) 1 1 [.int .i64 (k : Int), .slice (some ⟨gf, 0, none⟩) 256 256] rfl rfl (Rd.lit _ _ _) (by simp [Value.oneCell']) (by omega) (by omega) z3.size ?_
      intro A8 c8 w8 ho8 hg8 _
      have hb8 : Below w4.heap.size w4 w8 := z3.grown hg8 z3.size (fun j e => (z2.lt j e).1)
      have hX8 := z1.fr (Fr.grown hg8 (S := fun j => some j = (Value.slice A k c).ownBlock) (fun j e => e.symm)) (own_no5 z2 (by decide))
      have HY := Lib.hid (And.intro ho8 (And.intro hX8 hb8))
      clear z1 z2 z3 ho8 hg8 hb8 hX8
      go_wp2_with fail
      go_roundw
      case rel =>
        obtain ⟨y1, y2, y3⟩ := HY.out
        exact ⟨k + 1, A8, c8, _, by omega, by go_num, rfl, y1, y2, y3⟩
      case measure => simp [intOf]; omega
    · obtain rfl : k = b := by omega
      obtain ⟨gL, cL, eL, _⟩ := ho.form (by omega)
      injection eL with eL _ eL2
      subst eL eL2
      have hb4r := hb4.trans (hbr.mono hb4.size)
      have hVr := HV.out.below hb4r
      have hmr := hm4.below hbr
      have hbw : Below w.heap.size w wr := by
        obtain ⟨q1, q2⟩ := HW.out
        have q3 := q1.trans (q2.mono q1.size)
        exact q3.trans (hb4r.mono q3.size)
      have hw0 : Below w0.heap.size w0 wr := HW.out.2.trans (hb4r.mono HW.out.2.size)
      have hw04 : w0.heap.size ≤ w4.heap.size := Nat.le_trans HW.out.2.size hb4.size
      clear hm4 hb4 hb4r hbr
      have HO := Lib.hid (And.intro ho (And.intro hX (And.intro hVr (And.intro hmr (And.intro hbw hw0)))))
      have hww : w.heap.size ≤ w0.heap.size := HW.out.1.size
      clear ho hX hVr hmr hbw hw0 HV HW
      go_wp2_with (at_make; refine Stop.out ?_)
      refine Stop.mk ?_
      refine wpList_make_row wr rfl _ _ 28 rfl 5 i5 (.int .u8 0) Tryd.underlying28 hi hz hs rfl .i64 .i64 256 rfl rfl (by rw [hby]; omega) (by omega) ?_
      have hb5 := below_alloc wr (.cells (madeCells #[.int .u8 0] 256) 5)
      have hk5 : (wr.alloc (.cells (madeCells #[.int .u8 0] 256) 5)).heap[wr.heap.size]? = some (.cells (bvs (zs 256)).toArray 5 (0, 0)) :=
        (heap_alloc_new wr (.cells (madeCells #[.int .u8 0] 256) 5)).trans (congrArg (fun x => some (Obj.cells x 5 (0, 0))) (made_zs 256))
      generalize wr.alloc (.cells (madeCells #[.int .u8 0] 256) 5) = w5 at hb5 hk5 ⊢
      have hb6 := below_alloc w5 (.cells #[.int .i64 0, .slice (some ⟨wr.heap.size, 0, none⟩) 256 256] 30)
      have H5 := Lib.hid (And.intro hb5 (And.intro hk5 hb6))
      clear hb5 hk5 hb6
      go_wp2_with (at_builtin; refine Stop.out ?_)
      refine Stop.mk ?_
      obtain ⟨hb5, hk5, hb6⟩ := H5.out
      obtain ⟨ho, hX, hVr, hmr, hbw, hw0⟩ := HO.out
      have hb6r := hb5.trans (hb6.mono hb5.size)
      have ho6 := own_below ho hb6r
      have hX6 := hX.below hb6r
      have hbase6 : w4.heap.size ≤ (w5.alloc (.cells #[.int .i64 0, .slice (some ⟨wr.heap.size, 0, none⟩) 256 256] 30)).heap.size := Nat.le_trans (by have := (ho.lt gL rfl).1; have := (ho.lt gL rfl).2; omega) hb6r.size
      refine wpList_app_keep _ rfl (.tmp 63) (.tmp 66) 40 rfl 30 (.agg #[.int .i64 0, .slice none 0 0]) 2 32 w4.heap.size Tryd.underlying40 info30 rfl (by omega) gL k c xs rfl ho6 ⟨w5.heap.size, 0, none⟩ 1 1 [.int .i64 0, .slice (some ⟨wr.heap.size, 0, none⟩) 256 256] rfl rfl (Rd.lit _ _ _) (by simp [Value.oneCell']) (by omega) (by omega) (by omega) hbase6 ?_
      intro A7 c7 w7 ho7 hok7 hg7
      have hf67 : Fr (fun j => j = gL) (w5.alloc (.cells #[.int .i64 0, .slice (some ⟨wr.heap.size, 0, none⟩) 256 256] 30)) w7 := Fr.grown hg7 (fun j e => by injection e with e; exact e.symm)
      have hn5 : No5 (fun j => j = gL) (w5.alloc (.cells #[.int .i64 0, .slice (some ⟨wr.heap.size, 0, none⟩) 256 256] 30)) := fun j hj => own_no5 ho6 (by decide) j (by rw [hj]; rfl)
      have hX7 : PutsXs w7 xs (wholeL bb k) := hX6.fr hf67 hn5
      have hzr : Rd5 w7 (some ⟨wr.heap.size, 0, none⟩) (zs 256) := ((Rd5.blk hk5).below hb6).fr hf67 hn5
      have hX7' := (hX6.below (Below.refl _ _)).fr hf67 hn5 |>.snoc (i := 0) (c2 := 256) (by rw [zs_length]; omega) hzr
      rw [zs_length] at hX7'
      have hP7 := hX7.at_ (c := c) (by rw [wholeL_len]; exact hok7)
      have hP7' := hX7'.at_ (c := c7) (by rw [List.length_append, wholeL_len]; exact ho7)
      have hgL : w0.heap.size ≤ gL := by
        have := (ho.lt gL rfl).1
        omega
      have hcell6 : ∃ cu, (w5.alloc (.cells #[.int .i64 0, .slice (some ⟨wr.heap.size, 0, none⟩) 256 256] 30)).heap[gL]? = some (.cells cu 30 (0, 0)) := by
        rcases ho6.2 with ⟨e, _⟩ | ⟨g', cap, cur, e, _, q, _⟩
        · cases e
        · injection e with e; injection e with e; injection e with e; subst e; exact ⟨cur, q⟩
      obtain ⟨cu6, hcell6⟩ := hcell6
      have hV6 := hVr.below hb6r
      have hap : ∀ i, three v g gl i → ¬ i = gL := fun i hi e => three_no (t := 30) (by decide) (by decide) (by decide) hV6 i hi cu6 (by rw [e]; exact hcell6)
      have hV7 := hV6.fr hf67 hn5 hap
      have hm7 := (hmr.below hb6r).fr hf67 hn5 (fun j hj cs e => by subst hj; rw [hcell6] at e; injection e with e; injection e with _ e _; exact absurd e (by decide))
      have hb7r : Below w0.heap.size w0 w7 := (hw0.trans (hb6r.mono hw0.size)).trans (hf67.to (fun j hj => by rw [hj]; exact hgL) (hw0.trans (hb6r.mono hw0.size)).size)
      have hbw7 : Below w.heap.size w w7 := (hbw.trans (hb6r.mono hbw.size)).trans (hf67.to (fun j hj => by rw [hj]; exact Nat.le_trans hww hgL) (hbw.trans (hb6r.mono hbw.size)).size)
      have hlen1 : (wholeL bb k ++ [((0 : Int), zs 256)]).length = k + 1 := by rw [List.length_append, wholeL_len]; rfl
      have hcm := commit_any v g gl ⟨D2, k, 0, false⟩ A7 c7 (wholeL bb k ++ [((0 : Int), zs 256)]) w7 hV7 hP7' (by omega) (hK.below hbw7 hK0) hp3 (by show 0 + 1 < 900000; omega)
      rw [show VolD.commit ⟨D2, k, 0, false⟩ (wholeL bb k ++ [((0 : Int), zs 256)]) = (7, ⟨D2, k, 0, false⟩) by unfold VolD.commit; rw [if_pos (wholeL_more bb k _)], hlen1] at hcm
      dsimp only at hcm
      have H7 := Lib.hid (And.intro hP7 (And.intro hm7 (And.intro hV7 hbw7)))
      clear ho7 hok7 hg7 hf67 hn5 hX7 hzr hX7' hP7 hP7' hcell6 hap hV6 hV7 hm7 hb7r hbw7 hlen1 ho6 hX6 hbase6 hb5 hk5 hb6 hb6r ho hX hVr hmr hbw hw0
      go_wp2_with fail
      refine hcm.mono ?_
      rintro e w8 ⟨rfl, hV8, hf8⟩
      clear hcm
      obtain ⟨hP7, hm7, hV7, hbw7⟩ := H7.out
      have hm8 := hm7.three hV7 hf8
      have hP8 : PutsAt w8 (some ⟨gL, 0, none⟩) (wholeL bb k) := hP7.fr hf8 (three_no (by decide) (by decide) (by decide) hV7) (three_no (by decide) (by decide) (by decide) hV7)
      have hbw8 : Below w.heap.size w w8 := hbw7.trans (hf8.to (fun i hi => Nat.le_trans hww (hlow i hi)) hbw7.size)
      have hml : (List.replicate k (zs 256)).length = k := by simp
      have his := is_o v g gl ⟨D2, k, 0, false⟩ (List.replicate k (zs 256)) A4 c4 w8 hV8 hm8 hml
      obtain ⟨f2, f3, f4⟩ := HF.out
      rw [good_reads f2.a, hml] at his
      simp only [beq_self_eq_true] at his
      have H8 := Lib.hid (And.intro hP8 (And.intro hm8 (And.intro hV8 hbw8)))
      clear hP7 hm7 hV7 hbw7 hm8 hP8 hbw8 hV8 hf8 f2 f3 f4
      go_wp2_with fail
      refine his.mono ?_
      rintro e w9 ⟨rfl, hb9⟩
      clear his
      obtain ⟨hP8, hm8, hV8, hbw8⟩ := H8.out
      obtain ⟨f2, f3, f4⟩ := HF.out
      have hV9 := hV8.below hb9
      have hbw9 := hbw8.trans (hb9.mono hbw8.size)
      have hm9 := hm8.below hb9
      have hP9 := hP8.below hb9
      have hne : wholeL bb k ≠ [] := fun e => by have := wholeL_len bb k; rw [e] at this; simp at this; omega
      obtain ⟨c1, D6, c2, c3, c4', c5⟩ := commit_free f2 f3 (by omega) (wholeL_may bb k) hne
      have hcm := commit_any v g gl ⟨D2, k, 0, false⟩ (some ⟨gL, 0, none⟩) c (wholeL bb k) w9 hV9 hP9 (by rw [wholeL_len]; omega) (hK.below hbw9 hK0) hp3 (by show 0 + 1 < 900000; omega)
      rw [show VolD.commit ⟨D2, k, 0, false⟩ (wholeL bb k) = (0, ⟨D6, k, 0 + 1, false⟩) from Prod.ext c1 c2, wholeL_len] at hcm
      dsimp only at hcm
      have H9 := Lib.hid (And.intro hP9 (And.intro hm9 (And.intro hV9 (And.intro hbw9 (And.intro c3 (And.intro c4' c5))))))
      clear hP8 hm8 hV8 hbw8 hP9 hm9 hV9 hbw9 hb9 c1 c2 c3 c4' c5 f2 f3 f4 hne
      go_wp2_with fail
      refine hcm.mono ?_
      rintro e w10 ⟨rfl, hV10, hf10⟩
      clear hcm
      obtain ⟨hP9, hm9, hV9, hbw9, c3, c4', c5⟩ := H9.out
      have hm10 := hm9.three hV9 hf10
      have hP10 : PutsAt w10 (some ⟨gL, 0, none⟩) (wholeL bb k) := hP9.fr hf10 (three_no (by decide) (by decide) (by decide) hV9) (three_no (by decide) (by decide) (by decide) hV9)
      have hbw10 : Below w.heap.size w w10 := hbw9.trans (hf10.to (fun i hi => Nat.le_trans hww (hlow i hi)) hbw9.size)
      have haf := after_o (List.replicate k (zs 256)) (wholeL bb k) A4 (some ⟨gL, 0, none⟩) c4 c w10 hm10 hP10 (by rw [hml]; omega) (by rw [wholeL_len]; omega) (by rw [hml]; exact (mayB_ok (wholeL_may bb k)).2)
      rw [hml, wholeL_len] at haf
      have hml2 : (applyM (List.replicate k (zs 256)) (wholeL bb k)).length = k := by rw [applyM_len]; simp
      generalize applyM (List.replicate k (zs 256)) (wholeL bb k) = M at c3 haf hml2
      have H10 := Lib.hid (And.intro hV10 (And.intro hbw10 (And.intro c3 (And.intro c4' c5))))
      have HML2 := Lib.hid hml2
      clear hP9 hm9 hV9 hbw9 hm10 hP10 hbw10 hf10 hV10 c3 c4' c5 hml hml2
      go_wp2_with fail
      refine haf.mono ?_
      rintro e w11 ⟨A11, c11, rfl, hc11, hm11, hb11⟩
      clear haf
      obtain ⟨hV10, hbw10, c3, c4', c5⟩ := H10.out
      have hV11 := hV10.below hb11
      have hbw11 := hbw10.trans (hb11.mono hbw10.size)
      have hD6 : DiskAt w11 g gl D6 := hV11.disk
      have hcr := crash_o g gl D6 .nilFunc (fun _ => false) w11 hD6 (by rw [c5, HF.out.2.2]; omega) (.inl ⟨rfl, fun _ => rfl⟩)
      have H11 := Lib.hid (And.intro hV11 (And.intro hbw11 (And.intro c3 (And.intro c4' (And.intro c5 hm11)))))
      clear hV10 hbw10 c3 c4' c5 hV11 hbw11 hD6 hm11 hb11
      go_wp2_with fail
      refine hcr.mono ?_
      rintro e w12 ⟨g', gl', rfl, hg', hgl', hD12, hb12⟩
      clear hcr
      obtain ⟨hV11, hbw11, c3, c4', c5, hm11⟩ := H11.out
      have hG12 := c3.crash (fun _ => false)
      have hF12 := crash_free D6 (fun _ => false)
      generalize D6.crash (fun _ => false) = D12 at hD12 hG12 hF12
      have hbw12 := hbw11.trans (hb12.mono hbw11.size)
      have hmt := mount_o g' gl' D12 w12 hD12 (hK.below hbw12 hK0) hG12.a.heads.1 hG12.a.heads.2
      have H12 := Lib.hid (And.intro (hV11.below hb12) (And.intro hbw12 (And.intro (hm11.below hb12) (And.intro hD12 (And.intro hG12 hF12)))))
      clear hV11 hbw11 c4' c5 hm11 hbw12 hD12 hG12 hF12 hb12
      have HC3 := Lib.hid c3
      clear c3
      go_wp2_with fail
      refine hmt.mono ?_
      rintro e w13 ⟨hR, hb13⟩
      clear hmt
      obtain ⟨hV12, hbw12, hm12, hD12, hG12, hF12⟩ := H12.out
      obtain ⟨v', rfl, hv', hvol'⟩ := mountR_good hG12 (free_dead hF12) hR
      clear hR
      have hV13 := hV12.below hb13
      have hVn := good_vat hG12 (hD12.below hb13) hvol'
      have hm13 := hm12.below hb13
      have hbw13 := hbw12.trans (hb13.mono hbw12.size)
      have his := is_o v g gl ⟨D6, k, 0 + 1, false⟩ M A11 c11 w13 hV13 hm13 HML2.out
      rw [good_reads HC3.out.a, HML2.out] at his
      simp only [beq_self_eq_true] at his
      have his2 := fun w (h : VAt w v' g' gl' ⟨D12, k, 0 + 1, false⟩) (hm : ModelAt w A11 M) => is_o v' g' gl' ⟨D12, k, 0 + 1, false⟩ M A11 c11 w h hm HML2.out
      rw [good_reads hG12.a, HML2.out] at his2
      simp only [beq_self_eq_true] at his2
      have H13 := Lib.hid (And.intro hVn (And.intro hm13 hbw13))
      have HI2 := Lib.hid his2
      clear hV12 hbw12 hm12 hD12 hG12 hF12 hV13 hVn hm13 hbw13 his2 hvol' hb13
      go_wp2_with fail
      refine his.mono ?_
      rintro e w14 ⟨rfl, hb14⟩
      clear his
      obtain ⟨hVn, hm13, hbw13⟩ := H13.out
      have his2 := HI2.out w14 (hVn.below hb14) (hm13.below hb14)
      have hbw14 := hbw13.trans (hb14.mono hbw13.size)
      clear hVn hm13 hbw13 hb14
      have H14 := Lib.hid hbw14
      clear hbw14
      go_wp2_with fail
      refine his2.mono ?_
      rintro e w15 ⟨rfl, hb15⟩
      clear his2
      go_wp2_with fail
      go_ret
      exact ⟨rfl, H14.out.trans (hb15.mono H14.out.size)⟩
end Go.Proofs.YtbjbjnbloddioaaDoor
