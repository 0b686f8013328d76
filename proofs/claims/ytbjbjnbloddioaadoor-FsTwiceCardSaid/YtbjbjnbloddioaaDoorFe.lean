/- A head's bytes; a number read from bytes; what a crash keeps. -/
import Derived.Test.YtbjbjnbloddioaaDoorFd
import Derived.Lib.AppendZerosOnto
import Derived.Lib.SlBytesConst
import Derived.ArgAppend
set_option linter.unusedVariables false
set_option linter.unusedSimpArgs false
namespace Go.Proofs.YtbjbjnbloddioaaDoor
open Go.RowKit Go.Shelf

theorem zeroCells_u8 (n : Nat) : (Builtin.zeroCells (Value.int .u8 0).cells n).toList = bvs (zs n) := by
  have hc : (Value.int .u8 0).cells = #[.int .u8 0] := rfl
  rw [hc]
  apply List.ext_getElem?
  intro j
  by_cases hj : j < n
  · simp [Builtin.zeroCells, hj, bvs, zs, bv, Nat.mod_one]
  · simp [Builtin.zeroCells, hj, bvs, zs]
theorem run_app0 {P : Program} (w : World) (t tn ty e : TypeId) (kq kn : IntKind) (base : Nat) (ht : P.underlying t = some (.slice e)) (htn : P.underlying tn = some (.int kn)) (hinfo : (P.info? e).map (fun i => (i.zero, i.size, i.bytes)) = some (some (.int .u8 0), 1, 1))
    (A : Option Addr) (n c : Nat) (l : List UInt8) (hown : w.ownsRow base e 1 (.slice A n c) n (bvs l)) (k : Nat) (h0 : 0 < k) (hn0 : 0 < n) (h : n + k ≤ 256) (hbase : base ≤ w.heap.size) :
    ∃ A' c' w', (Builtin.append_ #[t, tn] ty #[.slice A n c, .int kq (k : Int)]).run P w = .ok (.slice A' (n + k) c') w' ∧ w'.ownsRow base e 1 (.slice A' (n + k) c') (n + k) (bvs (l ++ zs k)) ∧ w.grownBy w' (Value.slice A n c).ownBlock := by
  obtain ⟨i, hi, hz, hs, hby⟩ := info_parts hinfo
  obtain ⟨hlen, h2⟩ := hown
  rcases h2 with ⟨_, rfl⟩ | ⟨g, cap, cur, hv, hbg, hg, hnc, hcm, hcs, htake⟩
  · omega
  injection hv with hA _ hc
  subst hA
  subst hc
  have hln : (bvs l).length = n := by simpa using hlen
  have hll : l.length = n := by simpa [bvs_length] using hln
  by_cases hroom : n + k ≤ c
  · have hst := run_storeCells_at P g n e (bvs (zs k)) 0 cur w hg (by simp [bvs_length, zs_length]; omega) (bvs_one _)
    simp only [Nat.add_zero] at hst
    have hw : IntKind.i64.wrap (k : Int) = k := by rw [IntKind.wrap_i64]; omega
    have hneg : ¬ ((k : Int) < 0) := by omega
    have h48i : ¬ (281474976710656 < (k : Int) * (i.bytes : Int)) := by rw [hby]; omega
    have hk0 : k ≠ 0 := by omega
    refine ⟨some ⟨g, 0, none⟩, c, w.setRow g (cur.toList.take n ++ bvs (zs k) ++ cur.toList.drop (n + (bvs (zs k)).length)).toArray, ?_, ⟨by simp [bvs_length, hll, zs_length], .inr ⟨g, c, _, rfl, hbg, setRow_heap w g cur _ e _ hg, hroom, hcm, ?_, ?_⟩⟩,
      ⟨rfl, rfl, rfl, by simp [World.setRow], fun k _ hk => setRow_other w g k _ (fun e => hk (by simp [Value.ownBlock, e]))⟩⟩
    · simp [Builtin.append_, run_underlying ht, run_underlying htn, sizeOf, typeInfo, zeroValue, hi, hz, hs, asInt, asIntOf, hw, hneg, h48i, hk0, hroom, zeroCells_u8, Addr.add_lit, hst]
    · have hcs' : cur.toList.length = c := by simpa using hcs
      simp [bvs_length, zs_length, hcs']
      omega
    · have htake' : cur.toList.take n = bvs l := by simpa using htake
      rw [htake', bvs_append]
      simp only [Nat.mul_one, List.append_assoc]
      rw [← List.append_assoc, List.take_append_of_le_length (by simp [bvs_length, hll, zs_length]), List.take_of_length_le (by simp [bvs_length, hll, zs_length])]
  · have hold := run_firstCells_some (P := P) w.drew i.size n ⟨g, 0, none⟩ n c (bvs l) (by rw [hs]; simpa using hln) (fun j u hu => by
      have hj : cur[j]? = some u := by
        have := htake
        rw [← this, List.getElem?_take] at hu
        split at hu
        · simpa using hu
        · cases hu
      rw [add_lit, Nat.zero_add]
      exact (cell_of_row w g j cur e (0, 0) hg).trans hj)
    have hfit : Builtin.nextslicecap (n + k) c * i.bytes ≤ 281474976710656 := by
      rw [hby]
      unfold Builtin.nextslicecap
      split
      · omega
      · split
        · omega
        · omega
    have hr := Lib.run_append_grow_zeros w t tn ty e i (.int .u8 0) kq kn ht htn hi hz (some ⟨g, 0, none⟩) n c (bvs l) hold k h0 (by omega) (by omega) (by omega) (by rw [hby]; omega) hfit
    have hge := grownCap_ge w (n + k) c e
    have hcm' : grownCap w (n + k) c e ≤ maxLen := grownCap_le_maxLen w (n + k) c e (by simp [maxLen]; omega)
    refine ⟨_, _, _, hr, ⟨by simp [bvs_length, hll, zs_length], .inr ⟨w.heap.size, _, _, rfl, hbase, heap_alloc_new w.drew _, hge, hcm', ?_, ?_⟩⟩, ⟨rfl, rfl, rfl, by simp, fun k hk _ => Below.heap_alloc w.drew _ k hk⟩⟩
    · simp only [Array.size_append, List.size_toArray, size_zeroCells, bvs_length, hll]
      simp [Value.cells]
      omega
    · simp only [Array.toList_append, List.append_assoc, zeroCells_u8]
      rw [bvs_append, ← List.append_assoc, Nat.mul_one, List.take_append_of_le_length (by simp [bvs_length, hll, zs_length]), List.take_of_length_le (by simp [bvs_length, hll, zs_length])]

theorem wpList_app0 {P : Program} {w : World} {ops : Array Oper} {rest : List Oper} {o : Oper} {a : Act} {Q : Exit → Act → World → Prop} (hgd : o.guard = none) (s x : Operand) (t tn : TypeId)
    (ho : o.op = .call { callee := .builtin .append, args := #[s, x], argTypes := #[t, tn] })
    (e : TypeId) (kq kn : IntKind) (base : Nat) (ht : P.underlying t = some (.slice e)) (htn : P.underlying tn = some (.int kn)) (hinfo : (P.info? e).map (fun i => (i.zero, i.size, i.bytes)) = some (some (.int .u8 0), 1, 1))
    (A : Option Addr) (n c : Nat) (l : List UInt8) (hs : a.eval s = .slice A n c) (hown : w.ownsRow base e 1 (.slice A n c) n (bvs l)) (k : Nat) (hx : a.eval x = .int kq (k : Int)) (h0 : 0 < k) (hn0 : 0 < n) (hb : n + k ≤ 256) (hbase : base ≤ w.heap.size)
    (h : ∀ A' c' w', w'.ownsRow base e 1 (.slice A' (n + k) c') (n + k) (bvs (l ++ zs k)) → w.grownBy w' (Value.slice A n c).ownBlock → wpList P ops Q rest (a.put o.dst (.slice A' (n + k) c')) w') : wpList P ops Q (o :: rest) a w :=
  wpList_plain hgd fun _ hK => by
    obtain ⟨A', c', w', hrun, h2, h3⟩ := run_app0 (P := P) w t tn o.type e kq kn base ht htn hinfo A n c l hown k h0 hn0 hb hbase
    unfold Oper.wp execOp
    simp only [ho, resolve, invoke, builtin, Sem.run_bind, Sem.run_pure, Result.andThen_ok, List.map_toArray, List.map_cons, List.map_nil, hs, hx, hrun]
    exact hK _ _ (h A' c' w' h2 h3)
def magic : List UInt8 := [98, 97, 105, 108, 101, 121, 39, 115, 32, 118, 111, 108, 117, 109, 101, 10]
def hd0 (n : Nat) : List UInt8 := magic ++ be n 8
/-- A head. -/
def hd (n : Nat) : List UInt8 := (hd0 n ++ H24 (hd0 n)) ++ zs 200
theorem hd0_len (n : Nat) : (hd0 n).length = 24 := by simp [hd0, be_length]; rfl
theorem hd_len (n : Nat) : (hd n).length = 256 := by simp [hd, hd0_len, H24_len, zs_length]

theorem Rd.alloc0 {w : World} {g : Nat} {xs : List Value} (h : Rd w (some ⟨g, 0, none⟩) xs) (o : Obj) (b : Addr) (e : some (⟨g, 0, none⟩ : Addr) = some b) (j : Nat) (u : Value) (hu : xs[j]? = some u) : (w.alloc o).cell? (b.add j) = some u := by
  injection e with e
  subst e
  exact (h.below (below_alloc w o)).cell hu
set_option maxRecDepth 100000 in
set_option maxHeartbeats 400000 in
/-- A number's bytes behind a row that has no room. -/
theorem append64_full (x : Nat) (hx : x < 18446744073709551616) (w : World) (g : Nat) (l : List UInt8) (c : Nat) (hr : Rd w (some ⟨g, 0, none⟩) (bvs l)) (hc : c < l.length + 8) (hl : l.length ≤ 1000000000) :
    Calls Tryd.prog 41 #[.slice (some ⟨g, 0, none⟩) l.length c, .int .u64 (x : Int)] w (fun e w' => ∃ A' c', e = .returned (.slice A' (l.length + 8) c') ∧ w'.ownsRow w.heap.size 5 1 (.slice A' (l.length + 8) c') (l.length + 8) (bvs (l ++ be x 8)) ∧ Below w.heap.size w w') := by
  have HB := Lib.hid (bvs_be8 x hx)
  obtain ⟨i, hi, hz, hs, hby⟩ := info_parts info5
  go_enter Tryd.func41, Tryd.ntmps41
  go_wp2_with (at_builtin; refine Stop.out ?_)
  refine Stop.mk ?_
  refine wpList_append_grows _ rfl (.tmp 5) (.tmp 29) 28 rfl 5 i (.int .u8 0) 1 1 Tryd.underlying28 hi hz hs hby rfl (by omega) (some ⟨g, 0, none⟩) l.length c (bvs l) rfl (by intro e; cases e) (by simp [bvs_length])
    (hr.alloc0 _) ⟨w.heap.size, 0, none⟩ 8 8 _ rfl (by rfl) (fun j u hu => (Rd.lit _ _ _).cell hu) (by simp [Value.oneCell']) hc (by simp [maxLen]; omega) (by omega) ?_
  intro v' w1 ho1 hg
  obtain ⟨g', cap, rfl, _⟩ := ho1.form (by omega)
  go_wp2
  go_ret
  refine ⟨_, _, rfl, by rw [bvs_append, HB.out]; exact own_less ho1 (by simp), (below_alloc w _).trans (below_grow hg (by simp))⟩
set_option maxRecDepth 100000 in
set_option maxHeartbeats 1600000 in
/-- head. -/
theorem head_o (n : Nat) (hn : n < 1000000) (w : World) (hK : Kg w) : Calls Tryd.prog 31 #[.int .i64 (n : Int)] w (fun e w' => ∃ A c, e = .returned (.slice A 256 c) ∧ 256 ≤ c ∧ w'.ownsRow w.heap.size 5 1 (.slice A 256 c) 256 (bvs (hd n)) ∧ Below w.heap.size w w') := by
  have hK0 := hK.pos
  go_enter Tryd.func31, Tryd.ntmps31
  have em : (bvs magic).toArray = #[.int .u8 98, .int .u8 97, .int .u8 105, .int .u8 108, .int .u8 101, .int .u8 121, .int .u8 39, .int .u8 115, .int .u8 32, .int .u8 118, .int .u8 111, .int .u8 108, .int .u8 117, .int .u8 109, .int .u8 101, .int .u8 10] := by rfl
  have hcv := Lib.run_convert_bytes_const (P := Tryd.prog) w 28 5 (bvs magic).toArray 16 16 Tryd.underlying28 Tryd.underlying5
  rw [em] at hcv
  have hk1 := heap_alloc_new w (.cells (bvs magic).toArray 5 (16, 17))
  have hb1 := below_alloc w (.cells (bvs magic).toArray 5 (16, 17))
  have hcall := append64_full n (by omega) (w.alloc (.cells (bvs magic).toArray 5 (16, 17))) w.heap.size magic 16 (by have := Rd.blk hk1; simpa using this) (by simp [magic]) (by simp [magic])
  rw [em] at hcall hb1
  have hlm : magic.length + 8 = 24 := rfl
  rw [hlm] at hcall
  have HC := Lib.hid hcall
  have HB := Lib.hid hb1
  clear hcall hb1 hk1 em hlm
  go_wp2_with fail
  refine HC.out.mono ?_
  rintro e w2 ⟨A2, c2, rfl, ho2, hg2⟩
  have hb2 : Below w.heap.size w w2 := HB.out.trans (hg2.mono HB.out.size)
  have ho2 := own_less ho2 HB.out.size
  clear hcv HC HB hg2
  have hs2 := hb2.size
  go_wp2_with fail
  have hbA := below_alloc w2 (.cells #[.slice A2 24 c2] 28)
  have hof := of_o (magic ++ be n 8) (hd0_len n) A2 c2 w2.heap.size (w2.alloc (.cells #[.slice A2 24 c2] 28)) ((Rd.own ho2).below hbA) (cell_of_row _ _ 0 _ 28 (0, 0) (heap_alloc_new w2 _)) (hK.below (hb2.trans (hbA.mono hs2)) hK0)
  refine hof.mono ?_
  rintro e w3 ⟨A3, c3, rfl, hc3, ho3, hb3⟩
  clear hof
  have hbw3 : Below w.heap.size w w3 := (hb2.trans (hbA.mono hs2)).trans (hb3.mono (by simp; omega))
  have ho2' := own_below (own_below ho2 hbA) hb3
  go_wp2_with (at_builtin; refine Stop.out ?_)
  refine Stop.mk ?_
  refine wpList_app _ rfl (.tmp 9) (.tmp 12) 28 rfl 5 (.int .u8 0) 1 1 w.heap.size Tryd.underlying28 info5 rfl (by omega) (.slice A2 24 c2) 24 (bvs (magic ++ be n 8)) rfl ho2' A3 32 c3 (bvs (H24 (magic ++ be n 8))) rfl (by rw [bvs_length, H24_len]) (Rd.own ho3) (bvs_one _) (by omega) (by omega) hbw3.size ?_
  intro A4 c4 w4 ho4 hg4 _
  rw [← bvs_append] at ho4
  have hb4 : Below w.heap.size w w4 := hbw3.grown hg4 hbw3.size (fun k e => (ho2'.lt k e).1)
  clear hg4 ho2' ho3 hbw3 hbA hb3 ho2
  go_wp2_with (at_builtin; refine Stop.out ?_)
  refine Stop.mk ?_
  refine wpList_app0 rfl (.tmp 14) (.tmp 17) 28 3 rfl 5 .i64 .i64 w.heap.size Tryd.underlying28 Tryd.underlying3 info5 A4 56 c4 _ rfl ho4 200 rfl (by omega) (by omega) (by omega) hb4.size ?_
  intro A5 c5 w5 ho5 hg5
  have hb5 : Below w.heap.size w w5 := hb4.grown hg5 hb4.size (fun k e => (ho4.lt k e).1)
  clear hg5 ho4
  go_wp2_with fail
  go_ret
  exact ⟨A5, c5, rfl, (own_cap ho5).2.1, ho5, hb5⟩
end Go.Proofs.YtbjbjnbloddioaaDoor
