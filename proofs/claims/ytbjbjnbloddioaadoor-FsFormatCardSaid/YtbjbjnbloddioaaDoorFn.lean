/- A volume's turn: what is to be written. -/
import Derived.Test.YtbjbjnbloddioaaDoorFm
import Derived.Maps.OwnSet
set_option linter.unusedVariables false
set_option linter.unusedSimpArgs false
namespace Go.Proofs.YtbjbjnbloddioaaDoor
open Go.RowKit Go.Shelf

/-- The last put to a block, of the first k. -/
def lastB (L : List (Int × List UInt8)) : Nat → Int → Option (List UInt8)
  | 0, _ => none
  | k + 1, i => match L[k]? with
    | some p => if p.1 = i then some p.2 else lastB L k i
    | none => lastB L k i
def newB (D : DiskD) (b c : Nat) (L : List (Int × List UInt8)) (i : Nat) : List UInt8 := (lastB L L.length i).getD (D.at_ (sideN b c i))
def turnF (D : DiskD) (b c : Nat) (L : List (Int × List UInt8)) (i : Nat) : Nat × List UInt8 := (sideN b (c + 1) i, newB D b c L i)
/-- turn. -/
def DiskD.turn (D : DiskD) (b c : Nat) (L : List (Int × List UInt8)) : Bool × DiskD :=
  seqD (seqD (seqD (wroteTo (turnF D b c L) D b) DiskD.sync) fun D => D.write ((c + 1) % 2) (hd (c + 1))) DiskD.sync
abbrev Rv : Value → Option (DataW Value × List MemPlace) := fun v => some (.held v, [])
/-- The map tells the last put. -/
def MapRel (w : World) (L : List (Int × List UInt8)) (k : Nat) (M : DataW Value) : Prop := ∀ i : Int,
  (lastB L k i = none → Maps.has M (.int .i64 i) = false) ∧
  (∀ x, lastB L k i = some x → Maps.has M (.int .i64 i) = true ∧ ∃ A c, (∀ z, M.atKey (.int .i64 i) z = .held (.slice A x.length c)) ∧ x.length ≤ c ∧ Rd5 w A x)
theorem MapRel.fr {S : Nat → Prop} {w w' : World} {L : List (Int × List UInt8)} {k : Nat} {M : DataW Value} (h : MapRel w L k M) (hf : Fr S w w') (h5 : No5 S w) : MapRel w' L k M := fun i => by
  refine ⟨(h i).1, fun x hx => ?_⟩
  obtain ⟨h1, A, c, h2, h3, h4⟩ := (h i).2 x hx
  exact ⟨h1, A, c, h2, h3, h4.fr hf h5⟩
theorem MapRel.zero (w : World) (L : List (Int × List UInt8)) : MapRel w L 0 (.map []) := fun i => ⟨fun _ => rfl, fun x hx => by cases hx⟩
theorem MapRel.put {w : World} {L : List (Int × List UInt8)} {k : Nat} {M : DataW Value} {p : Int × List UInt8} {A : Option Addr} {c : Nat} (h : MapRel w L k M) (hm : Maps.IsMap M) (hp : L[k]? = some p) (hc : p.2.length ≤ c) (hr : Rd5 w A p.2) :
    MapRel w L (k + 1) (M.put (.int .i64 p.1) (.held (.slice A p.2.length c))) := fun i => by
  have hstep : lastB L (k + 1) i = if p.1 = i then some p.2 else lastB L k i := by simp [lastB, hp]
  rw [hstep]
  by_cases e : p.1 = i
  · subst e
    rw [if_pos rfl]
    refine ⟨fun h => by (cases h), fun x hx => ?_⟩
    injection hx with hx
    subst hx
    exact ⟨Maps.has_put_same (k := .int .i64 p.1) hm trivial _, A, c, fun z => Maps.atKey_put_same (k := .int .i64 p.1) hm trivial _ z, hc, hr⟩
  · rw [if_neg e]
    have hne : (Lit.int .i64 i) ≠ .int .i64 p.1 := fun h => e (by injection h with _ h; exact h.symm)
    refine ⟨fun hn => by rw [Maps.has_put_other hne]; exact (h i).1 hn, fun x hx => ?_⟩
    obtain ⟨h1, A', c', h2, h3, h4⟩ := (h i).2 x hx
    exact ⟨by rw [Maps.has_put_other hne]; exact h1, A', c', fun z => by rw [Maps.atKey_put_other hne]; exact h2 z, h3, h4⟩
theorem key3 (i : Int) (h0 : 0 ≤ i) (hi : i ≤ 1000000) : Go.keyOf Tryd.prog 3 (.int .i64 i) = some (.int .i64 i) := by
  simp [Go.keyOf, mapKey, Tryd.underlying3, Lit.wf]
  have h1 : IntKind.i64.min = -9223372036854775808 := by decide
  have h2 : IntKind.i64.max = 9223372036854775807 := by decide
  rw [h1]
  omega
theorem zero28 (w : World) : (zeroValue 28).run Tryd.prog w = .ok (.slice none 0 0) w := by kernel_rfl
/-- What a lookup answers. -/
theorem map_look {w : World} {L : List (Int × List UInt8)} {mb n : Nat} {M : DataW Value} (ho : w.ownsMap Tryd.prog 3 Rv mb n M) (h : MapRel w L L.length M) (i : Nat) (hi : i ≤ 1000000) :
    (lastB L L.length (i : Int) = none ∧ ∃ v, (Instr.lookup 80 (.map (some mb)) (.int .i64 (i : Int)) true).run Tryd.prog w = .ok (.tuple #[v, .bool false]) w) ∨
    (∃ x A c, lastB L L.length (i : Int) = some x ∧ x.length ≤ c ∧ Rd5 w A x ∧ (Instr.lookup 80 (.map (some mb)) (.int .i64 (i : Int)) true).run Tryd.prog w = .ok (.tuple #[.slice A x.length c, .bool true]) w) := by
  obtain ⟨v, ps, hrun, hv⟩ := ho.look_ok (Maps.int_keyed Tryd.underlying3) Tryd.underlying80 (zero28 w) (zd := .held (.slice none 0 0)) (zp := []) rfl (key3 i (by omega) (by omega))
  cases hl : lastB L L.length (i : Int) with
  | none =>
    left
    rw [(h i).1 hl] at hrun
    exact ⟨rfl, v, hrun⟩
  | some x =>
    right
    obtain ⟨h1, A, c, h2, h3, h4⟩ := (h i).2 x hl
    rw [h1] at hrun
    rw [h2] at hv
    injection hv with hv
    injection hv with hv _
    injection hv with hv
    subst hv
    exact ⟨x, A, c, rfl, h3, h4, hrun⟩

theorem wrote_at (D : DiskD) (i j : Nat) (x : List UInt8) (h : i ≠ j) : (D.wrote i x).2.at_ j = D.at_ j := by
  unfold DiskD.wrote DiskD.write
  split
  · rfl
  · split
    · rfl
    · simp only [DiskD.done, DiskD.put, DiskD.at_, List.getElem?_modify, if_neg h]
      cases D.secs[j]? <;> rfl
theorem wroteTo_at (f : Nat → Nat × List UInt8) (D : DiskD) (j : Nat) : ∀ k, (∀ i, i < k → (f i).1 ≠ j) → (wroteTo f D k).2.at_ j = D.at_ j
  | 0, _ => rfl
  | k + 1, h => by
    have ih := wroteTo_at f D j k (fun i hi => h i (by omega))
    simp only [wroteTo, seqD]
    split
    · rw [wrote_at _ _ _ _ (h k (by omega)), ih]
    · exact ih
theorem side_ne {b c i j : Nat} (hi : i < b) (hj : j < b) : sideN b (c + 1) i ≠ sideN b c j := by
  unfold sideN
  rcases Nat.mod_two_eq_zero_or_one c with h | h
  · have : (c + 1) % 2 = 1 := by omega
    rw [h, this]; omega
  · have : (c + 1) % 2 = 0 := by omega
    rw [h, this]; omega

theorem VolAt.apart {w : World} {v g0 g gl b : Nat} {c : Int} {br : Bool} {D : DiskD} (h : VolAt w v g0 b c br) (hD : DiskAt w g gl D) : ¬ two g gl v := by
  unfold VolAt at h
  obtain ⟨cnt, d1⟩ := hD.dk
  obtain ⟨cs', d2, _⟩ := hD.ss
  rintro (rfl | rfl)
  · rw [d1] at h; injection h with e; injection e with _ e _; exact absurd e (by decide)
  · rw [d2] at h; injection h with e; injection e with _ e _; exact absurd e (by decide)
theorem lastB_len {L : List (Int × List UInt8)} {b : Nat} (h : ∀ p ∈ L, putOK b p = true) {i : Int} {x : List UInt8} : ∀ k, lastB L k i = some x → x.length = 256
  | 0, hx => by cases hx
  | k + 1, hx => by
    unfold lastB at hx
    cases hp : L[k]? with
    | none => rw [hp] at hx; exact lastB_len h k hx
    | some p =>
      rw [hp] at hx
      dsimp only at hx
      by_cases e : p.1 = i
      · rw [if_pos e] at hx
        injection hx with hx
        subst hx
        have := h p (List.mem_of_getElem? hp)
        unfold putOK at this
        simp at this
        exact this.2
      · rw [if_neg e] at hx
        exact lastB_len h k hx
theorem stab_undef {O : World → World → Prop} {P : Program} {o : Oper} {t : TypeId} {x : Operand} {ρ : Operand → Value} (ho : o.op = .load t x) (hx : ρ x = undef) : Stab O P (execOp ρ o) := fun w v w1 h => by
  unfold execOp at h
  simp only [ho, hx] at h
  simp [Instr.loadAt, Instr.sureAddr, undef] at h
theorem map_no5 {w : World} {mb n : Nat} {M : DataW Value} (h : w.ownsMap Tryd.prog 3 Rv mb n M) : No5 (fun k => k = mb) w := by
  rintro k rfl cs e
  obtain ⟨es, cl, hb, _⟩ := h
  rw [hb] at e
  cases e
theorem turn_1 {D D1 : DiskD} {b c : Nat} {L : List (Int × List UInt8)} (h : wroteTo (turnF D b c L) D b = (false, D1)) : D.turn b c L = (false, D1) := by
  unfold DiskD.turn
  rw [h]
  rfl
theorem turn_2 {D D1 : DiskD} {b c : Nat} {L : List (Int × List UInt8)} (h : wroteTo (turnF D b c L) D b = (true, D1)) : D.turn b c L = seqD (seqD D1.sync fun D => D.write ((c + 1) % 2) (hd (c + 1))) DiskD.sync := by
  unfold DiskD.turn
  rw [h]
  rfl
set_option maxRecDepth 100000 in
set_option maxHeartbeats 3200000 in
theorem turn_o (v g gl b c : Nat) (br : Bool) (D : DiskD) (A : Option Addr) (cp : Nat) (L : List (Int × List UInt8)) (w : World) (h : VolAt w v g b (c : Int) br) (hD : DiskAt w g gl D) (hL : PutsAt w A L) (hK : Kg w) (h0 : ¬ two g gl 0)
    (hm : mayB L b = true) (hb : b ≤ 1000000) (hc : c + 1 < 1000000) (hlen : 8 + 2 * b ≤ D.secs.length) :
    Calls Tryd.prog 34 #[.pointer (some ⟨v, 0, none⟩), .slice A L.length cp] w (fun e w' => e = .returned (.bool (D.turn b c L).1) ∧ DiskAt w' g gl (D.turn b c L).2 ∧ Fr (two g gl) w w') := by
  have hvl := (Array.getElem?_eq_some_iff.1 h).1
  have hlb : L.length ≤ b ∧ ∀ p ∈ L, putOK b p = true := by
    unfold mayB at hm
    simp at hm
    exact ⟨hm.1, fun p hp => hm.2 _ _ hp⟩
  obtain ⟨hlb, hall⟩ := hlb
  go_enter Tryd.func34, Tryd.ntmps34
  have hmk := fun w => run_makeMap (P := Tryd.prog) 80 w
  go_wp2_with fail
  clear hmk
  go_loopw [15] (fun i wr => ∃ (k : Nat) (M : DataW Value), k ≤ L.length ∧ i = .int .i64 k ∧ wr.ownsMap Tryd.prog 3 Rv w.heap.size k M ∧ MapRel wr L k M ∧ Below w.heap.size w wr) (fun i _ => L.length - (intOf i).toNat)
  case atStart => exact ⟨0, .map [], by omega, rfl, World.ownsMap_made w _ _ _, MapRel.zero _ _, below_alloc w _⟩
  case round =>
    obtain ⟨k, M, hk, rfl, hown, hrelm, hbr⟩ := hrel
    by_cases hlt : k < L.length
    · have hpk : L[k]? = some L[k] := List.getElem?_eq_getElem hlt
      obtain ⟨gp, o, cs, A2, c2, rfl, hg, q0, q1, q2, q3⟩ := (hL.below hbr) k L[k] hpk
      have hok := hall L[k] (List.getElem_mem hlt)
      have hok' : 0 ≤ L[k].1 ∧ L[k].1 < b ∧ L[k].2.length = 256 := by
        unfold putOK at hok
        simp at hok
        exact ⟨hok.1.1, hok.1.2, hok.2⟩
      have a0 : wr.cell? ⟨gp, o + k * 2, none⟩ = some (.int .i64 L[k].1) := (cell_of_row _ gp _ _ 30 (0, 0) hg).trans q0
      have a1 : wr.cell? ⟨gp, o + k * 2 + 1, none⟩ = some (.slice A2 L[k].2.length c2) := (cell_of_row _ gp _ _ 30 (0, 0) hg).trans q1
      have hput := hrelm.put hown.isMap hpk q2 q3
      have hbi := key3 L[k].1 hok'.1 (by omega)
      generalize L[k].1 = bi at a0 hput hbi
      generalize L[k].2.length = li at a1 hput
      have HP := Lib.hid hput
      have HB := Lib.hid hbi
      have HO := Lib.hid hown
      have HR := Lib.hid hbr
      clear hput hbi hown hrelm hok hok' hpk q0 q1 q2 q3 hg hbr hall
      go_wp2_with (at_mapUpdate; refine Stop.out ?_)
      refine Stop.mk ?_
      refine wpList_mapUpdate_own _ rfl (.tmp 19) (.tmp 21) (.tmp 23) 80 rfl 3 28 (Maps.int_keyed Tryd.underlying3) Tryd.underlying80 Rv w.heap.size k M rfl (HO.out.alloc _) (by simp [maxLen]; omega) (.int .i64 bi) (.slice A2 li c2) (.int .i64 bi) rfl rfl HB.out (.held (.slice A2 li c2)) [] rfl ?_
      intro w2 hown2 hg2
      have hb2 := below_alloc wr (.cells #[.int .i64 bi, .slice A2 li c2] 30)
      have hbA := HR.out.trans (hb2.mono HR.out.size)
      have hfr2 : Fr (fun k => k = w.heap.size) wr w2 := (Fr.below hb2).trans (Fr.grown hg2 (fun k e => by injection e with e; exact e.symm))
      have hrel2 := HP.out.fr hfr2 (map_no5 HO.out)
      have hbw2 : Below w.heap.size w w2 := hbA.grown hg2 hbA.size (fun k e => by injection e with e; omega)
      clear hg2 hb2 hbA hfr2
      go_wp2_with fail
      go_roundw
      case rel => exact ⟨k + 1, _, hlt, by go_num, hown2, hrel2, hbw2⟩
      case measure => simp [intOf]; omega
    · obtain rfl : k = L.length := by omega
      obtain ⟨wo, rfl⟩ : ∃ wo : World, wo = wr := ⟨_, rfl⟩
      have hvo : VolAt wo v g b (c : Int) br := (hbr.block v hvl).trans h
      have hDo := hD.below hbr
      have hKo := hK.below hbr hK.pos
      have hvlo := (Array.getElem?_eq_some_iff.1 hvo).1
      have e1 : wo.cell? ⟨v, 1, none⟩ = some (.int .i64 (b : Int)) := cell_of_row _ v 1 _ 65 (0, 0) hvo
      have hS0 := VolAt.apart hvo hDo
      have hmbg : w.heap.size ≠ g ∧ w.heap.size ≠ gl := by have := hD.lt; omega
      have hSm : ¬ two g gl w.heap.size := by rintro (e | e); exact hmbg.1 e; exact hmbg.2 e
      have hb0 := Lib.hid hbr
      clear hbr hmbg
      go_wp2_with fail
      go_loopw [29] (fun i wr => ∃ (k : Nat) (Dk : DiskD), k ≤ b ∧ i = .int .i64 k ∧ wroteTo (turnF D b c L) D k = (true, Dk) ∧ DiskAt wr g gl Dk ∧ Fr (two g gl) wo wr) (fun i _ => b - (intOf i).toNat)
      case atStart => exact ⟨0, D, by omega, rfl, rfl, hDo, Fr.refl _ _⟩
      case round =>
        clear e1
        obtain ⟨k, Dk, hk, rfl, hw, h1, hf1⟩ := hrel
        have hlk : Dk.secs.length = D.secs.length := by have := wroteTo_len (turnF D b c L) D k; rw [hw] at this; exact this
        have HW := Lib.hid hw
        clear hw
        have hvr : VolAt wr v g b (c : Int) br := hf1.same hvo hS0
        have x0 : wr.cell? ⟨v, 0, none⟩ = some (.pointer (some ⟨g, 0, none⟩)) := cell_of_row _ v 0 _ 65 (0, 0) hvr
        have x1 : wr.cell? ⟨v, 1, none⟩ = some (.int .i64 (b : Int)) := cell_of_row _ v 1 _ 65 (0, 0) hvr
        have x2 : wr.cell? ⟨v, 2, none⟩ = some (.int .i64 (c : Int)) := cell_of_row _ v 2 _ 65 (0, 0) hvr
        by_cases hlt : k < b
        · have hmr : wr.ownsMap Tryd.prog 3 Rv w.heap.size L.length M := by
            obtain ⟨es, cl, q1, q2⟩ := hown
            exact ⟨es, cl, hf1.same q1 hSm, q2⟩
          have hrr := hrelm.fr hf1 hDo.no5
          have hlook := map_look hmr hrr k (by omega)
          rcases hlook with ⟨hln, vv, hrun⟩ | ⟨x, A9, c9, hls, hxc, hr9, hrun⟩
          · have hsk : Dk.secs[sideN b c k]? = some (Dk.secs[sideN b c k]'(by rw [hlk]; exact sideN_lt hlt hlen)) := List.getElem?_eq_getElem _
            have hsl := (sec_len h1 hsk).1
            have hat : newB D b c L k = (Dk.secs[sideN b c k]'(by rw [hlk]; exact sideN_lt hlt hlen)).now := by
              unfold newB
              rw [hln, ← at_get hsk]
              have := wroteTo_at (turnF D b c L) D (sideN b c k) k (fun i hi => side_ne (by omega) hlt)
              rw [HW.out] at this
              exact this.symm
            have hrd := vread_o v g gl b c br Dk k hlt hb (by omega) _ hsk wr hvr h1
            generalize Dk.secs[sideN b c k]'(by rw [hlk]; exact sideN_lt hlt hlen) = sk at hrd hat hsl
            have HX := Lib.hid hat
            clear hat hsk hln hall
            go_wp2_with fail
            refine hrd.mono ?_
            rintro e w3 ⟨A9, c9, rfl, hc9, ho9, hb9⟩
            have hvx : VolAt w3 v g b (c : Int) br := (hb9.block v (Array.getElem?_eq_some_iff.1 hvr).1).trans hvr
            have hDx := h1.below hb9
            have hfx : Fr (two g gl) wo w3 := hf1.trans (Fr.below hb9)
            have hr9 : Rd5 w3 A9 sk.now := Rd5.own ho9
            have hx9 := hsl
            clear hrd hrun x0 x1 x2 ho9 hb9
            go_wp2_with fail
            refine wp_region_seg [16] [[0, 1, 2, 3, 4, 5, 6, 7, 8, 9, 10, 11, 12, 13, 15, 14], [16, 17]] (by kernel_rfl) (by kernel_rfl) ?_
            simp only [Seg, pick_cons, pick_nil, List.getElem?_toArray, List.getElem?_cons_zero, List.getElem?_cons_succ, Option.toList_some, List.cons_append, List.nil_append]
            have y0 : w3.drew.cell? ⟨v, 0, none⟩ = some (.pointer (some ⟨g, 0, none⟩)) := cell_of_row w3 v 0 _ 65 (0, 0) hvx
            have y1 : w3.drew.cell? ⟨v, 1, none⟩ = some (.int .i64 (b : Int)) := cell_of_row w3 v 1 _ 65 (0, 0) hvx
            have y2 : w3.drew.cell? ⟨v, 2, none⟩ = some (.int .i64 (c : Int)) := cell_of_row w3 v 2 _ 65 (0, 0) hvx
            have hbd := below_drew w3
            have hDd := hDx.below hbd
            have hr9d := hr9.below hbd
            have hwr := wrote_o g gl Dk (sideN b (c + 1) k) sk.now A9 c9 w3.drew hDd (by rw [hlk]; exact sideN_lt hlt hlen) hx9 hr9d
            have hside := side_o b (c + 1) k hb (by omega) (by omega) w3.drew
            rw [show ((c + 1 : Nat) : Int) = (c : Int) + 1 by simp] at hside
            have hfd : Fr (two g gl) wo w3.drew := hfx.trans (Fr.below hbd)
            clear hbd hvx
            generalize w3.drew = wd at *
            generalize hres : Dk.wrote (sideN b (c + 1) k) sk.now = res at hwr
            obtain ⟨ok, D'⟩ := res
            have HRS := Lib.hid hres
            clear hres
            dsimp only at hwr
            go_wp2_with fail
            refine hside.mono ?_
            rintro e _ ⟨rfl, rfl⟩
            go_wp2_with fail
            refine Fin.intro ⟨by kernel_rfl, Old.refl _, ?_⟩
            go_wp2_with fail
            refine hwr.mono ?_
            rintro e w4 ⟨rfl, h4, hf4⟩
            clear hwr hside
            have hstep : wroteTo (turnF D b c L) D (k + 1) = (ok, D') := by
              simp only [wroteTo, HW.out, seqD, turnF, HX.out, HRS.out]
              simp
            have HS := Lib.hid hstep
            clear hstep
            cases ok with
            | false =>
              go_wp2_with fail
              refine Fin.intro ⟨by kernel_rfl, ?_⟩
              go_wp2_with fail
              go_ret
              rw [turn_1 ((wroteTo_stop (turnF D b c L) D (k + 1) (by rw [HS.out]) b (by omega)).trans HS.out)]
              exact ⟨rfl, h4, (Fr.below hb0.out).of (hfd.trans hf4) (fun i hi h => h)⟩
            | true =>
              go_wp2_with fail
              refine Fin.intro ⟨by kernel_rfl, ?_⟩
              go_wp2_with fail
              go_roundw
              case rel => exact ⟨k + 1, D', by omega, by go_num, HS.out, h4, hfd.trans hf4⟩
              case measure => simp [intOf]; omega
          · have hx9 := lastB_len hall L.length hls
            have hat : newB D b c L k = x := by
              unfold newB
              rw [hls]
              rfl
            have HX := Lib.hid hat
            rw [hx9] at hrun
            have hvx := hvr
            have hDx := h1
            have hfx := hf1
            clear hat hls hall x0 x1 x2
            go_wp2_with fail
            refine wp_region_seg [16] [[0, 1, 2, 3, 4, 5, 6, 7, 8, 9, 10, 11, 12, 13, 15, 14], [16, 17]] (by kernel_rfl) (by kernel_rfl) ?_
            simp only [Seg, pick_cons, pick_nil, List.getElem?_toArray, List.getElem?_cons_zero, List.getElem?_cons_succ, Option.toList_some, List.cons_append, List.nil_append]
            have y0 : wr.drew.cell? ⟨v, 0, none⟩ = some (.pointer (some ⟨g, 0, none⟩)) := cell_of_row wr v 0 _ 65 (0, 0) hvx
            have y1 : wr.drew.cell? ⟨v, 1, none⟩ = some (.int .i64 (b : Int)) := cell_of_row wr v 1 _ 65 (0, 0) hvx
            have y2 : wr.drew.cell? ⟨v, 2, none⟩ = some (.int .i64 (c : Int)) := cell_of_row wr v 2 _ 65 (0, 0) hvx
            have hbd := below_drew wr
            have hDd := hDx.below hbd
            have hr9d := hr9.below hbd
            have hwr := wrote_o g gl Dk (sideN b (c + 1) k) x A9 c9 wr.drew hDd (by rw [hlk]; exact sideN_lt hlt hlen) hx9 hr9d
            have hside := side_o b (c + 1) k hb (by omega) (by omega) wr.drew
            rw [show ((c + 1 : Nat) : Int) = (c : Int) + 1 by simp] at hside
            have hfd : Fr (two g gl) wo wr.drew := hfx.trans (Fr.below hbd)
            clear hbd hvx
            generalize wr.drew = wd at *
            generalize hres : Dk.wrote (sideN b (c + 1) k) x = res at hwr
            obtain ⟨ok, D'⟩ := res
            have HRS := Lib.hid hres
            clear hres
            dsimp only at hwr
            go_wp2_with fail
            refine hside.mono ?_
            rintro e _ ⟨rfl, rfl⟩
            go_wp2_with fail
            refine Fin.intro ⟨by kernel_rfl, Old.refl _, ?_⟩
            go_wp2_with fail
            refine hwr.mono ?_
            rintro e w4 ⟨rfl, h4, hf4⟩
            clear hwr hside
            have hstep : wroteTo (turnF D b c L) D (k + 1) = (ok, D') := by
              simp only [wroteTo, HW.out, seqD, turnF, HX.out, HRS.out]
              simp
            have HS := Lib.hid hstep
            clear hstep
            cases ok with
            | false =>
              go_wp2_with fail
              refine Fin.intro ⟨by kernel_rfl, ?_⟩
              go_wp2_with fail
              go_ret
              rw [turn_1 ((wroteTo_stop (turnF D b c L) D (k + 1) (by rw [HS.out]) b (by omega)).trans HS.out)]
              exact ⟨rfl, h4, (Fr.below hb0.out).of (hfd.trans hf4) (fun i hi h => h)⟩
            | true =>
              go_wp2_with fail
              refine Fin.intro ⟨by kernel_rfl, ?_⟩
              go_wp2_with fail
              go_roundw
              case rel => exact ⟨k + 1, D', by omega, by go_num, HS.out, h4, hfd.trans hf4⟩
              case measure => simp [intOf]; omega
        · obtain rfl : k = b := by omega
          have HT := Lib.hid (turn_2 HW.out)
          have hfo := (Fr.below hb0.out).of hf1 (fun i hi h => h)
          clear hown hrelm hall hKo
          go_wp2_with fail
          refine KK.wp_region_segK (KK.Kp [⟨v, 0, none⟩]) (KK.Kp.rel _) [14, 21] [[0, 1, 2, 3, 4], [5, 6, 7, 8, 9, 10, 11, 12, 13], [14, 15, 16, 17, 18, 19, 20, 21, 22, 23]] (by kernel_rfl) (by kernel_rfl) ?_
          simp only [KK.Seg, pick_cons, pick_nil, List.getElem?_toArray, List.getElem?_cons_zero, List.getElem?_cons_succ, Option.toList_some, List.cons_append, List.nil_append]
          have y0 : wr.drew.cell? ⟨v, 0, none⟩ = some (.pointer (some ⟨g, 0, none⟩)) := cell_of_row wr v 0 _ 65 (0, 0) hvr
          have hDd := h1.below (below_drew wr)
          have hvd : VolAt wr.drew v g k (c : Int) br := hvr
          have hfd : Fr (two g gl) w wr.drew := hfo.trans (Fr.below (below_drew wr))
          clear hvr hfo x0 x1 x2 hf1
          generalize wr.drew = wd at *
          have hsy := sync_k g gl Dk wd hDd
          generalize hres : Dk.sync = res at hsy
          obtain ⟨ok1, D1⟩ := res
          have HR1 := Lib.hid hres
          clear hres
          dsimp only at hsy
          go_wp2_with fail
          refine hsy.mono ?_
          rintro e w1 ⟨rfl, h1', hf1⟩
          clear hsy
          have hv1 : VolAt w1 v g k (c : Int) br := hf1.same hvd hS0
          have z0 : w1.cell? ⟨v, 0, none⟩ = some (.pointer (some ⟨g, 0, none⟩)) := cell_of_row w1 v 0 _ 65 (0, 0) hv1
          cases ok1 with
          | false =>
            go_wp2_with fail
            refine Fin.intro ⟨⟨by kernel_rfl, KK.loads_one (j := 3) (by kernel_rfl) rfl (KK.stab_loadOp (ad := ⟨v, 0, none⟩) List.mem_cons_self rfl rfl (by kernel_rfl))⟩, KK.Kp.one y0 z0, ?_⟩
            go_wp2_with fail
            refine Fin.intro ⟨⟨by kernel_rfl, KK.loads_one (j := 9) (by kernel_rfl) rfl (stab_undef rfl rfl)⟩, KK.Kp.one z0 z0, ?_⟩
            go_wp2_with fail
            refine Fin.intro ⟨⟨by kernel_rfl, KK.loads_one (j := 20) (by kernel_rfl) rfl (stab_undef rfl rfl)⟩, ?_⟩
            go_wp2_with fail
            go_ret
            rw [HT.out, HR1.out, seq_false, seq_false]
            exact ⟨rfl, h1', hfd.trans hf1⟩
          | true =>
            have hk1 : Kg w1 := hK.fr (hfd.trans hf1) h0
            have hh := head_o (c + 1) (by omega) w1 hk1
            rw [show ((c + 1 : Nat) : Int) = (c : Int) + 1 by simp] at hh
            go_wp2_with fail
            refine Fin.intro ⟨⟨by kernel_rfl, KK.loads_one (j := 3) (by kernel_rfl) rfl (KK.stab_loadOp (ad := ⟨v, 0, none⟩) List.mem_cons_self rfl rfl (by kernel_rfl))⟩, KK.Kp.one y0 z0, ?_⟩
            go_wp2_with fail
            refine hh.mono ?_
            rintro e w2 ⟨A5, c5, rfl, hc5, ho5, hb5⟩
            clear hh
            have h2' := h1'.below hb5
            have hv2 : VolAt w2 v g k (c : Int) br := (hb5.block v (Array.getElem?_eq_some_iff.1 hv1).1).trans hv1
            have z2 : w2.cell? ⟨v, 0, none⟩ = some (.pointer (some ⟨g, 0, none⟩)) := cell_of_row w2 v 0 _ 65 (0, 0) hv2
            have hf2 : Fr (two g gl) w w2 := (hfd.trans hf1).trans (Fr.below hb5)
            have hl1 : D1.secs.length = D.secs.length := by have := sync_len Dk; rw [HR1.out] at this; exact this.trans hlk
            have hwr := write_k g gl D1 ((c + 1) % 2) (hd (c + 1)) A5 c5 w2 h2' (by omega) (hd_len _) (Rd5.own ho5)
            rw [show (((c + 1) % 2 : Nat) : Int) = ((c : Int) + 1) % 2 by omega] at hwr
            generalize hres : D1.write ((c + 1) % 2) (hd (c + 1)) = res at hwr
            obtain ⟨ok2, D2⟩ := res
            have HR2 := Lib.hid hres
            clear hres
            dsimp only at hwr
            go_wp2_with fail
            refine Fin.intro ⟨⟨by kernel_rfl, KK.loads_one (j := 9) (by kernel_rfl) rfl (KK.stab_loadOp (ad := ⟨v, 0, none⟩) List.mem_cons_self rfl rfl (by kernel_rfl))⟩, KK.Kp.one z0 z2, ?_⟩
            go_wp2_with fail
            refine hwr.mono ?_
            rintro e w3 ⟨rfl, h3, hf3⟩
            clear hwr
            have hv3 : VolAt w3 v g k (c : Int) br := hf3.same hv2 hS0
            have z3 : w3.cell? ⟨v, 0, none⟩ = some (.pointer (some ⟨g, 0, none⟩)) := cell_of_row w3 v 0 _ 65 (0, 0) hv3
            cases ok2 with
            | false =>
              go_wp2_with fail
              refine Fin.intro ⟨⟨by kernel_rfl, KK.loads_one (j := 20) (by kernel_rfl) rfl (stab_undef rfl rfl)⟩, ?_⟩
              go_wp2_with fail
              go_ret
              rw [HT.out, HR1.out, seq_true, HR2.out, seq_false]
              exact ⟨rfl, h3, hf2.trans hf3⟩
            | true =>
              have hsy := sync_k g gl D2 w3 h3
              generalize hres : D2.sync = res at hsy
              obtain ⟨ok3, D3⟩ := res
              have HR3 := Lib.hid hres
              clear hres
              dsimp only at hsy
              go_wp2_with fail
              refine hsy.mono ?_
              rintro e w4 ⟨rfl, h4, hf4⟩
              clear hsy
              go_wp2_with fail
              refine Fin.intro ⟨⟨by kernel_rfl, KK.loads_one (j := 20) (by kernel_rfl) rfl (KK.stab_loadOp (ad := ⟨v, 0, none⟩) List.mem_cons_self rfl rfl (by kernel_rfl))⟩, ?_⟩
              go_wp2_with fail
              go_ret
              rw [HT.out, HR1.out, seq_true, HR2.out, seq_true, HR3.out]
              exact ⟨by first | rfl | simp, h4, (hf2.trans hf3).trans hf4⟩
end Go.Proofs.YtbjbjnbloddioaaDoor
