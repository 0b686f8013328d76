/- The heads that stand on a disk, gone over. -/
import Derived.Test.YtbjbjnbloddioaaDoorFi
import Derived.Test.YtbjbjnbloddioaaDoorNa
set_option linter.unusedVariables false
set_option linter.unusedSimpArgs false
namespace Go.Proofs.YtbjbjnbloddioaaDoor
open Go.RowKit Go.Shelf
attribute [local go_sem] Oper.semAt_some

/-- What stood at first stands, but for one block. -/
abbrev KbC (w0 : World) (cb : Nat) : World → World → Prop := Kb (fun k => k < w0.heap.size ∧ k ≠ cb)
section
variable {w0 W : World} {cb g gl : Nat} {D : DiskD} {b : List UInt8} {v : Value} {A : Option Addr}
theorem KbC.same (hk : KbC w0 cb w0 W) {k : Nat} {o : Obj} (h : w0.heap[k]? = some o) (hne : k ≠ cb) : W.heap[k]? = some o := by
  have hl := (Array.getElem?_eq_some_iff.1 h).1
  exact (hk.2 k ⟨hl, hne⟩ hl).trans h
theorem Rd5.kb (h : Rd5 w0 A b) (hk : KbC w0 cb w0 W) (hc : ∀ cs, w0.heap[cb]? ≠ some (.cells cs 5 (0, 0))) : Rd5 W A b := fun j u hu => by
  obtain ⟨g, o, cs, e, hg, hcs⟩ := h j u hu
  exact ⟨g, o, cs, e, hk.same hg (fun e => hc cs (e ▸ hg)), hcs⟩
theorem SecV.kb (h : SecV w0 v b) (hk : KbC w0 cb w0 W) (hc : ∀ cs, w0.heap[cb]? ≠ some (.cells cs 5 (0, 0))) : SecV W v b := by
  obtain ⟨hl, h | ⟨A, c, e, hcc, hr⟩⟩ := h
  · exact ⟨hl, .inl h⟩
  · exact ⟨hl, .inr ⟨A, c, e, hcc, hr.kb hk hc⟩⟩
theorem DiskAt.kb (h : DiskAt w0 g gl D) (hk : KbC w0 cb w0 W) {x : Array Value} {fr : Nat × Nat} (hc : w0.heap[cb]? = some (.cells x 3 fr)) : DiskAt W g gl D := by
  obtain ⟨cnt, hd⟩ := h.dk
  obtain ⟨cs, hs, hz, hcc⟩ := h.ss
  have n5 : ∀ cs, w0.heap[cb]? ≠ some (.cells cs 5 (0, 0)) := fun cs e => by
    rw [hc] at e; injection e with e; injection e with _ e _; exact absurd e (by decide)
  have ng : g ≠ cb := fun e => by
    subst e; rw [hd] at hc; injection hc with e; injection e with _ e _; exact absurd e (by decide)
  have ngl : gl ≠ cb := fun e => by
    subst e; rw [hs] at hc; injection hc with e; injection e with _ e _; exact absurd e (by decide)
  refine ⟨⟨cnt, hk.same hd ng⟩, ⟨cs, hk.same hs ngl, hz, fun i s hi => ?_⟩, h.small, h.len⟩
  obtain ⟨nv, sv, h1, h2, h3, h4, h5⟩ := hcc i s hi
  exact ⟨nv, sv, h1, h2, h3, h4.kb hk n5, h5.kb hk n5⟩
theorem Kg.kb (h : Kg w0) (hk : KbC w0 cb w0 W) (hc : cb ≠ 0) : Kg W := fun i hi => by
  have := h i hi
  rw [← this]
  have hb := hk.2 0 ⟨h.pos, hc.symm⟩ h.pos
  simp [World.cell?, hb]
theorem KbC.below {W' : World} (h : KbC w0 cb w0 W) (hb : Below W.heap.size W W') : KbC w0 cb w0 W' :=
  h.trans ⟨hb.size, fun k hk hl => hb.block k hl⟩
end
/-- What a head's place says: how many commits; whether it is whole. -/
def hdN (b : List UInt8) : Nat := beV ((b.drop 16).take 8)
def whole (b : List UInt8) (i : Nat) : Bool := hdN b % 2 == i && b == hd (hdN b)
def recOf (D : DiskD) (i : Nat) : Int × Bool := ((hdN (D.at_ i) : Nat), whole (D.at_ i) i)
theorem eight8 {l : List UInt8} (h : 8 ≤ l.length) : ∃ b0 b1 b2 b3 b4 b5 b6 b7 r, l = b0 :: b1 :: b2 :: b3 :: b4 :: b5 :: b6 :: b7 :: r := by
  match l, h with
  | b0 :: b1 :: b2 :: b3 :: b4 :: b5 :: b6 :: b7 :: r, _ => exact ⟨b0, b1, b2, b3, b4, b5, b6, b7, r, rfl⟩
/-- What is handed over. -/
def GR (D : DiskD) (pre : List (Int × Bool)) (x : Int × Bool) (W : World) : Prop := pre.length < 2 ∧ x = recOf D pre.length
theorem get64_at (b : List UInt8) (hb : b.length = 256) (ga : Nat) (c : Nat) (w : World) (h : Rd w (some ⟨ga, 0, none⟩) (bvs b)) :
    Calls Tryd.prog 44 #[.slice (some ⟨ga, 16, none⟩) 240 c] w (fun e w' => e = .returned (.int .u64 (hdN b : Int)) ∧ w' = w.drew) := by
  obtain ⟨b0, b1, b2, b3, b4, b5, b6, b7, r, hr⟩ := eight8 (l := b.drop 16) (by simp; omega)
  have hd := h.drop 16
  rw [show (bvs b).drop 16 = bvs (b.drop 16) by simp [bvs], hr] at hd
  have hl : 240 = r.length + 8 := by
    have := congrArg List.length hr
    simp at this
    omega
  have := get64_o b0 b1 b2 b3 b4 b5 b6 b7 r (some ⟨ga, 16, none⟩) c w (by simpa [add_lit] using hd) 240 hl
  unfold hdN
  rw [hr]
  exact this

set_option maxRecDepth 100000 in
set_option maxHeartbeats 3200000 in
theorem recs_in (n : Nat) (hn : 1 ≤ n) (l' p cb g gl : Nat) (D : DiskD) (w0 : World) (h : DiskAt w0 g gl D) (hK : Kg w0) (hcb : ∃ x fr, w0.heap[cb]? = some (.cells x 3 fr)) (hcb0 : cb ≠ 0) (hp : w0.heap[p]? = some (.cells #[.pointer (some ⟨g, 0, none⟩)] 35 (0, 0)))
    (hlen : 2 ≤ D.secs.length) (hb0 : hdN (D.at_ 0) < 1000000) (hb1 : hdN (D.at_ 1) < 1000000)
    (J Jx : List (Int × Bool) → World → Prop) (W : World) (hJ : AbidesFrom W.heap.size J)
    (hY : ∀ pre x W, J pre W → GR D pre x W → YieldAt Fence.wide (n - 1) Tryd.prog l' #[.int .i64 x.1, .bool x.2] W fun e W' =>
      (e = .returned (.bool true) ∧ J (pre ++ [x]) W' ∧ KbC w0 cb W W') ∨ (e = .returned (.bool false) ∧ Jx (pre ++ [x]) W'))
    (hW : KbC w0 cb w0 W) (h0 : J [] W) :
    CallsIn Fence.wide n Tryd.prog 43 #[.func (.yield l') #[] #[], .pointer (some ⟨p, 0, none⟩)] W fun e W' => (∃ v, e = .returned v) ∧
      ((∃ ys : List (Int × Bool), ys.length = 2 ∧ J ys W') ∨ (∃ pre, Jx pre W')) := by
  refine callsIn_of_wp Tryd.func43 rfl trivial ?_ rfl
  simp only [Tryd.ntmps43, List.size_toArray, List.length_cons, List.length_nil, Nat.reduceAdd, Nat.reduceSub, Array.replicate_succ, Array.replicate_zero, List.push_toArray, List.append_toArray, List.nil_append, List.cons_append]
  obtain ⟨cx, cfr, hcx⟩ := hcb
  have hpc : p ≠ cb := fun e => by subst e; rw [hp] at hcx; injection hcx with e; injection e with _ e _; exact absurd e (by decide)
  gi_wp2
  gi_loopw [6] (fun i wr => ∃ k : Nat, k ≤ 2 ∧ i = .int .i64 k ∧ (∃ pre, pre.length = k ∧ J pre wr) ∧ KbC w0 cb w0 wr ∧ W.heap.size ≤ wr.heap.size) (fun i _ => 2 - (intOf i).toNat)
  case atStart => exact ⟨0, by omega, rfl, ⟨[], rfl, h0⟩, hW, Nat.le_refl _⟩
  case round =>
    obtain ⟨k, hk, rfl, ⟨pre, hpre, hJs⟩, hkb, hzk⟩ := hrel
    by_cases hlt : k < 2
    · have hs : D.secs[k]? = some D.secs[k] := List.getElem?_eq_getElem (by omega)
      have hdr := h.kb hkb hcx
      have hlb := (sec_len hdr hs).1
      have hat := at_get hs
      have hrd := read_o g gl D k _ hs wr hdr
      have hN : hdN D.secs[k].now < 1000000 := by
        rw [← hat]
        rcases (show k = 0 ∨ k = 1 by omega) with rfl | rfl
        · exact hb0
        · exact hb1
      have hrec : recOf D k = (((hdN D.secs[k].now : Nat) : Int), whole D.secs[k].now k) := by unfold recOf; rw [hat]
      generalize D.secs[k].now = b at hrd hlb hN hrec
      have hYk := hY pre
      have HR := Lib.hid hrec
      have cp : wr.cell? ⟨p, 0, none⟩ = some (.pointer (some ⟨g, 0, none⟩)) := cell_of_row wr p 0 _ 35 (0, 0) (hkb.same hp hpc)
      clear hs hat hrec hdr hb0 hb1
      gi_wp2_with (refine ⟨trivial, ?_⟩; gi_at_call 35; refine (callsIn_wide.2 hrd).mono ?_; refine Stop.out ?_)
      refine Stop.mk ?_
      first | rintro e w1 A1 c1 rfl hc1 ho1 hb1 | rintro e w1 ⟨A1, c1, rfl, hc1, ho1, hb1⟩
      obtain ⟨ga, cap, ev, _⟩ := ho1.form (by omega)
      injection ev with eA _ ec
      subst eA
      subst ec
      have hg64 := get64_at b hlb ga (c1 - 16) w1 (Rd.own ho1)
      have hkb1 := hkb.below hb1
      have hc16 : ¬ c1 = 16 := by omega
      have hwh : whole b k = (hdN b % 2 == k && b == hd (hdN b)) := rfl
      generalize hdN b = nn at hN HR hg64 hwh
      have HWH := Lib.hid hwh
      clear hwh hrd cp
      gi_wp2_with (refine ⟨trivial, ?_⟩; gi_at_call 44; refine (callsIn_wide.2 hg64).mono ?_; refine Stop.out ?_)
      refine Stop.mk ?_
      first | rintro e w2 rfl rfl | rintro e w2 ⟨rfl, rfl⟩
      clear hg64
      have hkb2 := hkb1.below (below_drew w1)
      have ho2 : w1.drew.ownsRow wr.heap.size 5 1 (.slice (some ⟨ga, 0, none⟩) 256 c1) 256 (bvs b) := ho1
      have hJ2 : J pre w1.drew := hJ pre wr w1.drew none hJs (grown_of_below (hb1.trans ((below_drew w1).mono hb1.size))) (by simp)
      have hz2 : W.heap.size ≤ w1.drew.heap.size := Nat.le_trans hzk hb1.size
      clear hkb1 ho1 hb1
      generalize w1.drew = wd at *
      by_cases hq : (nn : Int) % 2 = (k : Int)
      · have hq' : (nn % 2 == k) = true := by simp; omega
        have hh := head_o nn hN wd (hK.kb hkb2 hcb0)
        gi_wp2_with (refine ⟨trivial, ?_⟩; gi_at_call 31; refine (callsIn_wide.2 hh).mono ?_; refine Stop.out ?_)
        refine Stop.mk ?_
        first | rintro e w3 A3 c3 rfl hc3 ho3 hb3 | rintro e w3 ⟨A3, c3, rfl, hc3, ho3, hb3⟩
        have heq := equal_o b (hd nn) (some ⟨ga, 0, none⟩) A3 c1 c3 w3 ((Rd.own ho2).below hb3) (Rd.own ho3)
        rw [hlb, hd_len] at heq
        have hkb3 := hkb2.below hb3
        have hJ3 : J pre w3 := hJ pre wd w3 none hJ2 (grown_of_below hb3) (by simp)
        have hz3 := Nat.le_trans hz2 hb3.size
        have hYs : recOf D k = ((nn : Int), (b == hd nn)) := by rw [HR.out, HWH.out, hq']; simp
        generalize (b == hd nn) = eq at heq hYs
        have HYS := Lib.hid hYs
        clear hYs hJ2 hkb2 ho2 ho3 hb3 hz2 hh
        gi_wp2_with (refine ⟨trivial, ?_⟩; gi_at_call 38; refine (callsIn_wide.2 heq).mono ?_; refine Stop.out ?_)
        refine Stop.mk ?_
        first | rintro e w4 rfl rfl | rintro e w4 ⟨rfl, rfl⟩ | skip
        clear heq
        obtain ⟨fn, tmps, asg, bdy, hy, hR⟩ := hYk ((nn : Int), eq) w3 hJ3 ⟨by rw [hpre]; exact hlt, by rw [hpre, HYS.out]⟩
        dsimp only at hy
        gi_wp2
        refine hR.mono ?_
        rintro e W3 (⟨rfl, hJ3, hk3⟩ | ⟨rfl, hJx3⟩)
        · gi_wp2
          go_roundw
          case rel => exact ⟨k + 1, by omega, by go_num, ⟨_, by simp [hpre], hJ3⟩, hkb3.trans hk3, Nat.le_trans hz3 hk3.1⟩
          case measure => simp [intOf]; omega
        · gi_wp2
          refine bodyPost_ret (results_none rfl _ _ _) rfl ?_
          exact ⟨⟨_, rfl⟩, .inr ⟨_, hJx3⟩⟩
      · have hq' : (nn % 2 == k) = false := by simp; omega
        obtain ⟨fn, tmps, asg, bdy, hy, hR⟩ := hYk ((nn : Int), false) wd hJ2 ⟨by rw [hpre]; exact hlt, by rw [hpre, HR.out, HWH.out, hq']; rfl⟩
        dsimp only at hy
        gi_wp2
        refine ⟨trivial, ?_⟩
        gi_wp2
        refine ⟨trivial, ?_⟩
        gi_wp2
        refine hR.mono ?_
        rintro e W3 (⟨rfl, hJ3, hk3⟩ | ⟨rfl, hJx3⟩)
        · gi_wp2
          go_roundw
          case rel => exact ⟨k + 1, by omega, by go_num, ⟨_, by simp [hpre], hJ3⟩, hkb2.trans hk3, Nat.le_trans hz2 hk3.1⟩
          case measure => simp [intOf]; omega
        · gi_wp2
          refine bodyPost_ret (results_none rfl _ _ _) rfl ?_
          exact ⟨⟨_, rfl⟩, .inr ⟨_, hJx3⟩⟩
    · gi_wp2
      refine bodyPost_end (results_none rfl _ _ _) rfl ?_
      exact ⟨⟨_, rfl⟩, .inl ⟨pre, by omega, hJs⟩⟩

theorem gr_put (D : DiskD) : ∀ (pre : List (Int × Bool)) (x : Int × Bool) (W : World) (k : Nat) (o o' : Obj), GR D pre x W → W.heap[k]? = some o → o.isCells = false → GR D pre x (W.putObj k o') := fun _ _ _ _ _ _ h _ _ => h
theorem recs_told (n : Nat) (hn : 1 ≤ n) (p cb g gl : Nat) (D : DiskD) (w0 : World) (h : DiskAt w0 g gl D) (hK : Kg w0) (hcb : ∃ x fr, w0.heap[cb]? = some (.cells x 3 fr)) (hcb0 : cb ≠ 0) (hp : w0.heap[p]? = some (.cells #[.pointer (some ⟨g, 0, none⟩)] 35 (0, 0)))
    (hlen : 2 ≤ D.secs.length) (hb0 : hdN (D.at_ 0) < 1000000) (hb1 : hdN (D.at_ 1) < 1000000) :
    SeqG Fence.wide n Tryd.prog 43 #[.pointer (some ⟨p, 0, none⟩)] (fun x : Int × Bool => #[.int .i64 x.1, .bool x.2]) (KbC w0 cb) (fun A B => False) (GR D) (fun ys => ys.length = 2) w0 :=
  fun l' J Jx W hW hJ _ hY h0 => by
    rw [show (#[Value.func (.yield l') #[] #[]] ++ #[Value.pointer (some ⟨p, 0, none⟩)] : Array Value) = #[.func (.yield l') #[] #[], .pointer (some ⟨p, 0, none⟩)] by simp]
    exact recs_in n hn l' p cb g gl D w0 h hK hcb hcb0 hp hlen hb0 hb1 J Jx W hJ hY ⟨hW.size, fun k hk _ => hW.block k hk.1⟩ h0
set_option maxRecDepth 100000 in
theorem records_o (v : Value) (hv : ∃ a, v = .pointer a) (w : World) : Calls Tryd.prog 32 #[v] w (fun e w' => e = .returned (.func (.func 43) #[] #[.pointer (some ⟨w.heap.size, 0, none⟩)]) ∧ w' = w.alloc (.cells #[v] 35)) := by
  obtain ⟨a, rfl⟩ := hv
  go_enter Tryd.func32, Tryd.ntmps32
  go_wp2_with fail
  go_ret
  exact ⟨rfl, rfl⟩
end Go.Proofs.YtbjbjnbloddioaaDoor
