/- begun: one commit is kept. -/
import Derived.Test.YtbjbjnbloddioaaDoorLa
set_option linter.unusedVariables false
set_option linter.unusedSimpArgs false
namespace Go.Proofs.YtbjbjnbloddioaaDoor
open Go.RowKit Go.Shelf

/-- A mount of a good disk. -/
theorem mountR_good {w w' : World} {g : Nat} {D : DiskD} {b n : Nat} {m : List (List UInt8)} {e : Ending} (h : Good D b n m) (hf : D.dead = false) (hR : MountR w g D e w') :
    ∃ v, e = .returned (.tuple #[.pointer (some ⟨v, 0, none⟩), .int .i64 0]) ∧ w.heap.size ≤ v ∧ VolAt w' v g b (n : Int) false := by
  have hr : D.refused = 0 := by
    unfold DiskD.refused
    rw [if_neg (by have := h.a.lo; omega), hf]
    rfl
  unfold MountR at hR
  rw [if_neg (by rw [hr]; simp), h.a.mount, if_neg (by omega), ← h.a.hb] at hR
  exact hR
theorem good_vat {w : World} {v g gl : Nat} {D : DiskD} {b n : Nat} {m : List (List UInt8)} {br : Bool} (h : Good D b n m) (hD : DiskAt w g gl D) (hv : VolAt w v g b (n : Int) br) : VAt w v g gl ⟨D, b, n, br⟩ :=
  ⟨hv, hD, by have := h.a.hb; have := h.a.lo; show 8 + 2 * b ≤ D.secs.length; omega, h.a.small⟩
theorem good_b {D : DiskD} {b n : Nat} {m : List (List UInt8)} (h : Good D b n m) : 8 + 2 * b ≤ D.secs.length := by have := h.a.hb; have := h.a.lo; omega
/-- A block of a good disk. -/
theorem good_sec {D : DiskD} {b n : Nat} {m : List (List UInt8)} (h : GoodA D.at_ D.secs.length b n m) {i : Nat} (hi : i < b) : ∃ s, D.secs[sideN b n i]? = some s ∧ m[i]? = some s.now := by
  have hlt : sideN b n i < D.secs.length := sideN_lt hi (by have := h.hb; have := h.lo; omega)
  have e := List.getElem?_eq_getElem hlt
  exact ⟨_, e, by rw [h.data i hi, at_get e]⟩
/-- One put. -/
theorem puts_one {w : World} {gp : Nat} {bi : Int} {A : Option Addr} {c : Nat} {x : List UInt8} (h : w.heap[gp]? = some (.cells #[.int .i64 bi, .slice A x.length c] 30 (0, 0))) (hc : x.length ≤ c) (hr : Rd5 w A x) : PutsAt w (some ⟨gp, 0, none⟩) [(bi, x)] := fun j p hp => by
  match j, hp with
  | 0, hp =>
    injection hp with hp
    subst hp
    exact ⟨gp, 0, _, A, c, rfl, h, rfl, rfl, hc, hr⟩
  | j + 1, hp => cases hp
/-- A commit on a good disk with no fuse. -/
theorem commit_free {D : DiskD} {b n : Nat} {m : List (List UInt8)} {L : List (Int × List UInt8)} (h : Good D b n m) (hf : D.fuse = none) (hn : n + 1 < 900000) (hm : mayB L b = true) (hL : L ≠ []) :
    (VolD.commit ⟨D, b, n, false⟩ L).1 = 0 ∧ ∃ D', (VolD.commit ⟨D, b, n, false⟩ L).2 = ⟨D', b, n + 1, false⟩ ∧ Good D' b (n + 1) (applyM m L) ∧ D'.fuse = none ∧ D'.secs.length = D.secs.length := by
  have ht := turn_good h L hn
  unfold VolD.commit
  rw [if_neg (by rw [hm]; simp), if_neg hL, if_neg (by simp)]
  dsimp only
  generalize D.turn b n L = r at ht
  obtain ⟨ok, D'⟩ := r
  obtain ⟨rfl, hf'⟩ := ht.free hf
  exact ⟨rfl, D', rfl, ht.yes rfl, hf', ht.len⟩
theorem crash_free (D : DiskD) (kf : Nat → Bool) : (D.crash kf).fuse = none := rfl

set_option maxRecDepth 100000 in
set_option maxHeartbeats 3200000 in
theorem begun_o (w : World) (hK : Kg w) : Calls Tryd.prog 11 #[] w (fun e w' => e = .returned (.bool true) ∧ Below w.heap.size w w') := by
  have hK0 := hK.pos
  go_enter Tryd.func11, Tryd.ntmps11
  go_wp2_with fail
  refine (newd_o 32 (by omega) (by omega) w).mono ?_
  rintro e w1 ⟨g, gl, rfl, hg, hgl, hD1, hb1⟩
  have hK1 := hK.below hb1 hK0
  have h00 : ¬ two g gl 0 := by rintro (e | e) <;> omega
  go_wp2_with fail
  refine (format_o g gl _ w1 hD1 hK1 h00).mono ?_
  obtain ⟨f1, f2, f3, f4⟩ := fmt_free (new_zero 32) (by rw [new_len]; omega) (rfl : (DiskD.new 32).fuse = none)
  rw [new_len] at f2 f4
  rw [f1]
  generalize (DiskD.new 32).format.2 = D2 at f2 f3 f4
  rintro e w2 ⟨rfl, hD2, hf2⟩
  have hb2 : Below w.heap.size w w2 := hb1.trans (hf2.to (fun k hk => by rcases hk with rfl | rfl <;> assumption) hb1.size)
  have hK2 := hK.below hb2 hK0
  go_wp2_with fail
  refine (mount_o g gl D2 w2 hD2 hK2 f2.a.heads.1 f2.a.heads.2).mono ?_
  rintro e w3 ⟨hR, hb3⟩
  obtain ⟨v, rfl, hv, hvol⟩ := mountR_good f2 (free_dead f3) hR
  have hb3w : Below w.heap.size w w3 := hb2.trans (hb3.mono hb2.size)
  have hD3 := hD2.below hb3
  clear hR
  have hcv := Lib.run_convert_bytes_const (P := Tryd.prog) w3 28 5 #[.int .u8 120] 1 1 Tryd.underlying28 Tryd.underlying5
  have hk4 := heap_alloc_new w3 (.cells #[.int .u8 120] 5 (1, 2))
  have hb4 := below_alloc w3 (.cells #[.int .u8 120] 5 (1, 2))
  have hfull := full_o [120] 256 (by omega) (some ⟨w3.heap.size, 0, none⟩) 1 (w3.alloc (.cells #[.int .u8 120] 5 (1, 2))) (by have := Rd.blk hk4; have e : bvs [120] = [.int .u8 120] := rfl; rw [e]; exact this) (by simp)
  have HF := Lib.hid hfull
  have HB4 := Lib.hid hb4
  clear hfull hk4 hb4
  go_wp2_with fail
  refine HF.out.mono ?_
  rintro e w5 ⟨gf, rfl, hgf, hrow, hb5⟩
  clear HF hcv
  have hb5w : Below w3.heap.size w3 w5 := HB4.out.trans (hb5.mono HB4.out.size)
  have hvlt : v < w3.heap.size := (Array.getElem?_eq_some_iff.1 hvol).1
  have hlf : (fullB [120] 256).length = 256 := fullB_len _ _
  replace f2 : Good D2 12 0 (List.replicate 12 (zs 256)) := f2
  replace hvol : VolAt w3 v g 12 ((0 : Nat) : Int) false := hvol
  have hbc := below_alloc w5 (.cells #[.int .i64 3, .slice (some ⟨gf, 0, none⟩) 256 256] 30)
  have hkc := heap_alloc_new w5 (.cells #[.int .i64 3, .slice (some ⟨gf, 0, none⟩) 256 256] 30)
  have hb35 : Below w3.heap.size w3 (w5.alloc (.cells #[.int .i64 3, .slice (some ⟨gf, 0, none⟩) 256 256] 30)) := hb5w.trans (hbc.mono hb5w.size)
  have hgfl : gf < w5.heap.size := (Array.getElem?_eq_some_iff.1 hrow).1
  have hrx : Rd5 (w5.alloc (.cells #[.int .i64 3, .slice (some ⟨gf, 0, none⟩) 256 256] 30)) (some ⟨gf, 0, none⟩) (fullB [120] 256) := Rd5.blk ((hbc.block gf hgfl).trans hrow)
  have hbw : Below w.heap.size w (w5.alloc (.cells #[.int .i64 3, .slice (some ⟨gf, 0, none⟩) 256 256] 30)) := hb3w.trans (hb35.mono hb3w.size)
  have hVA := good_vat f2 (hD3.below hb35) ((hb35.block v hvlt).trans hvol)
  have hx9 : (fullB [120] 256)[9]? = some 120 := by decide
  generalize fullB [120] 256 = X at *
  have hmay : mayB [((3 : Int), X)] 12 = true := by simp [mayB, putOK, hlf]
  have hput := puts_one (bi := 3) (x := X) (by rw [hlf]; exact hkc) (by omega) hrx
  obtain ⟨c1, D6, c2, c3, c4, c5⟩ := commit_free f2 f3 (by omega) hmay (by simp)
  have hvp : 0 < v := by have := hb2.size; omega
  have hv0 : ¬ three v g gl 0 := by rintro (e | e | e) <;> omega
  have hcm := commit_o v g gl ⟨D2, 12, 0, false⟩ (some ⟨w5.heap.size, 0, none⟩) 1 [((3 : Int), X)] _ hVA hput (by simp) (hK.below hbw hK0) hv0 (by show 0 + 1 < 900000; omega)
  rw [c1, c2] at hcm
  have hcm' : Calls Tryd.prog 10 #[.pointer (some ⟨v, 0, none⟩), .slice (some ⟨w5.heap.size, 0, none⟩) 1 1] (w5.alloc (.cells #[.int .i64 3, .slice (some ⟨gf, 0, none⟩) 256 256] 30)) (fun e w' => e = .returned (.int .i64 0) ∧ VAt w' v g gl ⟨D6, 12, 1, false⟩ ∧ Fr (three v g gl) (w5.alloc (.cells #[.int .i64 3, .slice (some ⟨gf, 0, none⟩) 256 256] 30)) w') := hcm
  have hbw' := Lib.hid hbw
  have hm3 : (applyM (List.replicate 12 (zs 256)) [((3 : Int), X)])[3]? = some X := by
    simp [applyM, lastB]
  clear hcm hbw hrx hkc hbc hVA hput hb35
  go_wp2_with fail
  refine hcm'.mono ?_
  rintro e w6 ⟨rfl, hVA6, hf6⟩
  have hb6 : Below w.heap.size w w6 := hbw'.out.trans (hf6.to (fun k hk => by rcases hk with rfl | rfl | rfl <;> first | assumption | (have := hb2.size; omega)) hbw'.out.size)
  have hD6 : DiskAt w6 g gl D6 := hVA6.disk
  have hcr := crash_o g gl D6 .nilFunc (fun _ => false) w6 hD6 (by rw [c5, f4]; omega) (.inl ⟨rfl, fun _ => rfl⟩)
  clear hcm'
  go_wp2_with fail
  refine hcr.mono ?_
  rintro e w7 ⟨g', gl', rfl, hg', hgl', hD7, hb7⟩
  clear hcr
  have hG7 := c3.crash (fun _ => false)
  have hF7 := crash_free D6 (fun _ => false)
  generalize D6.crash (fun _ => false) = D7 at hD7 hG7 hF7
  have hb7w : Below w.heap.size w w7 := hb6.trans (hb7.mono hb6.size)
  go_wp2_with fail
  refine (mount_o g' gl' D7 w7 hD7 (hK.below hb7w hK0) hG7.a.heads.1 hG7.a.heads.2).mono ?_
  rintro e w8 ⟨hR, hb8⟩
  obtain ⟨v', rfl, hv', hvol'⟩ := mountR_good hG7 (free_dead hF7) hR
  clear hR
  have hb8w : Below w.heap.size w w8 := hb7w.trans (hb8.mono hb7w.size)
  have hD8 := hD7.below hb8
  obtain ⟨s, hs1, hs2⟩ := good_sec hG7.a (i := 3) (by omega)
  have hsX : s.now = X := by rw [hm3] at hs2; injection hs2 with hs2; exact hs2.symm
  have hrd := fun w (hv : VolAt w v' g' 12 ((1 : Nat) : Int) false) hD => vread_o v' g' gl' 12 1 false D7 3 (by omega) (by omega) (by omega) s hs1 w hv hD
  rw [hsX] at hrd
  go_wp2_with fail
  refine (hrd w8 hvol' hD8).mono ?_
  rintro e w9 ⟨A9, c9, rfl, hc9, ho9, hb9⟩
  have hv9 : VolAt w9 v' g' 12 ((1 : Nat) : Int) false := (hb9.block v' (Array.getElem?_eq_some_iff.1 hvol').1).trans hvol'
  have hD9 := hD8.below hb9
  clear ho9
  go_wp2_with fail
  refine (hrd w9 hv9 hD9).mono ?_
  rintro e w10 ⟨A10, c10, rfl, hc10, ho10, hb10⟩
  have hv10 : VolAt w10 v' g' 12 ((1 : Nat) : Int) false := (hb10.block v' (Array.getElem?_eq_some_iff.1 hv9).1).trans hv9
  obtain ⟨ga, cap, ev, _⟩ := ho10.form (by omega)
  injection ev with eA _ ec
  subst eA
  have hb10w : Below w.heap.size w w10 := (hb8w.trans (hb9.mono hb8w.size)).trans (hb10.mono (hb8w.trans (hb9.mono hb8w.size)).size)
  have c9' : w10.cell? ⟨ga, 9, none⟩ = some (.int .u8 120) := by
    have := (Rd.own ho10).at_ 9 (u := .int .u8 120) (by unfold bvs; rw [List.getElem?_map, hx9]; rfl)
    simpa using this
  clear hrd ho10 hx9
  go_wp2_with fail
  refine (commits_o v' g' 12 ((1 : Nat) : Int) false w10 hv10).mono ?_
  rintro e _ ⟨rfl, rfl⟩
  go_wp2_with fail
  refine (blocks_o v' g' 12 ((1 : Nat) : Int) false w10 hv10).mono ?_
  rintro e _ ⟨rfl, rfl⟩
  go_wp2_with fail
  go_ret
  exact ⟨rfl, hb10w⟩
end Go.Proofs.YtbjbjnbloddioaaDoor
