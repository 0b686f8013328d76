/- Format. -/
import Derived.Test.YtbjbjnbloddioaaDoorFh
set_option linter.unusedVariables false
set_option linter.unusedSimpArgs false
namespace Go.Proofs.YtbjbjnbloddioaaDoor
open Go.RowKit Go.Shelf

def seqD (r : Bool × DiskD) (f : DiskD → Bool × DiskD) : Bool × DiskD := if r.1 = true then f r.2 else r
/-- So many sectors written in turn, up to the first that fails. -/
def wroteTo (f : Nat → Nat × List UInt8) (D : DiskD) : Nat → Bool × DiskD
  | 0 => (true, D)
  | k + 1 => seqD (wroteTo f D k) fun D' => D'.wrote (f k).1 (f k).2
theorem wroteTo_stop (f : Nat → Nat × List UInt8) (D : DiskD) (k : Nat) (h : (wroteTo f D k).1 = false) : ∀ m, k ≤ m → wroteTo f D m = wroteTo f D k
  | 0, hm => by
    have : k = 0 := by omega
    subst this
    rfl
  | m + 1, hm => by
    by_cases e : k = m + 1
    · subst e; rfl
    · have := wroteTo_stop f D k h m (by omega)
      simp only [wroteTo, this, seqD, h]
      simp
theorem put_len (D : DiskD) (i : Nat) (b : List UInt8) : (D.put i b).secs.length = D.secs.length := by simp [DiskD.put]
theorem write_len (D : DiskD) (i : Nat) (b : List UInt8) : (D.write i b).2.secs.length = D.secs.length := by
  unfold DiskD.write
  split
  · rfl
  · exact put_len D i b
theorem wrote_len (D : DiskD) (i : Nat) (b : List UInt8) : (D.wrote i b).2.secs.length = D.secs.length := by
  unfold DiskD.wrote
  split
  · rfl
  · exact write_len D i b
theorem sync_len (D : DiskD) : D.sync.2.secs.length = D.secs.length := by
  unfold DiskD.sync
  split
  · rfl
  · simp [DiskD.done, DiskD.flush]
theorem wroteTo_len (f : Nat → Nat × List UInt8) (D : DiskD) : ∀ k, (wroteTo f D k).2.secs.length = D.secs.length
  | 0 => rfl
  | k + 1 => by
    simp only [wroteTo, seqD]
    split
    · rw [wrote_len, wroteTo_len f D k]
    · exact wroteTo_len f D k
def zf (o : Nat) (k : Nat) : Nat × List UInt8 := (o + k, zs 256)
/-- A format, without its refusal. -/
def DiskD.fmt (D : DiskD) : Bool × DiskD :=
  seqD (seqD (seqD (seqD (seqD (wroteTo (zf 0) D 2) DiskD.sync) fun D => wroteTo (zf 8) D ((D.secs.length - 8) / 2)) DiskD.sync) fun D => D.wrote 0 (hd 0)) DiskD.sync
def rvOf : Bool → Int
  | true => 0
  | false => 48
def DiskD.format (D : DiskD) : Int × DiskD := if D.refused = 0 then (rvOf D.fmt.1, D.fmt.2) else (D.refused, D)
theorem Kg.fr {S : Nat → Prop} {w w' : World} (h : Kg w) (hf : Fr S w w') (h0 : ¬ S 0) : Kg w' := fun i hi => by
  have := h i hi
  rw [← this]
  have hb := hf.block 0 h.pos h0
  simp [World.cell?, hb]
theorem seq_true {D : DiskD} {f : DiskD → Bool × DiskD} : seqD (true, D) f = f D := rfl
theorem seq_false {D : DiskD} {f : DiskD → Bool × DiskD} : seqD (false, D) f = (false, D) := rfl
theorem fmt_1 {D D1 : DiskD} (h : wroteTo (zf 0) D 2 = (false, D1)) : D.fmt = (false, D1) := by
  unfold DiskD.fmt
  simp [h, seqD]
theorem fmt_2 {D D1 D2 : DiskD} (h : wroteTo (zf 0) D 2 = (true, D1)) (h2 : D1.sync = (false, D2)) : D.fmt = (false, D2) := by
  unfold DiskD.fmt
  simp [h, seqD, h2]
theorem fmt_3 {D D1 D2 D3 : DiskD} (h : wroteTo (zf 0) D 2 = (true, D1)) (h2 : D1.sync = (true, D2)) (h3 : wroteTo (zf 8) D2 ((D.secs.length - 8) / 2) = (false, D3)) : D.fmt = (false, D3) := by
  have e : D2.secs.length = D.secs.length := by
    have a := sync_len D1
    have b := wroteTo_len (zf 0) D 2
    rw [h2] at a; rw [h] at b
    exact a.trans b
  unfold DiskD.fmt
  simp [h, seqD, h2, e, h3]
theorem fmt_4 {D D1 D2 D3 : DiskD} {r : Bool × DiskD} (h : wroteTo (zf 0) D 2 = (true, D1)) (h2 : D1.sync = (true, D2)) (h3 : wroteTo (zf 8) D2 ((D.secs.length - 8) / 2) = (true, D3))
    (h4 : seqD (seqD D3.sync fun D => D.wrote 0 (hd 0)) DiskD.sync = r) : D.fmt = r := by
  have e : D2.secs.length = D.secs.length := by
    have a := sync_len D1
    have b := wroteTo_len (zf 0) D 2
    rw [h2] at a; rw [h] at b
    exact a.trans b
  unfold DiskD.fmt
  rw [← h4]
  simp [h, seqD, h2, e, h3]

set_option maxRecDepth 100000 in
theorem format_nil (w : World) : Calls Tryd.prog 8 #[.pointer none] w (fun e w' => e = .returned (.int .i64 7) ∧ w = w') := by
  go_enter Tryd.func8, Tryd.ntmps8
  go_wp2_with fail
  refine (refused_nil _).mono ?_
  rintro e _ ⟨rfl, rfl⟩
  go_wp2_with fail
  go_ret
  exact ⟨rfl, rfl⟩
set_option maxRecDepth 100000 in
set_option maxHeartbeats 3200000 in
theorem format_o (g gl : Nat) (D : DiskD) (w : World) (h : DiskAt w g gl D) (hK : Kg w) (h0 : ¬ two g gl 0) :
    Calls Tryd.prog 8 #[.pointer (some ⟨g, 0, none⟩)] w (fun e w' => e = .returned (.int .i64 D.format.1) ∧ DiskAt w' g gl D.format.2 ∧ Fr (two g gl) w w') := by
  have href := refused_o g gl D w h
  unfold DiskD.format
  by_cases hr : D.refused = 0
  · rw [if_pos hr]
    rw [hr] at href
    have hlen : 16 ≤ D.secs.length := by
      unfold DiskD.refused at hr
      by_cases hq : D.secs.length < 16
      · rw [if_pos hq] at hr; omega
      · omega
    have hle := h.len
    obtain ⟨i, hi, hz, hs, hby⟩ := info_parts info5
    clear hr
    go_enter Tryd.func8, Tryd.ntmps8
    go_wp2_with fail
    refine href.mono ?_
    rintro e _ ⟨rfl, rfl⟩
    go_wp2_with (at_make; refine Stop.out ?_)
    refine Stop.mk ?_
    refine wpList_make_row w rfl _ _ 28 rfl 5 i (.int .u8 0) Tryd.underlying28 hi hz hs rfl .i64 .i64 256 rfl rfl (by rw [hby]; omega) (by omega) ?_
    have hd2 : (w.alloc (.cells (madeCells #[.int .u8 0] 256) 5)).heap[w.heap.size]? = some (.cells (bvs (zs 256)).toArray 5 (0, 0)) := by
      rw [heap_alloc_new]
      exact congrArg (fun x => some (Obj.cells x 5 (0, 0))) (Array.ext' (by rw [toList_madeCells_one]; simp [zs, bvs, bv]))
    have hbE := below_alloc w (.cells (madeCells #[.int .u8 0] 256) 5)
    generalize w.alloc (.cells (madeCells #[.int .u8 0] 256) 5) = w1 at hd2 hbE ⊢
    have hrz : Rd5 w1 (some ⟨w.heap.size, 0, none⟩) (zs 256) := Rd5.blk hd2
    have h1 := h.below hbE
    have hF1 : Fr (two g gl) w w1 := Fr.below hbE
    clear hd2 hbE hi hz hs hby
    go_wp2_with fail
    go_loopw [14] (fun i wr => ∃ (k : Nat) (Dk : DiskD), k ≤ 2 ∧ i = .int .i64 k ∧ wroteTo (zf 0) D k = (true, Dk) ∧ DiskAt wr g gl Dk ∧ Fr (two g gl) w wr ∧ Rd5 wr (some ⟨w.heap.size, 0, none⟩) (zs 256)) (fun i _ => 2 - (intOf i).toNat)
    case atStart => exact ⟨0, D, by omega, rfl, rfl, h1, hF1, hrz⟩
    case round =>
      clear h1 hF1 hrz
      obtain ⟨k, Dk, hk, rfl, hw, h1, hF1, hrz⟩ := hrel
      have hlk : Dk.secs.length = D.secs.length := by have := wroteTo_len (zf 0) D k; rw [hw] at this; exact this
      have HW := Lib.hid hw
      clear hw
      by_cases hlt : k < 2
      · have hwr := wrote_o g gl Dk k (zs 256) (some ⟨w.heap.size, 0, none⟩) 256 wr h1 (by omega) (zs_length _) hrz
        generalize hres : Dk.wrote k (zs 256) = res at hwr
        obtain ⟨ok, D'⟩ := res
        have HR := Lib.hid hres
        clear hres
        dsimp only at hwr
        go_wp2_with fail
        refine hwr.mono ?_
        rintro e w2 ⟨rfl, h2, hf2⟩
        clear hwr
        have hstep : wroteTo (zf 0) D (k + 1) = (ok, D') := by
          simp only [wroteTo, HW.out, seqD, zf, Nat.zero_add, HR.out]
          simp
        have HS := Lib.hid hstep
        clear hstep
        cases ok with
        | false =>
          go_wp2_with fail
          refine bodyPost_ret (results_tmp rfl _ _ _) rfl ?_
          have hfm := fmt_1 ((wroteTo_stop (zf 0) D (k + 1) (by rw [HS.out]) 2 (by omega)).trans HS.out)
          rw [hfm]
          exact ⟨rfl, h2, hF1.trans hf2⟩
        | true =>
          go_wp2_with fail
          go_roundw
          case rel => exact ⟨k + 1, D', by omega, by go_num, HS.out, h2, hF1.trans hf2, hrz.fr hf2 h1.no5⟩
          case measure => simp [intOf]; omega
      · obtain rfl : k = 2 := by omega
        have hsy := sync_k g gl Dk wr h1
        generalize hres : Dk.sync = res at hsy
        obtain ⟨ok, D2⟩ := res
        have HR := Lib.hid hres
        clear hres
        dsimp only at hsy
        have hN5 := h1.no5
        go_wp2_with fail
        refine hsy.mono ?_
        rintro e w2 ⟨rfl, h2, hf2⟩
        clear hsy
        cases ok with
        | false =>
          go_wp2_with fail
          go_ret
          rw [fmt_2 HW.out HR.out]
          exact ⟨rfl, h2, hF1.trans hf2⟩
        | true =>
          have hl2 : D2.secs.length = D.secs.length := by have := sync_len Dk; rw [HR.out] at this; exact this.trans hlk
          have hrz2 := hrz.fr hf2 hN5
          have hF2 := hF1.trans hf2
          clear hrz hF1 hf2
          go_wp2_with fail
          refine (sectors_o g gl D2 _ h2).mono ?_
          rintro e _ ⟨rfl, rfl⟩
          rw [hl2]
          obtain ⟨n, hn⟩ : ∃ n, n = (D.secs.length - 8) / 2 := ⟨_, rfl⟩
          go_wp2_with fail
          rw [show ((D.secs.length : Int) - 8) / 2 = (n : Int) by omega]
          have hn2 : 8 + n ≤ D.secs.length := by omega
          have HN := Lib.hid hn
          clear hn
          obtain ⟨wo, rfl⟩ : ∃ wo : World, wo = wr := ⟨_, rfl⟩
          go_loopw [31] (fun i wr => ∃ (k : Nat) (Dk : DiskD), k ≤ n ∧ i = .int .i64 k ∧ wroteTo (zf 8) D2 k = (true, Dk) ∧ DiskAt wr g gl Dk ∧ Fr (two g gl) w wr ∧ Rd5 wr (some ⟨w.heap.size, 0, none⟩) (zs 256)) (fun i _ => n - (intOf i).toNat)
          case atStart => exact ⟨0, D2, by omega, rfl, rfl, h2, hF2, hrz2⟩
          case round =>
            clear h1 hF2 hrz2 hk
            obtain ⟨k, Dk2, hk, rfl, hw, h3, hF3, hrz⟩ := hrel
            have hlk2 : Dk2.secs.length = D.secs.length := by have := wroteTo_len (zf 8) D2 k; rw [hw] at this; exact this.trans hl2
            have HW2 := Lib.hid hw
            clear hw
            by_cases hlt : k < n
            · have hwr := wrote_o g gl Dk2 (8 + k) (zs 256) (some ⟨w.heap.size, 0, none⟩) 256 wr h3 (by omega) (zs_length _) hrz
              have hside := side_o n 0 k (by omega) (by omega) (by omega) wr
              rw [show 8 + 0 % 2 * n + k = 8 + k by omega] at hside
              generalize hres : Dk2.wrote (8 + k) (zs 256) = res at hwr
              obtain ⟨ok, D'⟩ := res
              have HR2 := Lib.hid hres
              clear hres
              dsimp only at hwr
              go_wp2_with fail
              refine hside.mono ?_
              rintro e _ ⟨rfl, rfl⟩
              go_wp2_with fail
              refine hwr.mono ?_
              rintro e w4 ⟨rfl, h4, hf4⟩
              clear hwr hside
              have hstep : wroteTo (zf 8) D2 (k + 1) = (ok, D') := by
                simp only [wroteTo, HW2.out, seqD, zf, HR2.out]
                simp
              have HS := Lib.hid hstep
              clear hstep
              cases ok with
              | false =>
                go_wp2_with fail
                go_ret
                rw [fmt_3 HW.out HR.out (by rw [← HN.out]; exact (wroteTo_stop (zf 8) D2 (k + 1) (by rw [HS.out]) n (by omega)).trans HS.out)]
                exact ⟨rfl, h4, hF3.trans hf4⟩
              | true =>
                go_wp2_with fail
                go_roundw
                case rel => exact ⟨k + 1, D', by omega, by go_num, HS.out, h4, hF3.trans hf4, hrz.fr hf4 h3.no5⟩
                case measure => simp [intOf]; omega
            · obtain rfl : k = n := by omega
              have hfm := fun r => fmt_4 (r := r) HW.out HR.out (by rw [← HN.out]; exact HW2.out)
              have HFM := Lib.hid hfm
              clear hfm
              have hsy := sync_k g gl Dk2 wr h3
              generalize hres : Dk2.sync = res at hsy
              obtain ⟨ok, D4⟩ := res
              have HR4 := Lib.hid hres
              clear hres
              dsimp only at hsy
              have hNN := h3.no5
              have hl4 : D4.secs.length = D.secs.length := by have := sync_len Dk2; rw [HR4.out] at this; exact this.trans hlk2
              go_wp2_with fail
              refine hsy.mono ?_
              rintro e w4 ⟨rfl, h4, hf4⟩
              clear hsy
              cases ok with
              | false =>
                go_wp2_with fail
                go_ret
                rw [HFM.out _ rfl, HR4.out]
                exact ⟨rfl, h4, hF3.trans hf4⟩
              | true =>
                have hF4 := hF3.trans hf4
                have hK4 := hK.fr hF4 h0
                go_wp2_with fail
                refine (head_o 0 (by omega) w4 hK4).mono ?_
                rintro e w5 ⟨A5, c5, rfl, hc5, ho5, hb5⟩
                have h5 := h4.below hb5
                have hF5 := hF4.trans (Fr.below hb5)
                have hwr := wrote_o g gl D4 0 (hd 0) A5 c5 w5 h5 (by omega) (hd_len 0) (Rd5.own ho5)
                generalize hres : D4.wrote 0 (hd 0) = res at hwr
                obtain ⟨ok, D6⟩ := res
                have HR6 := Lib.hid hres
                clear hres
                dsimp only at hwr
                go_wp2_with fail
                refine hwr.mono ?_
                rintro e w6 ⟨rfl, h6, hf6⟩
                clear hwr
                cases ok with
                | false =>
                  go_wp2_with fail
                  go_ret
                  rw [HFM.out _ rfl, HR4.out]
                  rw [seq_true, HR6.out, seq_false]
                  exact ⟨rfl, h6, hF5.trans hf6⟩
                | true =>
                  have hsy := sync_k g gl D6 w6 h6
                  generalize hres : D6.sync = res at hsy
                  obtain ⟨ok, D7⟩ := res
                  have HR7 := Lib.hid hres
                  clear hres
                  dsimp only at hsy
                  go_wp2_with fail
                  refine hsy.mono ?_
                  rintro e w7 ⟨rfl, h7, hf7⟩
                  clear hsy
                  cases ok with
                  | false =>
                    go_wp2_with fail
                    go_ret
                    rw [HFM.out _ rfl, HR4.out]
                    rw [seq_true, HR6.out, seq_true, HR7.out]
                    exact ⟨rfl, h7, (hF5.trans hf6).trans hf7⟩
                  | true =>
                    go_wp2_with fail
                    go_ret
                    rw [HFM.out _ rfl, HR4.out]
                    rw [seq_true, HR6.out, seq_true, HR7.out]
                    exact ⟨rfl, h7, (hF5.trans hf6).trans hf7⟩
  · rw [if_neg hr]
    go_enter Tryd.func8, Tryd.ntmps8
    go_wp2_with fail
    refine href.mono ?_
    rintro e _ ⟨rfl, rfl⟩
    go_wp2_with fail
    go_ret
    exact ⟨rfl, h, Fr.refl _ _⟩
end Go.Proofs.YtbjbjnbloddioaaDoor
