/- refused, wrote. -/
import Derived.Test.YtbjbjnbloddioaaDoorFg
set_option linter.unusedVariables false
set_option linter.unusedSimpArgs false
namespace Go.Proofs.YtbjbjnbloddioaaDoor
open Go.RowKit Go.Shelf

def DiskD.refused (D : DiskD) : Int := if D.secs.length < 16 then 7 else if D.dead then 48 else 0
set_option maxRecDepth 100000 in
theorem refused_nil (w : World) : Calls Tryd.prog 26 #[.pointer none] w (fun e w' => e = .returned (.int .i64 7) ∧ w = w') := by
  go_enter Tryd.func26, Tryd.ntmps26
  go_wp2_with fail
  refine (sectors_nil _).mono ?_
  rintro e _ ⟨rfl, rfl⟩
  go_wp2_with fail
  go_ret
  exact ⟨rfl, rfl⟩
set_option maxRecDepth 100000 in
theorem refused_o (g gl : Nat) (D : DiskD) (w : World) (h : DiskAt w g gl D) : Calls Tryd.prog 26 #[.pointer (some ⟨g, 0, none⟩)] w (fun e w' => e = .returned (.int .i64 D.refused) ∧ w = w') := by
  by_cases h1 : D.secs.length < 16
  · go_enter Tryd.func26, Tryd.ntmps26
    go_wp2_with fail
    refine (sectors_o g gl D _ h).mono ?_
    rintro e _ ⟨rfl, rfl⟩
    go_wp2_with fail
    go_ret
    exact ⟨by simp [DiskD.refused, h1], rfl⟩
  · have hd := dead_o g gl D w h
    cases hdd : D.dead with
    | true =>
      rw [hdd] at hd
      go_enter Tryd.func26, Tryd.ntmps26
      go_wp2_with fail
      refine (sectors_o g gl D _ h).mono ?_
      rintro e _ ⟨rfl, rfl⟩
      go_wp2_with fail
      refine hd.mono ?_
      rintro e _ ⟨rfl, rfl⟩
      go_wp2_with fail
      go_ret
      exact ⟨by simp [DiskD.refused, h1, hdd], rfl⟩
    | false =>
      rw [hdd] at hd
      go_enter Tryd.func26, Tryd.ntmps26
      go_wp2_with fail
      refine (sectors_o g gl D _ h).mono ?_
      rintro e _ ⟨rfl, rfl⟩
      go_wp2_with fail
      refine hd.mono ?_
      rintro e _ ⟨rfl, rfl⟩
      go_wp2_with fail
      go_ret
      exact ⟨by simp [DiskD.refused, h1, hdd], rfl⟩
theorem at_get {D : DiskD} {i : Nat} {s : SecD} (h : D.secs[i]? = some s) : D.at_ i = s.now := by simp [DiskD.at_, h]
theorem sec_len {D : DiskD} {w : World} {g gl i : Nat} {s : SecD} (h : DiskAt w g gl D) (hi : D.secs[i]? = some s) : s.now.length = 256 ∧ s.syn.length = 256 := by
  obtain ⟨cs, _, _, hc⟩ := h.ss
  obtain ⟨nv, sv, _, _, _, v0, v1⟩ := hc i s hi
  exact ⟨v0.1, v1.1⟩
set_option maxRecDepth 100000 in
set_option maxHeartbeats 1600000 in
theorem wrote_o (g gl : Nat) (D : DiskD) (i : Nat) (b : List UInt8) (A : Option Addr) (c : Nat) (w : World) (h : DiskAt w g gl D) (hi : i < D.secs.length) (hb : b.length = 256) (hr : Rd5 w A b) :
    Calls Tryd.prog 27 #[.pointer (some ⟨g, 0, none⟩), .int .i64 (i : Int), .slice A 256 c] w (fun e w' => e = .returned (.bool (D.wrote i b).1) ∧ DiskAt w' g gl (D.wrote i b).2 ∧ Fr (two g gl) w w') := by
  have hs : D.secs[i]? = some D.secs[i] := List.getElem?_eq_getElem hi
  have hsl := (sec_len h hs).1
  have hat := at_get hs
  have hrd := read_o g gl D i _ hs w h
  generalize D.secs[i] = s at hrd hsl hat
  have heq : ∀ (A1 : Option Addr) (c1 : Nat) (w1 : World), Rd w1 A1 (bvs s.now) → Rd w1 A (bvs b) → Calls Tryd.prog 38 #[.slice A1 256 c1, .slice A 256 c] w1 (fun e w' => e = .returned (.bool (s.now == b)) ∧ w1 = w') := fun A1 c1 w1 q1 q2 => by
    have := equal_o s.now b A1 A c1 c w1 q1 q2
    rw [hsl, hb] at this
    refine this.mono ?_
    intro e w' h
    simpa using h
  unfold DiskD.wrote
  rw [hat]
  by_cases hq : s.now = b
  · rw [if_pos hq]
    have hq' : (s.now == b) = true := by simp [hq]
    simp only [hq'] at heq
    have HS := Lib.hid hs
    clear hs hat hq hq'
    go_enter Tryd.func27, Tryd.ntmps27
    go_wp2_with fail
    refine hrd.mono ?_
    rintro e w1 ⟨A1, c1, rfl, hc1, ho1, hb1⟩
    go_wp2_with fail
    refine (heq A1 c1 w1 (Rd.own ho1) (hr.below hb1).rd).mono ?_
    rintro e _ ⟨rfl, rfl⟩
    go_wp2_with fail
    go_ret
    exact ⟨rfl, h.below hb1, Fr.below hb1⟩
  · rw [if_neg hq]
    have hq' : (s.now == b) = false := by simp [hq]
    simp only [hq'] at heq
    have HS := Lib.hid hs
    clear hs hat hq hq'
    go_enter Tryd.func27, Tryd.ntmps27
    go_wp2_with fail
    refine hrd.mono ?_
    rintro e w1 ⟨A1, c1, rfl, hc1, ho1, hb1⟩
    go_wp2_with fail
    refine (heq A1 c1 w1 (Rd.own ho1) (hr.below hb1).rd).mono ?_
    rintro e _ ⟨rfl, rfl⟩
    go_wp2_with fail
    refine (write_k g gl D i b A c w1 (h.below hb1) hi hb (hr.below hb1)).mono ?_
    rintro e w2 ⟨rfl, h2, hf2⟩
    go_wp2_with fail
    go_ret
    exact ⟨by first | rfl | simp, h2, (Fr.below hb1).trans hf2⟩
end Go.Proofs.YtbjbjnbloddioaaDoor
