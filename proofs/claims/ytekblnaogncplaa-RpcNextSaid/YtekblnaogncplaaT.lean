/- Get32, Next. -/
import Derived.Test.YtekblnaogncplaaI
set_option linter.unusedVariables false
set_option linter.unusedSimpArgs false
namespace Go.Proofs.Ytekblnaogncplaa
open Go.RowKit

theorem or_u32 (x y : Nat) (hx : x < 4294967296) (hy : y < 4294967296) : bits .or .u32 (x : Int) (y : Int) = ((x ||| y : Nat) : Int) := by
  have h1 : x ||| y < 2 ^ 32 := Nat.or_lt_two_pow hx hy
  have e1 : ∀ a : Nat, a < 4294967296 → (BitVec.ofInt 32 (a : Int)).toNat = a := fun a ha => by
    rw [BitVec.ofInt_natCast, BitVec.toNat_ofNat]; exact Nat.mod_eq_of_lt (by omega)
  show IntKind.u32.wrap ((BitVec.ofInt 32 (x : Int) ||| BitVec.ofInt 32 (y : Int)).toNat : Int) = _
  rw [BitVec.toNat_or, e1 _ hx, e1 _ hy]
  generalize x ||| y = z at h1
  rw [IntKind.wrap_u32]
  omega
theorem or_low (k n b : Nat) (hb : b < 2 ^ k) : n * 2 ^ k ||| b = n * 2 ^ k + b := by
  rw [Nat.mul_comm]; exact (Nat.two_pow_add_eq_or_of_lt hb n).symm
theorem four_or (a b c d : Nat) (ha : a < 256) (hb : b < 256) (hc : c < 256) (hd : d < 256) :
    bits .or .u32 (bits .or .u32 (bits .or .u32 ((a : Int) * 16777216) ((b : Int) * 65536)) ((c : Int) * 256)) (d : Int) = ((((a * 256 + b) * 256 + c) * 256 + d : Nat) : Int) := by
  have e1 : (a : Int) * 16777216 = ((a * 16777216 : Nat) : Int) := by simp
  have e2 : (b : Int) * 65536 = ((b * 65536 : Nat) : Int) := by simp
  have e3 : (c : Int) * 256 = ((c * 256 : Nat) : Int) := by simp
  have f1 : a * 16777216 ||| b * 65536 = a * 16777216 + b * 65536 := or_low 24 a (b * 65536) (by omega)
  have f2 : (a * 16777216 + b * 65536) ||| c * 256 = a * 16777216 + b * 65536 + c * 256 := by
    have := or_low 16 (a * 256 + b) (c * 256) (by omega)
    rw [show a * 16777216 + b * 65536 = (a * 256 + b) * 2 ^ 16 by omega]; exact this
  have f3 : (a * 16777216 + b * 65536 + c * 256) ||| d = a * 16777216 + b * 65536 + c * 256 + d := by
    have := or_low 8 ((a * 256 + b) * 256 + c) d (by omega)
    rw [show a * 16777216 + b * 65536 + c * 256 = ((a * 256 + b) * 256 + c) * 2 ^ 8 by omega]; exact this
  rw [e1, e2, e3, or_u32 _ _ (by omega) (by omega), f1, or_u32 _ _ (by omega) (by omega), f2, or_u32 _ _ (by omega) (by omega), f3]
  omega
theorem below_drew (w : World) : Below w.heap.size w w.drew := ⟨rfl, rfl, rfl, Nat.le_refl _, fun _ _ => rfl⟩
theorem Rd.at_ {w : World} {g o : Nat} {xs : List Value} (h : Rd w (some ⟨g, o, none⟩) xs) (j : Nat) {u : Value} (hu : xs[j]? = some u) : w.cell? ⟨g, o + j, none⟩ = some u := by
  obtain ⟨g', o', e, hc⟩ := h j u hu
  injection e with e
  injection e with e1 e2
  subst e1; subst e2
  exact hc

set_option maxRecDepth 100000 in
set_option maxHeartbeats 1600000 in
theorem get32_o (a b c d : UInt8) (l : List UInt8) (A : Option Addr) (cp : Nat) (w : World) (h : Rd w A (bvs (a :: b :: c :: d :: l))) (n : Nat) (hn : n = l.length + 4) :
    Calls Try.prog 35 #[.slice A n cp] w (fun e w' => e = .returned (.int .u32 (beV [a, b, c, d] : Int)) ∧ w' = w.drew) := by
  obtain ⟨g, o, hA⟩ := h.some_ (by simp [bvs_length])
  subst hA
  have ha := a.toNat_lt
  have hb := b.toNat_lt
  have hc := c.toNat_lt
  have hd := d.toNat_lt
  have c0 : w.cell? ⟨g, o, none⟩ = some (.int .u8 (a.toNat : Int)) := h.at_ 0 rfl
  have c1 : w.cell? ⟨g, o + 1, none⟩ = some (.int .u8 (b.toNat : Int)) := h.at_ 1 rfl
  have c2 : w.cell? ⟨g, o + 2, none⟩ = some (.int .u8 (c.toNat : Int)) := h.at_ 2 rfl
  have c3 : w.cell? ⟨g, o + 3, none⟩ = some (.int .u8 (d.toNat : Int)) := h.at_ 3 rfl
  have hn0 : (0 : Int) < (n : Int) := by omega
  have hn1 : (1 : Int) < (n : Int) := by omega
  have hn2 : (2 : Int) < (n : Int) := by omega
  have hn3 : (3 : Int) < (n : Int) := by omega
  go_enter Try.func35, Try.ntmps35
  go_wp2_with fail
  refine wp_region_seg [] [[0, 1, 2, 3, 4, 5, 6, 7, 8, 9, 10, 11, 12, 13, 14, 15, 16, 17, 18, 19, 20, 21, 22]] (by kernel_rfl) (by kernel_rfl) ?_
  simp only [Seg, pick_cons, pick_nil, List.getElem?_toArray, List.getElem?_cons_zero, List.getElem?_cons_succ, Option.toList_some, List.cons_append, List.nil_append]
  go_wp2_with fail
  refine Fin.intro ⟨by kernel_rfl, ?_⟩
  go_wp2
  go_ret
  refine ⟨?_, rfl⟩
  simp
  rw [four_or _ _ _ _ ha hb hc hd]
  simp [beV]

/-- What Next gives of the bytes l: the body, how many bytes the frame has, whether it may be. -/
def nextOf (l : List UInt8) : List UInt8 × Nat × Bool :=
  if l.length < 4 then ([], 0, true) else
    let n := beV (l.take 4)
    if 262144 < n then ([], 0, false) else if l.length - 4 < n then ([], 0, true) else ((l.drop 4).take n, 4 + n, true)

set_option maxRecDepth 100000 in
set_option maxHeartbeats 1600000 in
theorem next_o (l : List UInt8) (A : Option Addr) (cp : Nat) (w : World) (h : Rd w A (bvs l)) (hl : l.length ≤ 1000000000) (hcp : l.length ≤ cp) :
    Calls Try.prog 14 #[.slice A l.length cp] w (fun e w' => ∃ B d, e = .returned (.tuple #[.slice B (nextOf l).1.length d, .int .i64 ((nextOf l).2.1 : Int), .bool (nextOf l).2.2]) ∧ (nextOf l).1.length ≤ d ∧
      w'.ownsRow w.heap.size 5 1 (.slice B (nextOf l).1.length d) (nextOf l).1.length (bvs (nextOf l).1) ∧ Below w.heap.size w w') := by
  by_cases h4 : l.length < 4
  · have e : nextOf l = ([], 0, true) := by unfold nextOf; rw [if_pos h4]
    have h4' : (l.length : Int) < 4 := by omega
    rw [e]
    go_enter Try.func14, Try.ntmps14
    go_wp2_with fail
    go_ret3
    exact ⟨none, 0, rfl, Nat.le_refl _, World.ownsRow_nil _ _ _ _, Below.refl _ _⟩
  · have h4' : (4 : Int) ≤ (l.length : Int) := by omega
    obtain ⟨a, b, c, d, r, rfl⟩ : ∃ a b c d r, l = a :: b :: c :: d :: r := by
      match l, h4 with
      | a :: b :: c :: d :: r, _ => exact ⟨a, b, c, d, r, rfl⟩
      | [], h => exact absurd (by simp) h
      | [_], h => exact absurd (by simp) h
      | [_, _], h => exact absurd (by simp) h
      | [_, _, _], h => exact absurd (by simp) h
    have hn : (a :: b :: c :: d :: r).length = r.length + 4 := by simp
    have hv : beV [a, b, c, d] < 4294967296 := beV_lt 4 _ rfl
    have e : nextOf (a :: b :: c :: d :: r) = if 262144 < beV [a, b, c, d] then ([], 0, false) else if r.length < beV [a, b, c, d] then ([], 0, true) else (r.take (beV [a, b, c, d]), 4 + beV [a, b, c, d], true) := by
      unfold nextOf
      rw [if_neg h4]
      rfl
    have hget := get32_o a b c d r A cp w h (a :: b :: c :: d :: r).length hn
    generalize hN : (a :: b :: c :: d :: r).length = N at *
    generalize hm : beV [a, b, c, d] = m at *
    have HN := Lib.hid hn
    have h36 := h.dropS 4 (by decide)
    have hdrop : (bvs (a :: b :: c :: d :: r)).drop 4 = bvs r := rfl
    rw [hdrop] at h36
    have HM := Lib.hid hm
    have hA : ∃ g o, A = some ⟨g, o, none⟩ := h.some_ (by simp [bvs_length])
    obtain ⟨g, o, rfl⟩ := hA
    have h36 : Rd w (some ⟨g, o + 4, none⟩) (bvs r) := h36
    clear hn hN hm hdrop h4
    by_cases c1 : 262144 < m
    · have c1' : (262144 : Int) < (m : Int) := by omega
      rw [if_pos c1] at e
      rw [e]
      clear c1
      go_enter Try.func14, Try.ntmps14
      go_wp2_with fail
      refine hget.mono ?_
      rintro e2 w1 ⟨rfl, rfl⟩
      clear hget e
      go_wp2_with fail
      go_ret3
      exact ⟨none, 0, rfl, Nat.le_refl _, World.ownsRow_nil _ _ _ _, below_drew w⟩
    · rw [if_neg c1] at e
      have c1' : (m : Int) ≤ 262144 := by omega
      by_cases c2 : r.length < m
      · have c2' : (N : Int) - 4 < (m : Int) := by have := HN.out; omega
        rw [if_pos c2] at e
        rw [e]
        clear c1 c2
        go_enter Try.func14, Try.ntmps14
        go_wp2_with fail
        refine hget.mono ?_
        rintro e2 w1 ⟨rfl, rfl⟩
        clear hget e
        go_wp2_with fail
        go_ret3
        exact ⟨none, 0, rfl, Nat.le_refl _, World.ownsRow_nil _ _ _ _, below_drew w⟩
      · have c2' : (m : Int) ≤ (N : Int) - 4 := by have := HN.out; omega
        have c3' : 4 + (m : Int) ≤ (cp : Int) := by have := HN.out; omega
        rw [if_neg c2] at e
        have hr : (r.take m).length = m := by simp; omega
        have h37 : Rd w (some ⟨g, o + 4, none⟩) (bvs (r.take m)) := by
          have := h36.take m
          rwa [show (bvs r).take m = bvs (r.take m) by simp [bvs]] at this
        rw [e]
        generalize r.take m = body at hr h37
        clear c1 c2 h36
        subst hr
        go_enter Try.func14, Try.ntmps14
        go_wp2_with fail
        refine hget.mono ?_
        rintro e2 w1 ⟨rfl, rfl⟩
        clear hget e
        have hclone : Calls Try.prog 36 #[.slice (some ⟨g, if cp = 4 then o else o + 4, none⟩) body.length (cp - 4)] w.drew _ := clone_o body (some ⟨g, if cp = 4 then o else o + 4, none⟩) (cp - 4) w.drew (by
          split
          · have h0 : body.length = 0 := by omega
            have : body = [] := List.eq_nil_of_length_eq_zero h0
            subst this
            exact Rd.nil_
          · exact fun j u hu => h37 j u hu) (by omega)
        have hb4 : (4 : Int) ≤ 4 + (body.length : Int) := by omega
        by_cases hc4 : cp = 4
        · rw [if_pos hc4] at hclone
          subst hc4
          go_wp2_with fail
          refine hclone.mono ?_
          rintro e3 w3 ⟨A', c', rfl, hc', ho', hb'⟩
          clear hclone
          go_wp2_with fail
          go_ret3
          exact ⟨A', c', by simp, hc', ho', of_drew hb'⟩
        · rw [if_neg hc4] at hclone
          go_wp2_with fail
          refine hclone.mono ?_
          rintro e3 w3 ⟨A', c', rfl, hc', ho', hb'⟩
          clear hclone
          go_wp2_with fail
          go_ret3
          exact ⟨A', c', by simp, hc', ho', of_drew hb'⟩
end Go.Proofs.Ytekblnaogncplaa
