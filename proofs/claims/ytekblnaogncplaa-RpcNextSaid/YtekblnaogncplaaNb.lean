/- The reference: Next. -/
import Derived.Test.YtekblnaogncplaaT
set_option linter.unusedVariables false
set_option linter.unusedSimpArgs false
namespace Go.Proofs.Ytekblnaogncplaa
open Go.RowKit

theorem or_i64 (x y : Nat) (hx : x < 4294967296) (hy : y < 4294967296) : bits .or .i64 (x : Int) (y : Int) = ((x ||| y : Nat) : Int) := by
  have h1 : x ||| y < 2 ^ 32 := Nat.or_lt_two_pow hx hy
  show IntKind.i64.wrap ((BitVec.ofInt 64 (x : Int) ||| BitVec.ofInt 64 (y : Int)).toNat : Int) = _
  rw [BitVec.toNat_or, ofInt_i64 _ (by omega), ofInt_i64 _ (by omega)]
  generalize x ||| y = z at h1
  rw [IntKind.wrap_i64]
  omega
theorem four_or64 (a b c d : Nat) (ha : a < 256) (hb : b < 256) (hc : c < 256) (hd : d < 256) :
    bits .or .i64 (bits .or .i64 (bits .or .i64 ((a : Int) * 16777216) ((b : Int) * 65536)) ((c : Int) * 256)) (d : Int) = ((((a * 256 + b) * 256 + c) * 256 + d : Nat) : Int) := by
  have e1 : (a : Int) * 16777216 = ((a * 16777216 : Nat) : Int) := by simp
  have e2 : (b : Int) * 65536 = ((b * 65536 : Nat) : Int) := by simp
  have e3 : (c : Int) * 256 = ((c * 256 : Nat) : Int) := by simp
  have f1 : a * 16777216 ||| b * 65536 = a * 16777216 + b * 65536 := or_low 24 a (b * 65536) (by omega)
  have f2 : (a * 16777216 + b * 65536) ||| c * 256 = a * 16777216 + b * 65536 + c * 256 := by
    have := or_low 16 (a * 256 + b) (c * 256) (by omega)
    rw [show a * 16777216 + b * 65536 = (a * 256 + b) * 2 ^ 16 by omega]; exact this
  have f3 : (a * 16777216 + b * 65536 + c * 256) ||| d = a * 16777216 + b * 65536 + c * 256 + d := by
    have := or_low 8 ((a * 256 + b) * 256 + c) d (by omega)
    rw [show a * 16777216 + b * 65536 + c * 256 = ((a * 256 + b) * 256 + c) * 2 ^ 8 by omega]; exact this
  rw [e1, e2, e3, or_i64 _ _ (by omega) (by omega), f1, or_i64 _ _ (by omega) (by omega), f2, or_i64 _ _ (by omega) (by omega), f3]
  omega

set_option maxRecDepth 100000 in
set_option maxHeartbeats 1600000 in
theorem refNext_o (l : List UInt8) (A : Option Addr) (cp : Nat) (w : World) (h : Rd w A (bvs l)) (hl : l.length ≤ 1000000000) (hcp : l.length ≤ cp) :
    Calls Try.prog 15 #[.slice A l.length cp] w (fun e w' => ∃ B d, e = .returned (.tuple #[.slice B (nextOf l).1.length d, .int .i64 ((nextOf l).2.1 : Int), .bool (nextOf l).2.2]) ∧ (nextOf l).1.length ≤ d ∧
      w'.ownsRow w.heap.size 5 1 (.slice B (nextOf l).1.length d) (nextOf l).1.length (bvs (nextOf l).1) ∧ Below w.heap.size w w') := by
  by_cases h4 : l.length < 4
  · have e : nextOf l = ([], 0, true) := by unfold nextOf; rw [if_pos h4]
    have h4' : (l.length : Int) < 4 := by omega
    rw [e]
    go_enter Try.func15, Try.ntmps15
    go_wp2_with fail
    go_ret3
    exact ⟨none, 0, rfl, Nat.le_refl _, World.ownsRow_nil _ _ _ _, Below.refl _ _⟩
  · have h4' : (4 : Int) ≤ (l.length : Int) := by omega
    obtain ⟨a, b, c, d, r, rfl⟩ : ∃ a b c d r, l = a :: b :: c :: d :: r := by
      match l, h4 with
      | a :: b :: c :: d :: r, _ => exact ⟨a, b, c, d, r, rfl⟩
      | [], h => exact absurd (by simp) h
      | [_], h => exact absurd (by simp) h
      | [_, _], h => exact absurd (by simp) h
      | [_, _, _], h => exact absurd (by simp) h
    have hn : (a :: b :: c :: d :: r).length = r.length + 4 := by simp
    have hv : beV [a, b, c, d] < 4294967296 := beV_lt 4 _ rfl
    have e : nextOf (a :: b :: c :: d :: r) = if 262144 < beV [a, b, c, d] then ([], 0, false) else if r.length < beV [a, b, c, d] then ([], 0, true) else (r.take (beV [a, b, c, d]), 4 + beV [a, b, c, d], true) := by
      unfold nextOf
      rw [if_neg h4]
      rfl
    have ha := a.toNat_lt
    have hb := b.toNat_lt
    have hc := c.toNat_lt
    have hd := d.toNat_lt
    have hor := four_or64 _ _ _ _ ha hb hc hd
    have hbe : beV [a, b, c, d] = ((a.toNat * 256 + b.toNat) * 256 + c.toNat) * 256 + d.toNat := by simp [beV]
    rw [← hbe] at hor
    obtain ⟨g, o, rfl⟩ : ∃ g o, A = some ⟨g, o, none⟩ := h.some_ (by simp [bvs_length])
    have c0 : w.cell? ⟨g, o, none⟩ = some (.int .u8 (a.toNat : Int)) := h.at_ 0 rfl
    have c1 : w.cell? ⟨g, o + 1, none⟩ = some (.int .u8 (b.toNat : Int)) := h.at_ 1 rfl
    have c2 : w.cell? ⟨g, o + 2, none⟩ = some (.int .u8 (c.toNat : Int)) := h.at_ 2 rfl
    have c3 : w.cell? ⟨g, o + 3, none⟩ = some (.int .u8 (d.toNat : Int)) := h.at_ 3 rfl
    have h36 := h.dropS 4 (by decide)
    have hdrop : (bvs (a :: b :: c :: d :: r)).drop 4 = bvs r := rfl
    rw [hdrop] at h36
    have h36 : Rd w (some ⟨g, o + 4, none⟩) (bvs r) := h36
    generalize hN : (a :: b :: c :: d :: r).length = N at *
    generalize hm : beV [a, b, c, d] = m at *
    have hn0 : (0 : Int) < (N : Int) := by omega
    have hn1 : (1 : Int) < (N : Int) := by omega
    have hn2 : (2 : Int) < (N : Int) := by omega
    have hn3 : (3 : Int) < (N : Int) := by omega
    have HN := Lib.hid hn
    have HOR := Lib.hid hor
    clear hn hN hm hdrop h4 hbe hor h
    by_cases q1 : 262144 < m
    · have q1' : (262144 : Int) < (m : Int) := by omega
      rw [if_pos q1] at e
      rw [e]
      clear q1 e
      go_enter Try.func15, Try.ntmps15
      go_wp2_with fail
      refine wp_region_seg [] [[0, 1, 2, 3, 4, 5, 6, 7, 8, 9, 10, 11, 12, 13, 14, 15, 16, 17, 18, 19, 20, 21, 22]] (by kernel_rfl) (by kernel_rfl) ?_
      simp only [Seg, pick_cons, pick_nil, List.getElem?_toArray, List.getElem?_cons_zero, List.getElem?_cons_succ, Option.toList_some, List.cons_append, List.nil_append]
      go_wp2_with fail
      refine Fin.intro ⟨by kernel_rfl, ?_⟩
      rw [HOR.out]
      clear c0 c1 c2 c3
      go_wp2_with fail
      go_ret3
      exact ⟨none, 0, rfl, Nat.le_refl _, World.ownsRow_nil _ _ _ _, below_drew w⟩
    · rw [if_neg q1] at e
      have q1' : (m : Int) ≤ 262144 := by omega
      by_cases q2 : r.length < m
      · have q2' : (N : Int) - 4 < (m : Int) := by have := HN.out; omega
        rw [if_pos q2] at e
        rw [e]
        clear q1 q2 e
        go_enter Try.func15, Try.ntmps15
        go_wp2_with fail
        refine wp_region_seg [] [[0, 1, 2, 3, 4, 5, 6, 7, 8, 9, 10, 11, 12, 13, 14, 15, 16, 17, 18, 19, 20, 21, 22]] (by kernel_rfl) (by kernel_rfl) ?_
        simp only [Seg, pick_cons, pick_nil, List.getElem?_toArray, List.getElem?_cons_zero, List.getElem?_cons_succ, Option.toList_some, List.cons_append, List.nil_append]
        go_wp2_with fail
        refine Fin.intro ⟨by kernel_rfl, ?_⟩
        rw [HOR.out]
        clear c0 c1 c2 c3
        go_wp2_with fail
        go_ret3
        exact ⟨none, 0, rfl, Nat.le_refl _, World.ownsRow_nil _ _ _ _, below_drew w⟩
      · have q2' : (m : Int) ≤ (N : Int) - 4 := by have := HN.out; omega
        have q3' : 4 + (m : Int) ≤ (cp : Int) := by have := HN.out; omega
        rw [if_neg q2] at e
        have hr : (r.take m).length = m := by simp; omega
        have h37 : Rd w (some ⟨g, o + 4, none⟩) (bvs (r.take m)) := by
          have := h36.take m
          rwa [show (bvs r).take m = bvs (r.take m) by simp [bvs]] at this
        rw [e]
        generalize r.take m = body at hr h37
        clear q1 q2 h36 e
        subst hr
        have hb4 : (4 : Int) ≤ 4 + (body.length : Int) := by omega
        have hA : Rd w.drew (some ⟨g, if cp = 4 then o else o + 4, none⟩) (bvs body) := by
          split
          · have h0 : body.length = 0 := by omega
            have : body = [] := List.eq_nil_of_length_eq_zero h0
            subst this
            exact Rd.nil_
          · exact fun j u hu => h37 j u hu
        go_enter Try.func15, Try.ntmps15
        go_wp2_with fail
        refine wp_region_seg [] [[0, 1, 2, 3, 4, 5, 6, 7, 8, 9, 10, 11, 12, 13, 14, 15, 16, 17, 18, 19, 20, 21, 22]] (by kernel_rfl) (by kernel_rfl) ?_
        simp only [Seg, pick_cons, pick_nil, List.getElem?_toArray, List.getElem?_cons_zero, List.getElem?_cons_succ, Option.toList_some, List.cons_append, List.nil_append]
        go_wp2_with fail
        refine Fin.intro ⟨by kernel_rfl, ?_⟩
        rw [HOR.out]
        clear c0 c1 c2 c3
        by_cases hc4 : cp = 4
        · rw [if_pos hc4] at hA
          subst hc4
          go_wp2_with (at_builtin; refine Stop.out ?_)
          refine Stop.mk ?_
          rw [show 4 + body.length - 4 = body.length by omega]
          refine wpList_app _ rfl (.const (.slice none 0 0)) (.tmp 41) 22 rfl 5 (.int .u8 0) 1 1 w.heap.size Try.underlying22 info5 rfl (by omega) (.slice none 0 0) 0 [] rfl (World.ownsRow_nil _ _ _ _) (some ⟨g, o, none⟩) body.length 0 (bvs body) rfl (by simp [bvs_length]) hA (bvs_one _) (by omega) (by omega) (Nat.le_refl _) ?_
          intro A1 c1 w1 ho1 hg1 hat1
          have hb1 : Below w.heap.size w w1 := of_drew ((Below.refl w.drew.heap.size w.drew).grown hg1 (Nat.le_refl _) (fun k hk => by simp [Value.ownBlock] at hk))
          simp only [Nat.zero_add, List.nil_append] at ho1
          go_wp2_with fail
          go_ret3
          exact ⟨A1, c1, by simp, (own_cap ho1).2.1, ho1, hb1⟩
        · rw [if_neg hc4] at hA
          go_wp2_with (at_builtin; refine Stop.out ?_)
          refine Stop.mk ?_
          rw [show 4 + body.length - 4 = body.length by omega]
          refine wpList_app _ rfl (.const (.slice none 0 0)) (.tmp 41) 22 rfl 5 (.int .u8 0) 1 1 w.heap.size Try.underlying22 info5 rfl (by omega) (.slice none 0 0) 0 [] rfl (World.ownsRow_nil _ _ _ _) (some ⟨g, o + 4, none⟩) body.length (cp - 4) (bvs body) rfl (by simp [bvs_length]) hA (bvs_one _) (by omega) (by omega) (Nat.le_refl _) ?_
          intro A1 c1 w1 ho1 hg1 hat1
          have hb1 : Below w.heap.size w w1 := of_drew ((Below.refl w.drew.heap.size w.drew).grown hg1 (Nat.le_refl _) (fun k hk => by simp [Value.ownBlock] at hk))
          simp only [Nat.zero_add, List.nil_append] at ho1
          go_wp2_with fail
          go_ret3
          exact ⟨A1, c1, by simp, (own_cap ho1).2.1, ho1, hb1⟩
end Go.Proofs.Ytekblnaogncplaa
