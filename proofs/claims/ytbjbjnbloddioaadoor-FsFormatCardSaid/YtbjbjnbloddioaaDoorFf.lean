/- A number read from eight bytes; what a crash keeps. -/
import Derived.Test.YtbjbjnbloddioaaDoorFe
set_option linter.unusedVariables false
set_option linter.unusedSimpArgs false
namespace Go.Proofs.YtbjbjnbloddioaaDoor
open Go.RowKit Go.Shelf

theorem or_u64 (x y : Nat) (hx : x < 18446744073709551616) (hy : y < 18446744073709551616) : bits .or .u64 (x : Int) (y : Int) = ((x ||| y : Nat) : Int) := by
  have h1 : x ||| y < 2 ^ 64 := Nat.or_lt_two_pow hx hy
  have e1 : ∀ a : Nat, a < 18446744073709551616 → (BitVec.ofInt 64 (a : Int)).toNat = a := fun a ha => by
    rw [BitVec.ofInt_natCast, BitVec.toNat_ofNat]; exact Nat.mod_eq_of_lt (by omega)
  show IntKind.u64.wrap ((BitVec.ofInt 64 (x : Int) ||| BitVec.ofInt 64 (y : Int)).toNat : Int) = _
  rw [BitVec.toNat_or, e1 _ hx, e1 _ hy]
  generalize x ||| y = z at h1
  rw [IntKind.wrap_u64]
  omega
theorem or_acc (a m b : Nat) (k M : Nat) (hM : M = 2 ^ k) (hm : m = M * 256) (hb : b < 256) (h : a * m + b * M < 18446744073709551616) : bits .or .u64 ((a : Int) * (m : Int)) ((b : Int) * (M : Int)) = (((a * 256 + b : Nat) : Int)) * (M : Int) := by
  have e1 : (a : Int) * (m : Int) = ((a * m : Nat) : Int) := by rw [Int.natCast_mul]
  have e2 : (b : Int) * (M : Int) = ((b * M : Nat) : Int) := by rw [Int.natCast_mul]
  rw [e1, e2, or_u64 _ _ (by omega) (by omega)]
  have hlt : b * M < 2 ^ (k + 8) := by
    rw [Nat.pow_add, ← hM]
    have : b * M < 256 * M := Nat.mul_lt_mul_of_pos_right hb (by rw [hM]; exact Nat.two_pow_pos k)
    omega
  have hm2 : m = 2 ^ (k + 8) := by rw [hm, Nat.pow_add, ← hM]
  rw [hm2, or_low (k + 8) a (b * M) hlt, ← hm2, hm, ← Int.natCast_mul]
  congr 1
  rw [Nat.add_mul, Nat.mul_assoc, Nat.mul_comm M 256]
theorem eight_or (a b c d e f g h : Nat) (ha : a < 256) (hb : b < 256) (hc : c < 256) (hd : d < 256) (he : e < 256) (hf : f < 256) (hg : g < 256) (hh : h < 256) :
    bits .or .u64 (bits .or .u64 (bits .or .u64 (bits .or .u64 (bits .or .u64 (bits .or .u64 (bits .or .u64 ((a : Int) * 72057594037927936) ((b : Int) * 281474976710656)) ((c : Int) * 1099511627776)) ((d : Int) * 4294967296)) ((e : Int) * 16777216)) ((f : Int) * 65536)) ((g : Int) * 256)) (h : Int) =
      (((((((((a * 256 + b) * 256 + c) * 256 + d) * 256 + e) * 256 + f) * 256 + g) * 256 + h : Nat)) : Int) := by
  have s1 := or_acc a 72057594037927936 b 48 281474976710656 rfl rfl hb (by omega)
  have s2 := or_acc (a * 256 + b) 281474976710656 c 40 1099511627776 rfl rfl hc (by omega)
  have s3 := or_acc ((a * 256 + b) * 256 + c) 1099511627776 d 32 4294967296 rfl rfl hd (by omega)
  have s4 := or_acc (((a * 256 + b) * 256 + c) * 256 + d) 4294967296 e 24 16777216 rfl rfl he (by omega)
  have s5 := or_acc ((((a * 256 + b) * 256 + c) * 256 + d) * 256 + e) 16777216 f 16 65536 rfl rfl hf (by omega)
  have s6 := or_acc (((((a * 256 + b) * 256 + c) * 256 + d) * 256 + e) * 256 + f) 65536 g 8 256 rfl rfl hg (by omega)
  have s7 := or_acc ((((((a * 256 + b) * 256 + c) * 256 + d) * 256 + e) * 256 + f) * 256 + g) 256 h 0 1 rfl rfl hh (by omega)
  simp only [Int.cast_ofNat_Int, Int.natCast_one, Int.mul_one] at s1 s2 s3 s4 s5 s6 s7
  rw [s1, s2, s3, s4, s5, s6, s7]

set_option maxRecDepth 100000 in
set_option maxHeartbeats 1600000 in
theorem get64_o (b0 b1 b2 b3 b4 b5 b6 b7 : UInt8) (l : List UInt8) (A : Option Addr) (cp : Nat) (w : World) (h : Rd w A (bvs (b0 :: b1 :: b2 :: b3 :: b4 :: b5 :: b6 :: b7 :: l))) (n : Nat) (hn : n = l.length + 8) :
    Calls Tryd.prog 44 #[.slice A n cp] w (fun e w' => e = .returned (.int .u64 (beV [b0, b1, b2, b3, b4, b5, b6, b7] : Int)) ∧ w' = w.drew) := by
  obtain ⟨g, o, hA⟩ := h.some_ (by simp [bvs_length])
  subst hA
  have h0 := b0.toNat_lt
  have h1 := b1.toNat_lt
  have h2 := b2.toNat_lt
  have h3 := b3.toNat_lt
  have h4 := b4.toNat_lt
  have h5 := b5.toNat_lt
  have h6 := b6.toNat_lt
  have h7 := b7.toNat_lt
  have c0 : w.cell? ⟨g, o, none⟩ = some (.int .u8 (b0.toNat : Int)) := h.at_ 0 rfl
  have c1 : w.cell? ⟨g, o + 1, none⟩ = some (.int .u8 (b1.toNat : Int)) := h.at_ 1 rfl
  have c2 : w.cell? ⟨g, o + 2, none⟩ = some (.int .u8 (b2.toNat : Int)) := h.at_ 2 rfl
  have c3 : w.cell? ⟨g, o + 3, none⟩ = some (.int .u8 (b3.toNat : Int)) := h.at_ 3 rfl
  have c4 : w.cell? ⟨g, o + 4, none⟩ = some (.int .u8 (b4.toNat : Int)) := h.at_ 4 rfl
  have c5 : w.cell? ⟨g, o + 5, none⟩ = some (.int .u8 (b5.toNat : Int)) := h.at_ 5 rfl
  have c6 : w.cell? ⟨g, o + 6, none⟩ = some (.int .u8 (b6.toNat : Int)) := h.at_ 6 rfl
  have c7 : w.cell? ⟨g, o + 7, none⟩ = some (.int .u8 (b7.toNat : Int)) := h.at_ 7 rfl
  have hn0 : (0 : Int) < (n : Int) := by omega
  have hn1 : (1 : Int) < (n : Int) := by omega
  have hn2 : (2 : Int) < (n : Int) := by omega
  have hn3 : (3 : Int) < (n : Int) := by omega
  have hn4 : (4 : Int) < (n : Int) := by omega
  have hn5 : (5 : Int) < (n : Int) := by omega
  have hn6 : (6 : Int) < (n : Int) := by omega
  have hn7 : (7 : Int) < (n : Int) := by omega
  go_enter Tryd.func44, Tryd.ntmps44
  go_wp2_with fail
  refine wp_region_seg [] [List.range 47] (by kernel_rfl) (by kernel_rfl) ?_
  simp only [Seg, List.range, List.range.loop, pick_cons, pick_nil, List.getElem?_toArray, List.getElem?_cons_zero, List.getElem?_cons_succ, Option.toList_some, List.cons_append, List.nil_append]
  go_wp2_with fail
  refine Fin.intro ⟨by kernel_rfl, ?_⟩
  go_wp2
  go_ret
  refine ⟨?_, rfl⟩
  simp
  rw [eight_or _ _ _ _ _ _ _ _ h0 h1 h2 h3 h4 h5 h6 h7]
  simp [beV]
end Go.Proofs.YtbjbjnbloddioaaDoor
