/- Numbers as bytes; the writer of frames: words. -/
import Derived.Test.YtekblnaogncplaaA
set_option linter.unusedVariables false
namespace Go.Proofs.Ytekblnaogncplaa
open Go.RowKit

/-- A number in so many bytes, the highest first. -/
def be (n : Nat) : Nat → List UInt8
  | 0 => []
  | k + 1 => be (n / 256) k ++ [UInt8.ofNat n]
theorem be_length (k : Nat) : ∀ n, (be n k).length = k := by
  induction k with
  | zero => intro n; rfl
  | succ k ih => intro n; simp [be, ih]

theorem bv_ofNat (n : Nat) : bv (UInt8.ofNat n) = .int .u8 ((n % 256 : Nat) : Int) := by simp [bv]

theorem bvs_be8 (n : Nat) (h : n < 18446744073709551616) : bvs (be n 8) = [.int .u8 ((n : Int) / 72057594037927936), .int .u8 ((n : Int) / 281474976710656 % 256), .int .u8 ((n : Int) / 1099511627776 % 256), .int .u8 ((n : Int) / 4294967296 % 256),
    .int .u8 ((n : Int) / 16777216 % 256), .int .u8 ((n : Int) / 65536 % 256), .int .u8 ((n : Int) / 256 % 256), .int .u8 ((n : Int) % 256)] := by
  simp only [be, bvs, List.nil_append, List.cons_append, List.map_cons, List.map_nil, bv_ofNat, Nat.div_div_eq_div_mul, Nat.reduceMul]
  have h1 : n / 72057594037927936 % 256 = n / 72057594037927936 := Nat.mod_eq_of_lt (by omega)
  rw [h1]
  simp only [Int.natCast_ediv, Int.natCast_emod, Int.cast_ofNat_Int]
theorem bvs_be4 (n : Nat) (h : n < 4294967296) : bvs (be n 4) = [.int .u8 ((n : Int) / 16777216), .int .u8 ((n : Int) / 65536 % 256), .int .u8 ((n : Int) / 256 % 256), .int .u8 ((n : Int) % 256)] := by
  simp only [be, bvs, List.nil_append, List.cons_append, List.map_cons, List.map_nil, bv_ofNat, Nat.div_div_eq_div_mul, Nat.reduceMul]
  have h1 : n / 16777216 % 256 = n / 16777216 := Nat.mod_eq_of_lt (by omega)
  rw [h1]
  simp only [Int.natCast_ediv, Int.natCast_emod, Int.cast_ofNat_Int]

theorem be_drop (k j : Nat) : ∀ n, (be n (j + k)).drop j = be n k := by
  induction k with
  | zero => intro n; rw [List.drop_eq_nil_of_le (by rw [be_length]; omega)]; rfl
  | succ k ih =>
    intro n
    show (be (n / 256) (j + k) ++ [UInt8.ofNat n]).drop j = _
    rw [List.drop_append_of_le_length (by rw [be_length]; omega), ih]
    rfl

theorem of_drew {w w1 : World} (h : Below w.drew.heap.size w.drew w1) : Below w.heap.size w w1 := ⟨h.os, h.tape, h.output, h.size, h.block⟩
theorem own_below {w w1 : World} {base n : Nat} {e : TypeId} {k : Nat} {v : Value} {xs : List Value} (h : w.ownsRow base e k v n xs) (hb : Below w.heap.size w w1) : w1.ownsRow base e k v n xs :=
  h.kept (w' := w1) (row := none) ⟨hb.os, hb.tape, hb.output, hb.size, fun i hi _ => hb.block i hi⟩ (by cases v.ownBlock <;> simp)
theorem be_rd {w1 : World} {base n j k : Nat} {A1 : Option Addr} {c1 : Nat} (ho1 : w1.ownsRow base 5 1 (.slice A1 (j + k) c1) (j + k) (bvs (be n (j + k)))) (hj : j ≠ 0) : Rd w1 (Option.map (fun x => ({ block := x.block, off := x.off + j } : Addr)) A1) (bvs (be n k)) := by
  have h := (Rd.own ho1).dropS j hj
  rw [← be_drop k j n]
  unfold bvs at h ⊢
  rwa [List.map_drop]

/-- The writer at block g: its bytes l, whether something may not be. -/
structure Wr (w : World) (B g : Nat) (A : Option Addr) (c : Nat) (l : List UInt8) (bad : Bool) : Prop where
  blk : w.heap[g]? = some (.cells #[.slice A l.length c, .bool bad] 58 (0, 0))
  own : w.ownsRow B 5 1 (.slice A l.length c) l.length (bvs l)
  le : B ≤ g

theorem Wr.lt {w : World} {B g : Nat} {A : Option Addr} {c : Nat} {l : List UInt8} {bad : Bool} (hW : Wr w B g A c l bad) : g < w.heap.size := (Array.getElem?_eq_some_iff.1 hW.blk).1
theorem Wr.ne {w : World} {B g : Nat} {A : Option Addr} {c : Nat} {l : List UInt8} {bad : Bool} (hW : Wr w B g A c l bad) : some g ≠ (Value.slice A l.length c).ownBlock := by
  rcases hW.own.2 with ⟨e, _⟩ | ⟨g', cap, cur, e, _, hh, _⟩
  · rw [e]; simp [Value.ownBlock]
  · rw [e]
    intro he
    have : g = g' := by simpa [Value.ownBlock] using he
    subst this
    rw [hW.blk] at hh
    injection hh with hh
    injection hh with _ ht _
    exact absurd ht (by decide)

/-- Only block g, rows of bytes from B on and new blocks are other than they were. -/
structure WFr (B g : Nat) (w w' : World) : Prop where
  os : w'.os = w.os
  tape : w'.tape = w.tape
  output : w'.output = w.output
  size : w.heap.size ≤ w'.heap.size
  block : ∀ k, k < w.heap.size → k ≠ g → (B ≤ k → ∀ cs fr, w.heap[k]? ≠ some (.cells cs 5 fr)) → w'.heap[k]? = w.heap[k]?

theorem WFr.refl (B g : Nat) (w : World) : WFr B g w w := ⟨rfl, rfl, rfl, Nat.le_refl _, fun _ _ _ _ => rfl⟩
theorem WFr.trans {B g : Nat} {a b c : World} (h : WFr B g a b) (k : WFr B g b c) : WFr B g a c :=
  ⟨k.os.trans h.os, k.tape.trans h.tape, k.output.trans h.output, Nat.le_trans h.size k.size, fun i hi hg hn => by
    have e := h.block i hi hg hn
    exact (k.block i (Nat.lt_of_lt_of_le hi h.size) hg (by rw [e]; exact hn)).trans e⟩
theorem WFr.below {B g : Nat} {w w' : World} (h : WFr B g w w') (hg : B ≤ g) (hB : B ≤ w.heap.size) : Below B w w' :=
  ⟨h.os, h.tape, h.output, h.size, fun k hk => h.block k (by omega) (by omega) (fun h' => absurd h' (by omega))⟩
theorem WFr.of_below {B g : Nat} {w w' : World} (h : Below w.heap.size w w') : WFr B g w w' :=
  ⟨h.os, h.tape, h.output, h.size, fun k hk _ _ => h.block k hk⟩
theorem WFr.blk {B g : Nat} {w w' : World} (h : WFr B g w w') {k : Nat} {cs : Array Value} {t : TypeId} {fr : Nat × Nat} (hk : w.heap[k]? = some (.cells cs t fr)) (hg : k ≠ g) (ht : t ≠ 5) : w'.heap[k]? = some (.cells cs t fr) := by
  have hlt : k < w.heap.size := (Array.getElem?_eq_some_iff.1 hk).1
  rw [h.block k hlt hg (fun _ cs' fr' e => by rw [hk] at e; injection e with e; injection e with _ e2 _; exact ht e2)]
  exact hk

/-- What writing a number does. -/
def wput (s : List UInt8 × Bool) (n : Int) (size : Nat) (most : Int) : List UInt8 × Bool :=
  if n < 0 ∨ n > most then (s.1, true) else (s.1 ++ be n.toNat size, s.2)
def wbytes (s : List UInt8 × Bool) (b : List UInt8) (size : Nat) (most : Int) : List UInt8 × Bool :=
  let t := wput s b.length size most
  if t.2 then t else (t.1 ++ b, false)

end Go.Proofs.Ytekblnaogncplaa
