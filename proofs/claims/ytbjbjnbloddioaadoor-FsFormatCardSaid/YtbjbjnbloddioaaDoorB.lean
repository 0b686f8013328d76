/- Numbers as bytes; rows; what stands in memory: plain lemmas. -/
import Derived.Test.YtbjbjnbloddioaaDoorA
import Derived.Test.YtbjbjnbloddioaaDoorS
import Derived.Deep.WholeRow
import Derived.Deep.OwnRows
import Derived.Laws.BitsLemmas
import Derived.Laws.BytesArg
import Derived.Lib.SliceRun
set_option linter.unusedVariables false
set_option linter.unusedSimpArgs false
namespace Go.Proofs.YtbjbjnbloddioaaDoor
open Go.RowKit

/-- A number in so many bytes, the highest first. -/
def be (n : Nat) : Nat → List UInt8
  | 0 => []
  | k + 1 => be (n / 256) k ++ [UInt8.ofNat n]
theorem be_length (k : Nat) : ∀ n, (be n k).length = k := by
  induction k with
  | zero => intro n; rfl
  | succ k ih => intro n; simp [be, ih]
theorem bv_ofNat (n : Nat) : bv (UInt8.ofNat n) = .int .u8 ((n % 256 : Nat) : Int) := by simp [bv]
theorem bvs_be8 (n : Nat) (h : n < 18446744073709551616) : bvs (be n 8) = [.int .u8 ((n : Int) / 72057594037927936), .int .u8 ((n : Int) / 281474976710656 % 256), .int .u8 ((n : Int) / 1099511627776 % 256), .int .u8 ((n : Int) / 4294967296 % 256),
    .int .u8 ((n : Int) / 16777216 % 256), .int .u8 ((n : Int) / 65536 % 256), .int .u8 ((n : Int) / 256 % 256), .int .u8 ((n : Int) % 256)] := by
  simp only [be, bvs, List.nil_append, List.cons_append, List.map_cons, List.map_nil, bv_ofNat, Nat.div_div_eq_div_mul, Nat.reduceMul]
  have h1 : n / 72057594037927936 % 256 = n / 72057594037927936 := Nat.mod_eq_of_lt (by omega)
  rw [h1]
  simp only [Int.natCast_ediv, Int.natCast_emod, Int.cast_ofNat_Int]
theorem bvs_be4 (n : Nat) (h : n < 4294967296) : bvs (be n 4) = [.int .u8 ((n : Int) / 16777216), .int .u8 ((n : Int) / 65536 % 256), .int .u8 ((n : Int) / 256 % 256), .int .u8 ((n : Int) % 256)] := by
  simp only [be, bvs, List.nil_append, List.cons_append, List.map_cons, List.map_nil, bv_ofNat, Nat.div_div_eq_div_mul, Nat.reduceMul]
  have h1 : n / 16777216 % 256 = n / 16777216 := Nat.mod_eq_of_lt (by omega)
  rw [h1]
  simp only [Int.natCast_ediv, Int.natCast_emod, Int.cast_ofNat_Int]
theorem be_drop (k j : Nat) : ∀ n, (be n (j + k)).drop j = be n k := by
  induction k with
  | zero => intro n; rw [List.drop_eq_nil_of_le (by rw [be_length]; omega)]; rfl
  | succ k ih =>
    intro n
    show (be (n / 256) (j + k) ++ [UInt8.ofNat n]).drop j = _
    rw [List.drop_append_of_le_length (by rw [be_length]; omega), ih]
    rfl
theorem of_drew {w w1 : World} (h : Below w.drew.heap.size w.drew w1) : Below w.heap.size w w1 := ⟨h.os, h.tape, h.output, h.size, h.block⟩
theorem own_below {w w1 : World} {base n : Nat} {e : TypeId} {k : Nat} {v : Value} {xs : List Value} (h : w.ownsRow base e k v n xs) (hb : Below w.heap.size w w1) : w1.ownsRow base e k v n xs :=
  h.kept (w' := w1) (row := none) ⟨hb.os, hb.tape, hb.output, hb.size, fun i hi _ => hb.block i hi⟩ (by cases v.ownBlock <;> simp)
theorem be_rd {w1 : World} {base n j k : Nat} {A1 : Option Addr} {c1 : Nat} (ho1 : w1.ownsRow base 5 1 (.slice A1 (j + k) c1) (j + k) (bvs (be n (j + k)))) (hj : j ≠ 0) : Rd w1 (Option.map (fun x => ({ block := x.block, off := x.off + j } : Addr)) A1) (bvs (be n k)) := by
  have h := (Rd.own ho1).dropS j hj
  rw [← be_drop k j n]
  unfold bvs at h ⊢
  rwa [List.map_drop]
theorem below_alloc (w : World) (o : Obj) : Below w.heap.size w (w.alloc o) := (Below.refl _ _).alloc (Nat.le_refl _) o
theorem own_less {w : World} {b b' : Nat} {e : TypeId} {k n : Nat} {v : Value} {xs : List Value} (h : w.ownsRow b e k v n xs) (hb : b' ≤ b) : w.ownsRow b' e k v n xs := by
  refine ⟨h.1, ?_⟩
  rcases h.2 with h2 | ⟨g, cap, cur, hv, hg, rest⟩
  · exact .inl h2
  · exact .inr ⟨g, cap, cur, hv, by omega, rest⟩
theorem cell_via {W0 wk : World} {B b : Nat} {cs : Array Value} {t : TypeId} {fr : Nat × Nat} (h0 : W0.heap[b]? = some (.cells cs t fr)) (hb : Below B W0 wk) (hB : b < B) (j : Nat) : wk.cell? ⟨b, j, none⟩ = cs[j]? :=
  (hb.cell (p := ⟨b, j, none⟩) hB).trans (cell_of_row W0 b j cs t fr h0)
/-- Bytes as a number. -/
def beV (l : List UInt8) : Nat := l.foldl (fun n b => n * 256 + b.toNat) 0
theorem beV_snoc (l : List UInt8) (b : UInt8) : beV (l ++ [b]) = beV l * 256 + b.toNat := by simp [beV, List.foldl_append]
theorem beV_lt : ∀ (k : Nat) (l : List UInt8), l.length = k → beV l < 256 ^ k
  | 0, l, h => by
    obtain rfl : l = [] := List.eq_nil_of_length_eq_zero h
    simp [beV]
  | k + 1, l, h => by
    have hne : l ≠ [] := by intro e; subst e; simp at h
    obtain ⟨l', b, rfl⟩ : ∃ l' b, l = l' ++ [b] := ⟨l.dropLast, l.getLast hne, (List.dropLast_concat_getLast hne).symm⟩
    have h1 := beV_lt k l' (by simpa using h)
    rw [beV_snoc, Nat.pow_succ]
    have := b.toNat_lt
    omega
theorem beV_be (k : Nat) : ∀ n, n < 256 ^ k → beV (be n k) = n := by
  induction k with
  | zero => intro n h; simp at h; subst h; rfl
  | succ k ih =>
    intro n h
    show beV (be (n / 256) k ++ [UInt8.ofNat n]) = n
    rw [beV_snoc, ih (n / 256) (by rw [Nat.pow_succ] at h; omega)]
    simp
    omega
theorem ofInt_i64 (a : Nat) (ha : a < 9223372036854775808) : (BitVec.ofInt 64 (a : Int)).toNat = a := by
  rw [BitVec.ofInt_natCast, BitVec.toNat_ofNat]; exact Nat.mod_eq_of_lt (by omega)
def str (l : List UInt8) : Value := .string ⟨l.toArray⟩
theorem run_str {P : Program} (w : World) {A : Option Addr} {l : List UInt8} (h : Rd w A (bvs l)) (src dst e : TypeId) (hs : P.underlying src = some (.slice e)) (he : P.underlying e = some (.int .u8)) (hd : P.underlying dst = some .string) (n c : Nat) (hn : n = l.length) :
    (convert src dst (.slice A n c)).run P w = .ok (str l) w := by
  subst hn
  cases A with
  | none =>
    have : l = [] := by
      cases l with
      | nil => rfl
      | cons b l => obtain ⟨_, _, e, _⟩ := h 0 (bv b) (by simp [bvs]); cases e
    subst this
    exact run_convert_bytes_nil w src e hs he 0 c dst hd
  | some ad =>
    rcases Nat.eq_zero_or_pos l.length with h0 | h0
    · obtain rfl : l = [] := List.eq_nil_of_length_eq_zero h0
      simp [convert, run_underlying hs, run_underlying hd, run_underlying he, Conv.bytesToString, loadCells, loadCellsFrom, str]
      rfl
    · obtain ⟨g, o, hA⟩ := h.some_ (by simpa [bvs] using h0)
      injection hA with hA
      subst hA
      have hcell : ∀ i, i < l.length → w.cell? ⟨g, o + i, none⟩ = some (.int .u8 ((l.map fun b => (b.toNat : Int)).getD i 0)) := fun i hi => by
        obtain ⟨g', o', e', hc⟩ := h i (bv l[i]) (by simp [bvs, hi])
        injection e' with e'
        injection e' with e1 e2
        subst e1; subst e2
        rw [hc]
        simp [bv, hi]
      have := run_convert_bytes_arg (P := P) w src e hs he g o l.length c (l.map fun b => (b.toNat : Int)) (by simp) hcell dst hd
      rw [this]
      unfold str strOfNums
      have hid : ((fun n : Int => UInt8.ofNat n.toNat) ∘ fun b : UInt8 => (b.toNat : Int)) = id := by funext b; simp
      simp [hid]
theorem grown_below {w w1 : World} {U g : Nat} (h : w.grownBy w1 (some g)) (hU : U ≤ g) (hw : U ≤ w.heap.size) : Below U w w1 :=
  ⟨h.os, h.tape, h.output, h.size, fun k hk => h.block k (by omega) (fun e => by injection e with e; omega)⟩
theorem grown_trans {w w1 w2 : World} {g : Nat} (h : w.grownBy w1 (some g)) (k : w1.grownBy w2 (some g)) : w.grownBy w2 (some g) :=
  ⟨k.os.trans h.os, k.tape.trans h.tape, k.output.trans h.output, Nat.le_trans h.size k.size, fun i hi hne => (k.block i (Nat.lt_of_lt_of_le hi h.size) hne).trans (h.block i hi hne)⟩
theorem grown_of_below {w w1 : World} {g : Option Nat} (h : Below w.heap.size w w1) : w.grownBy w1 g := ⟨h.os, h.tape, h.output, h.size, fun i hi _ => h.block i hi⟩
theorem own_ne {w : World} {base n k g : Nat} {e t : TypeId} {v : Value} {xs cs' : List Value} (h : w.ownsRow base e k v n xs) (hg : ∀ cs fr, w.heap[g]? ≠ some (.cells cs e fr)) : v.ownBlock = none ∨ v.ownBlock ≠ some g := by
  rcases h.2 with ⟨e1, _⟩ | ⟨g', cap, cur, e1, _, hh, _⟩
  · left; rw [e1]; rfl
  · right
    rw [e1]
    intro he
    have : g' = g := by simpa [Value.ownBlock] using he
    subst this
    exact hg _ _ hh
/-- All blocks beyond L are as they were. -/
structure Up (L : Nat) (w w' : World) : Prop where
  size : w.heap.size ≤ w'.heap.size
  block : ∀ k, L < k → k < w.heap.size → w'.heap[k]? = w.heap[k]?
theorem Up.refl (L : Nat) (w : World) : Up L w w := ⟨Nat.le_refl _, fun _ _ _ => rfl⟩
theorem Up.trans {L : Nat} {a b c : World} (h : Up L a b) (k : Up L b c) : Up L a c :=
  ⟨Nat.le_trans h.size k.size, fun i hi hs => (k.block i hi (Nat.lt_of_lt_of_le hs h.size)).trans (h.block i hi hs)⟩
theorem Up.grown {L g : Nat} {w w' : World} (h : w.grownBy w' (some g)) (hg : g ≤ L) : Up L w w' := ⟨h.size, fun k hk hs => h.block k hs (fun e => by injection e with e; omega)⟩
theorem Up.below {L : Nat} {w w' : World} (h : Below w.heap.size w w') : Up L w w' := ⟨h.size, fun k _ hs => h.block k hs⟩
theorem Up.store {L : Nat} (w : World) {b : Nat} (hb : b ≤ L) (j : Nat) (v : Value) : Up L w (w.setCell ⟨b, j, none⟩ v) := ⟨by simp, fun k hk _ => heap_setCell_other w _ k _ (by simp; omega)⟩
theorem own_up {L : Nat} {w w' : World} {base n k : Nat} {e : TypeId} {v : Value} {xs : List Value} (h : w.ownsRow base e k v n xs) (hL : L < base) (hu : Up L w w') : w'.ownsRow base e k v n xs := by
  refine ⟨h.1, ?_⟩
  rcases h.2 with h2 | ⟨g, cap, cur, hv, hg, hh, rest⟩
  · exact .inl h2
  · exact .inr ⟨g, cap, cur, hv, hg, (hu.block g (by omega) (Array.getElem?_eq_some_iff.1 hh).1).trans hh, rest⟩
theorem Stop.store {P : Program} {ops : Array Oper} {Q : Exit → Act → World → Prop} {rest : List Oper} {a : Act} {w : World} (t : TypeId) {x y : Operand} {dst : Option Tmp} {ty : TypeId} {pos : String} {aft : Array Edge} {g : Option (Nat × Bool)}
    (h : Stop (wpList P ops Q (⟨dst, .store t x y, ty, pos, aft, g⟩ :: rest) a w)) : wpList P ops Q (⟨dst, .store t x y, ty, pos, aft, g⟩ :: rest) a w := h.out
theorem Stop.load {P : Program} {ops : Array Oper} {Q : Exit → Act → World → Prop} {rest : List Oper} {a : Act} {w : World} (t : TypeId) {x : Operand} {dst : Option Tmp} {ty : TypeId} {pos : String} {aft : Array Edge} {g : Option (Nat × Bool)}
    (h : Stop (wpList P ops Q (⟨dst, .load t x, ty, pos, aft, g⟩ :: rest) a w)) : wpList P ops Q (⟨dst, .load t x, ty, pos, aft, g⟩ :: rest) a w := h.out
theorem or_u32 (x y : Nat) (hx : x < 4294967296) (hy : y < 4294967296) : bits .or .u32 (x : Int) (y : Int) = ((x ||| y : Nat) : Int) := by
  have h1 : x ||| y < 2 ^ 32 := Nat.or_lt_two_pow hx hy
  have e1 : ∀ a : Nat, a < 4294967296 → (BitVec.ofInt 32 (a : Int)).toNat = a := fun a ha => by
    rw [BitVec.ofInt_natCast, BitVec.toNat_ofNat]; exact Nat.mod_eq_of_lt (by omega)
  show IntKind.u32.wrap ((BitVec.ofInt 32 (x : Int) ||| BitVec.ofInt 32 (y : Int)).toNat : Int) = _
  rw [BitVec.toNat_or, e1 _ hx, e1 _ hy]
  generalize x ||| y = z at h1
  rw [IntKind.wrap_u32]
  omega
theorem or_low (k n b : Nat) (hb : b < 2 ^ k) : n * 2 ^ k ||| b = n * 2 ^ k + b := by
  rw [Nat.mul_comm]; exact (Nat.two_pow_add_eq_or_of_lt hb n).symm
theorem four_or (a b c d : Nat) (ha : a < 256) (hb : b < 256) (hc : c < 256) (hd : d < 256) :
    bits .or .u32 (bits .or .u32 (bits .or .u32 ((a : Int) * 16777216) ((b : Int) * 65536)) ((c : Int) * 256)) (d : Int) = ((((a * 256 + b) * 256 + c) * 256 + d : Nat) : Int) := by
  have e1 : (a : Int) * 16777216 = ((a * 16777216 : Nat) : Int) := by simp
  have e2 : (b : Int) * 65536 = ((b * 65536 : Nat) : Int) := by simp
  have e3 : (c : Int) * 256 = ((c * 256 : Nat) : Int) := by simp
  have f1 : a * 16777216 ||| b * 65536 = a * 16777216 + b * 65536 := or_low 24 a (b * 65536) (by omega)
  have f2 : (a * 16777216 + b * 65536) ||| c * 256 = a * 16777216 + b * 65536 + c * 256 := by
    have := or_low 16 (a * 256 + b) (c * 256) (by omega)
    rw [show a * 16777216 + b * 65536 = (a * 256 + b) * 2 ^ 16 by omega]; exact this
  have f3 : (a * 16777216 + b * 65536 + c * 256) ||| d = a * 16777216 + b * 65536 + c * 256 + d := by
    have := or_low 8 ((a * 256 + b) * 256 + c) d (by omega)
    rw [show a * 16777216 + b * 65536 + c * 256 = ((a * 256 + b) * 256 + c) * 2 ^ 8 by omega]; exact this
  rw [e1, e2, e3, or_u32 _ _ (by omega) (by omega), f1, or_u32 _ _ (by omega) (by omega), f2, or_u32 _ _ (by omega) (by omega), f3]
  omega
theorem below_drew (w : World) : Below w.heap.size w w.drew := ⟨rfl, rfl, rfl, Nat.le_refl _, fun _ _ => rfl⟩
theorem Rd.at_ {w : World} {g o : Nat} {xs : List Value} (h : Rd w (some ⟨g, o, none⟩) xs) (j : Nat) {u : Value} (hu : xs[j]? = some u) : w.cell? ⟨g, o + j, none⟩ = some u := by
  obtain ⟨g', o', e, hc⟩ := h j u hu
  injection e with e
  injection e with e1 e2
  subst e1; subst e2
  exact hc
theorem own_apart {w : World} {b1 b2 n1 n2 k1 k2 : Nat} {e1 e2 : TypeId} {v v' : Value} {xs ys : List Value} (h : w.ownsRow b1 e1 k1 v n1 xs) (h' : w.ownsRow b2 e2 k2 v' n2 ys) (he : e1 ≠ e2) : v.ownBlock = none ∨ v.ownBlock ≠ v'.ownBlock := by
  rcases h.2 with ⟨rfl, _⟩ | ⟨g, cap, cur, rfl, _, hh, _⟩
  · exact .inl rfl
  · rcases h'.2 with ⟨rfl, _⟩ | ⟨g', cap', cur', rfl, _, hh', _⟩
    · exact .inr (by simp [Value.ownBlock])
    · refine .inr fun e => he ?_
      have : g = g' := by simpa [Value.ownBlock] using e
      subst this
      rw [hh] at hh'
      injection hh' with hh'
      injection hh' with _ ht _
theorem own_not {w : World} {base n k g : Nat} {e t : TypeId} {v : Value} {xs : List Value} {cs : Array Value} {fr : Nat × Nat} (h : w.ownsRow base e k v n xs) (hg : w.heap[g]? = some (.cells cs t fr)) (ht : t ≠ e) : some g ≠ v.ownBlock := by
  rcases own_ne (cs' := []) (t := t) h (g := g) (fun cs' fr' e' => by rw [hg] at e'; injection e' with e'; injection e' with _ e2 _; exact ht e2) with h | h
  · rw [h]; simp
  · exact fun e => h e.symm
theorem or_i64 (x y : Nat) (hx : x < 4294967296) (hy : y < 4294967296) : bits .or .i64 (x : Int) (y : Int) = ((x ||| y : Nat) : Int) := by
  have h1 : x ||| y < 2 ^ 32 := Nat.or_lt_two_pow hx hy
  show IntKind.i64.wrap ((BitVec.ofInt 64 (x : Int) ||| BitVec.ofInt 64 (y : Int)).toNat : Int) = _
  rw [BitVec.toNat_or, ofInt_i64 _ (by omega), ofInt_i64 _ (by omega)]
  generalize x ||| y = z at h1
  rw [IntKind.wrap_i64]
  omega
theorem below_drewN {B : Nat} {w w' : World} (h : Below B w w') (n : Nat) : Below B w (w'.drewN n) := ⟨h.os, h.tape, h.output, h.size, h.block⟩
theorem below_grow {n₀ : Nat} {w w' : World} (hg : w.grownBy w' none) (h : n₀ ≤ w.heap.size) : Below n₀ w w' := ⟨hg.os, hg.tape, hg.output, hg.size, fun k hk => hg.block k (by omega) (by simp)⟩
theorem results_cell1 {fn : Func} {p : Tmp} {ty : TypeId} (h : fn.results = #[.cell p ty]) (tmps : Array Value) (P : Program) (w : World) (a : Addr) (v : Value) (hp : tmps.getD p undef = .pointer (some a)) (hl : (loadVar ty a).run P w = .ok v w) :
    (results fn tmps).run P w = .ok v w := by
  have hp' : tmps[p]?.getD undef = .pointer (some a) := by simpa using hp
  simp only [results, h]
  simp [Sem.run_bind, Result.andThen, hp', asAddr, hl]
theorem undrew {w w' : World} {r : Option Nat} (h : w.drew.grownBy w' r) : w.grownBy w' r := ⟨h.os, h.tape, h.output, h.size, h.block⟩
def zs (n : Nat) : List UInt8 := List.replicate n 0
theorem zs_length (n : Nat) : (zs n).length = n := by simp [zs]
end Go.Proofs.YtbjbjnbloddioaaDoor
