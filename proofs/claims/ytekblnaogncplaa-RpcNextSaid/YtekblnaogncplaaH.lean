/- The reader of frames: its bytes, its attributes. -/
import Derived.Test.YtekblnaogncplaaG
set_option linter.unusedVariables false
set_option linter.unusedSimpArgs false
namespace Go.Proofs.Ytekblnaogncplaa
open Go.RowKit

def str (l : List UInt8) : Value := .string ⟨l.toArray⟩
theorem run_str {P : Program} (w : World) {A : Option Addr} {l : List UInt8} (h : Rd w A (bvs l)) (src dst e : TypeId) (hs : P.underlying src = some (.slice e)) (he : P.underlying e = some (.int .u8)) (hd : P.underlying dst = some .string) (n c : Nat) (hn : n = l.length) :
    (convert src dst (.slice A n c)).run P w = .ok (str l) w := by
  subst hn
  cases A with
  | none =>
    have : l = [] := by
      cases l with
      | nil => rfl
      | cons b l => obtain ⟨_, _, e, _⟩ := h 0 (bv b) (by simp [bvs]); cases e
    subst this
    exact run_convert_bytes_nil w src e hs he 0 c dst hd
  | some ad =>
    rcases Nat.eq_zero_or_pos l.length with h0 | h0
    · obtain rfl : l = [] := List.eq_nil_of_length_eq_zero h0
      simp [convert, run_underlying hs, run_underlying hd, run_underlying he, Conv.bytesToString, loadCells, loadCellsFrom, str]
      rfl
    · obtain ⟨g, o, hA⟩ := h.some_ (by simpa [bvs] using h0)
      injection hA with hA
      subst hA
      have hcell : ∀ i, i < l.length → w.cell? ⟨g, o + i, none⟩ = some (.int .u8 ((l.map fun b => (b.toNat : Int)).getD i 0)) := fun i hi => by
        obtain ⟨g', o', e', hc⟩ := h i (bv l[i]) (by simp [bvs, hi])
        injection e' with e'
        injection e' with e1 e2
        subst e1; subst e2
        rw [hc]
        simp [bv, hi]
      have := run_convert_bytes_arg (P := P) w src e hs he g o l.length c (l.map fun b => (b.toNat : Int)) (by simp) hcell dst hd
      rw [this]
      unfold str strOfNums
      have hid : ((fun n : Int => UInt8.ofNat n.toNat) ∘ fun b : UInt8 => (b.toNat : Int)) = id := by funext b; simp
      simp [hid]

/-- The same bytes? -/
theorem equal_o (a b : List UInt8) (A B : Option Addr) (c d : Nat) (w : World) (ha : Rd w A (bvs a)) (hb : Rd w B (bvs b)) :
    Calls Try.prog 41 #[.slice A a.length c, .slice B b.length d] w (fun e w' => e = .returned (.bool (a == b)) ∧ w = w') := by
  have h1 := run_str (P := Try.prog) w ha 22 9 5 Try.underlying22 Try.underlying5 Try.underlying9 a.length c rfl
  have h2 := run_str (P := Try.prog) w hb 22 9 5 Try.underlying22 Try.underlying5 Try.underlying9 b.length d rfl
  unfold str at h1 h2
  go_enter Try.func41, Try.ntmps41
  go_wp2
  go_ret
  exact ⟨by simp, rfl⟩

theorem same_o (a b : List UInt8) (ok : Bool) (A B : Option Addr) (c d : Nat) (w : World) (ha : Rd w A (bvs a)) (hb : Rd w B (bvs b)) (hc : a.length ≤ c) (hok : ok = true → 4 ≤ a.length) :
    Calls Try.prog 33 #[.slice A a.length c, .bool ok, .slice B b.length d] w (fun e w' => e = .returned (.bool (ok && (a.drop 4 == b))) ∧ w = w') := by
  cases ok with
  | false =>
    go_enter Try.func33, Try.ntmps33
    go_wp2
    go_ret
    exact ⟨by simp, rfl⟩
  | true =>
    have h4 : 4 ≤ a.length := hok rfl
    have hd : (a.drop 4).length = a.length - 4 := by simp
    by_cases hc4 : c = 4
    · have ha4 : a.length = 4 := by omega
      have hnil : bvs (a.drop 4) = [] := by rw [List.drop_of_length_le (by omega)]; rfl
      have h1 := equal_o (a.drop 4) b A B 0 d w (by rw [hnil]; exact Rd.nil_) hb
      rw [hd, ha4] at h1
      have H1 := Lib.hid h1
      clear h1
      rw [ha4]
      subst hc4
      clear hnil ha4 hd
      go_enter Try.func33, Try.ntmps33
      go_wp2_with fail
      refine H1.out.mono ?_
      rintro e w' ⟨rfl, rfl⟩
      go_wp2
      go_ret
      exact ⟨by simp, rfl⟩
    · have h1 := equal_o (a.drop 4) b (Option.map (fun x => ({ block := x.block, off := x.off + 4 } : Addr)) A) B (c - 4) d w (by have := ha.dropS 4 (by omega); unfold bvs at this ⊢; rwa [List.map_drop]) hb
      rw [hd] at h1
      have H1 := Lib.hid h1
      clear h1 hd
      go_enter Try.func33, Try.ntmps33
      go_wp2_with fail
      refine H1.out.mono ?_
      rintro e w' ⟨rfl, rfl⟩
      go_wp2
      go_ret
      exact ⟨by simp, rfl⟩

def rbytes (s : List UInt8 × Bool) (k : Nat) : List UInt8 × (List UInt8 × Bool) := rtake (rget s k).2 (rget s k).1

theorem rtake_len (s : List UInt8 × Bool) (n : Nat) : (rtake s n).1.length ≤ s.1.length ∧ (rtake s n).2.1.length ≤ s.1.length := by
  unfold rtake
  split <;> simp
  omega

theorem grown_below {w w1 : World} {U g : Nat} (h : w.grownBy w1 (some g)) (hU : U ≤ g) (hw : U ≤ w.heap.size) : Below U w w1 :=
  ⟨h.os, h.tape, h.output, h.size, fun k hk => h.block k (by omega) (fun e => by injection e with e; omega)⟩
theorem grown_trans {w w1 w2 : World} {g : Nat} (h : w.grownBy w1 (some g)) (k : w1.grownBy w2 (some g)) : w.grownBy w2 (some g) :=
  ⟨k.os.trans h.os, k.tape.trans h.tape, k.output.trans h.output, Nat.le_trans h.size k.size, fun i hi hne => (k.block i (Nat.lt_of_lt_of_le hi h.size) hne).trans (h.block i hi hne)⟩
theorem grown_of_below {w w1 : World} {g : Option Nat} (h : Below w.heap.size w w1) : w.grownBy w1 g := ⟨h.os, h.tape, h.output, h.size, fun i hi _ => h.block i hi⟩

set_option maxRecDepth 100000 in
set_option maxHeartbeats 400000 in
theorem rbytes_o (k : Nat) (hk : k ≤ 4) (U g : Nat) (s : List UInt8 × Bool) (w : World) (hR : RdO w U g s) (hs : s.1.length ≤ 1000000000) :
    Calls Try.prog 31 #[.pointer (some ⟨g, 0, none⟩), .int .i64 (k : Int)] w (fun e w' =>
      (∃ A c, e = .returned (.slice A (rbytes s k).1.length c) ∧ (rbytes s k).1.length ≤ c ∧ w'.ownsRow w.heap.size 5 1 (.slice A (rbytes s k).1.length c) (rbytes s k).1.length (bvs (rbytes s k).1)) ∧ RdO w' U g (rbytes s k).2 ∧ w.grownBy w' (some g)) := by
  have h1 := (rtake_len s k).2
  have h2 := rtake_len (rget s k).2 (rget s k).1
  have h3 : (rget s k).2.1.length ≤ s.1.length := h1
  have hb4 : (rtake s k).1.length ≤ 4 := by unfold rtake; split <;> simp; omega
  have hv : (rget s k).1 < 4294967296 := Nat.lt_of_lt_of_le (beV_lt _ _ rfl) (Nat.le_trans (Nat.pow_le_pow_right (by omega) hb4) (by decide))
  go_enter Try.func31, Try.ntmps31
  go_wp2_with fail
  refine (get_o k hk U g s w hR (by omega)).mono ?_
  rintro e w1 ⟨rfl, hR1, hf1⟩
  go_wp2_with fail
  refine (take_o (rget s k).1 (by omega) U g _ w1 hR1 (by omega)).mono ?_
  rintro e w2 ⟨⟨A, c, rfl, hc, hrd⟩, hR2, hf2⟩
  go_wp2_with fail
  refine (clone_o _ A c w2 hrd.rd (by omega)).mono ?_
  rintro e w3 ⟨A', c', rfl, hc', ho, hb⟩
  go_wp2
  go_ret
  exact ⟨⟨A', c', by simp; rfl, hc', own_less ho (Nat.le_trans hf1.size hf2.size)⟩, hR2.kept hb, grown_trans (grown_trans hf1 hf2) (grown_of_below hb)⟩

/-- Cells of attributes that the call made from block base on. -/
structure AtRow (w : World) (base : Nat) (xs : List Value) (L : List AttrD) : Prop where
  len : xs.length = L.length * 2
  at_ : ∀ (i : Nat) (t : Int) (v : List UInt8), L[i]? = some (t, v) → xs[i * 2]? = some (.int .i64 t) ∧
    ∃ Av cv, xs[i * 2 + 1]? = some (.slice Av v.length cv) ∧ v.length ≤ cv ∧ w.ownsRow base 5 1 (.slice Av v.length cv) v.length (bvs v)
  one : ∀ u ∈ xs, u.oneCell' = true
theorem AtRow.nil_ (w : World) (base : Nat) : AtRow w base [] [] := ⟨rfl, fun i t v h => by simp at h, fun u h => by simp at h⟩
theorem AtRow.kept {w w' : World} {base : Nat} {xs : List Value} {L : List AttrD} {row : Option Nat} (h : AtRow w base xs L) (hg : w.grownBy w' row)
    (hrow : ∀ g, row = some g → ∀ cs fr, w.heap[g]? ≠ some (.cells cs 5 fr)) : AtRow w' base xs L := by
  refine ⟨h.len, fun i t v hi => ?_, h.one⟩
  obtain ⟨h1, Av, cv, h2, h3, h4⟩ := h.at_ i t v hi
  refine ⟨h1, Av, cv, h2, h3, h4.kept hg ?_⟩
  rcases h4.2 with ⟨e, _⟩ | ⟨g, cap, cur, e, _, hh, _⟩
  · left; rw [e]; rfl
  · right
    rw [e]
    intro he
    exact hrow g he.symm _ _ hh
theorem AtRow.snoc {w : World} {base : Nat} {xs : List Value} {L : List AttrD} (h : AtRow w base xs L) (t : Int) (v : List UInt8) (Av : Option Addr) (cv : Nat) (hc : v.length ≤ cv)
    (ho : w.ownsRow base 5 1 (.slice Av v.length cv) v.length (bvs v)) : AtRow w base (xs ++ [.int .i64 t, .slice Av v.length cv]) (L ++ [(t, v)]) := by
  have hl := h.len
  refine ⟨by simp [hl, Nat.add_mul], fun i t' v' hi => ?_, fun u hu => ?_⟩
  · by_cases hlt : i < L.length
    · rw [List.getElem?_append_left hlt] at hi
      obtain ⟨h1, Av, cv, h2, h3, h4⟩ := h.at_ i t' v' hi
      exact ⟨by rw [List.getElem?_append_left (by omega)]; exact h1, Av, cv, by rw [List.getElem?_append_left (by omega)]; exact h2, h3, h4⟩
    · rw [List.getElem?_append_right (by omega)] at hi
      have hi0 : i = L.length := by
        rcases Nat.lt_or_ge (i - L.length) 1 with h0 | h0
        · omega
        · rw [List.getElem?_eq_none (by simpa using h0)] at hi; cases hi
      subst hi0
      simp at hi
      obtain ⟨rfl, rfl⟩ := hi
      refine ⟨?_, Av, cv, ?_, hc, ho⟩
      · rw [List.getElem?_append_right (by omega), hl]; simp
      · rw [List.getElem?_append_right (by omega), hl]; simp
  · rcases List.mem_append.1 hu with hu | hu
    · exact h.one u hu
    · simp at hu
      rcases hu with rfl | rfl <;> rfl
theorem AtRow.atU {w : World} {base c : Nat} {xs : List Value} {L : List AttrD} {A : Option Addr} (h : AtRow w base xs L) (ho : w.ownsRow base 50 2 (.slice A L.length c) L.length xs) : AtU w w.heap.size A L := fun i t v hi => by
  obtain ⟨h1, Av, cv, h2, h3, h4⟩ := h.at_ i t v hi
  have hr := (Rd.own ho).rdU
  obtain ⟨g, o, e, hU, hc⟩ := hr _ _ h1
  obtain ⟨g2, o2, e2, _, hc2⟩ := hr _ _ h2
  rw [e] at e2
  injection e2 with e2
  injection e2 with e3 e4
  subst e3; subst e4
  exact ⟨g, o, e, hU, hc, Av, cv, by rw [Nat.add_assoc]; exact hc2, h3, (Rd.own h4).rdU⟩

/-- What reading attributes gives. -/
def rattrN : Nat → List AttrD × (List UInt8 × Bool) → List AttrD × (List UInt8 × Bool)
  | 0, p => p
  | k + 1, p => let q := rattrN k p; (q.1 ++ [(((rget q.2 2).1 : Int), (rbytes (rget q.2 2).2 2).1)], (rbytes (rget q.2 2).2 2).2)
def rattrs (s : List UInt8 × Bool) : List AttrD × (List UInt8 × Bool) := rattrN (rget s 1).1 ([], (rget s 1).2)
theorem info50 : (Try.prog.info? 50).map (fun i => (i.zero, i.size, i.bytes)) = some (some (.agg #[.int .i64 0, .slice none 0 0]), 2, 32) := by kernel_rfl
theorem rget_len (s : List UInt8 × Bool) (k : Nat) : (rget s k).2.1.length ≤ s.1.length := (rtake_len s k).2
theorem rbytes_len (s : List UInt8 × Bool) (k : Nat) : (rbytes s k).2.1.length ≤ s.1.length := Nat.le_trans (rtake_len _ _).2 (rget_len s k)
theorem rattrN_len (k : Nat) (p : List AttrD × (List UInt8 × Bool)) : (rattrN k p).2.1.length ≤ p.2.1.length ∧ (rattrN k p).1.length = p.1.length + k := by
  induction k with
  | zero => exact ⟨Nat.le_refl _, rfl⟩
  | succ k ih =>
    refine ⟨Nat.le_trans (Nat.le_trans (rbytes_len _ _) (rget_len _ _)) ih.1, ?_⟩
    show ((rattrN k p).1 ++ [_]).length = _
    simp [ih.2]
    omega

theorem RdO.ne5 {w : World} {U g : Nat} {s : List UInt8 × Bool} (h : RdO w U g s) {t : TypeId} (ht : t ≠ 68) : ∀ cs fr, w.heap[g]? ≠ some (.cells cs t fr) := fun cs fr e => by
  obtain ⟨A, c, h⟩ := h
  rw [h.blk] at e
  injection e with e
  injection e with _ e2 _
  exact ht e2.symm
theorem RdO.kept2 {w w' : World} {U g : Nat} {s : List UInt8 × Bool} (h : RdO w U g s) {row : Option Nat} (hg : w.grownBy w' row) (hrow : ∀ r, row = some r → g < r) : RdO w' U g s := by
  obtain ⟨A, c, h⟩ := h
  have hl := h.lt
  have hle := h.le
  refine ⟨A, c, (hg.block g hl (fun e => by have := hrow _ e.symm; omega)).trans h.blk, h.rd.below ⟨hg.os, hg.tape, hg.output, hg.size, fun k hk => hg.block k (by omega) (fun e => by have := hrow _ e.symm; omega)⟩, h.cap, h.le⟩
theorem own_ne {w : World} {base n k g : Nat} {e t : TypeId} {v : Value} {xs cs' : List Value} (h : w.ownsRow base e k v n xs) (hg : ∀ cs fr, w.heap[g]? ≠ some (.cells cs e fr)) : v.ownBlock = none ∨ v.ownBlock ≠ some g := by
  rcases h.2 with ⟨e1, _⟩ | ⟨g', cap, cur, e1, _, hh, _⟩
  · left; rw [e1]; rfl
  · right
    rw [e1]
    intro he
    have : g' = g := by simpa [Value.ownBlock] using he
    subst this
    exact hg _ _ hh

set_option maxRecDepth 100000 in
set_option maxHeartbeats 400000 in
theorem rattrs_o (U g : Nat) (s : List UInt8 × Bool) (w : World) (hR : RdO w U g s) (hs : s.1.length ≤ 1000000000) :
    Calls Try.prog 32 #[.pointer (some ⟨g, 0, none⟩)] w (fun e w' =>
      (∃ A c xs, e = .returned (.slice A (rattrs s).1.length c) ∧ (rattrs s).1.length ≤ c ∧ w'.ownsRow w.heap.size 50 2 (.slice A (rattrs s).1.length c) (rattrs s).1.length xs ∧ AtRow w' w.heap.size xs (rattrs s).1) ∧ RdO w' U g (rattrs s).2 ∧ w.grownBy w' (some g)) := by
  have hv : (rget s 1).1 < 256 := by
    have h1 : (rtake s 1).1.length ≤ 1 := by unfold rtake; split <;> simp; omega
    exact Nat.lt_of_lt_of_le (beV_lt _ _ rfl) (Nat.le_trans (Nat.pow_le_pow_right (by omega) h1) (by decide))
  have hl1 := rget_len s 1
  go_enter Try.func32, Try.ntmps32
  go_wp2_with fail
  refine (get_o 1 (by omega) U g s w hR (by omega)).mono ?_
  rintro e w1 ⟨rfl, hR1, hf1⟩
  go_wp2_with fail
  go_loopw [7, 3] (fun i v wr => ∃ k : Nat, k ≤ (rget s 1).1 ∧ i = .int .i64 k ∧ ∃ A c xs, v = .slice A k c ∧ k ≤ c ∧ wr.ownsRow w.heap.size 50 2 (.slice A k c) k xs ∧ AtRow wr w.heap.size xs (rattrN k ([], (rget s 1).2)).1 ∧
      RdO wr U g (rattrN k ([], (rget s 1).2)).2 ∧ w.grownBy wr (some g)) (fun i _ _ => (rget s 1).1 - (intOf i).toNat)
  case atStart => exact ⟨0, by omega, rfl, none, 0, [], rfl, Nat.le_refl _, World.ownsRow_nil _ _ _ _, AtRow.nil_ _ _, hR1, hf1⟩
  case round =>
    obtain ⟨k, hk, rfl, A, c, xs, rfl, hkc, ho, hat, hRk, hfk⟩ := hrel
    have hlen := rattrN_len k ([], (rget s 1).2)
    have hl2 := rget_len (rattrN k ([], (rget s 1).2)).2 2
    have hUg := hR.lt
    dsimp only at hlen
    by_cases hlt : k < (rget s 1).1
    · go_wp2_with fail
      refine (get_o 2 (by omega) U g _ wr hRk (by omega)).mono ?_
      rintro e w2 ⟨rfl, hR2, hf2⟩
      have ho2 := ho.kept hf2 (own_ne (t := 68) (cs' := []) ho (hRk.ne5 (by decide)))
      have hat2 := hat.kept hf2 (fun r hr cs fr => by injection hr with hr; subst hr; exact hRk.ne5 (by decide) cs fr)
      have hf2' := grown_trans hfk hf2
      go_wp2_with fail
      refine (rbytes_o 2 (by omega) U g _ w2 hR2 (by omega)).mono ?_
      rintro e w3 ⟨⟨A3, c3, rfl, hc3, ho3⟩, hR3, hf3⟩
      have ho3' := own_less ho3 hf2'.size
      have ho4 := ho2.kept hf3 (own_ne (t := 68) (cs' := []) ho2 (hR2.ne5 (by decide)))
      have hat4 := (hat2.kept hf3 (fun r hr cs fr => by injection hr with hr; subst hr; exact hR2.ne5 (by decide) cs fr)).snoc ((rget (rattrN k ([], (rget s 1).2)).2 2).1 : Int) _ A3 c3 hc3 ho3'
      have hf3' := grown_trans hf2' hf3
      clear ho ho2 hat hat2 hf2 hf3 hfk hRk hR2 ho3
      go_wp2_with (at_builtin; refine Stop.out ?_)
      refine Stop.mk ?_
      refine wpList_app _ rfl (.tmp 11) (.tmp 16) 25 rfl 50 (.agg #[.int .i64 0, .slice none 0 0]) 2 32 w.heap.size Try.underlying25 info50 rfl (by omega) (.slice A k c) k xs rfl (own_below ho4 (below_alloc _ _)) _ 1 _ _ rfl (by rfl) (Rd.lit _ _ _) (by simp [Value.oneCell']) (by omega) (by omega) (by simp; exact Nat.le_trans hf3'.size (Nat.le_succ _)) ?_
      intro A' c' w5 ho5 hg5 hat5
      have hgb : ∀ r, (Value.slice A k c).ownBlock = some r → w.heap.size ≤ r := fun r hr => (ho4.lt r hr).1
      have hR5 := (hR3.kept (below_alloc w3 (.cells #[.int .i64 ((rget (rattrN k ([], (rget s 1).2)).2 2).1 : Int), .slice A3 (rbytes (rget (rattrN k ([], (rget s 1).2)).2 2).2 2).1.length c3] 50))).kept2 hg5 (fun r hr => by have := hgb r hr; omega)
      have hat6 := (hat4.kept (grown_of_below (g := none) (below_alloc w3 (.cells #[.int .i64 ((rget (rattrN k ([], (rget s 1).2)).2 2).1 : Int), .slice A3 (rbytes (rget (rattrN k ([], (rget s 1).2)).2 2).2 2).1.length c3] 50))) (by simp)).kept hg5 (fun r hr cs fr he => by
        rcases (own_below ho4 (below_alloc w3 (.cells #[.int .i64 ((rget (rattrN k ([], (rget s 1).2)).2 2).1 : Int), .slice A3 (rbytes (rget (rattrN k ([], (rget s 1).2)).2 2).2 2).1.length c3] 50))).2 with ⟨e1, _⟩ | ⟨g', cap, cur, e1, _, hh, _⟩
        · rw [e1] at hr; simp [Value.ownBlock] at hr
        · rw [e1] at hr
          have : g' = r := by simpa [Value.ownBlock] using hr
          subst this
          rw [hh] at he
          injection he with he
          injection he with _ ht _
          exact absurd ht (by decide))
      have hf6 : w.grownBy w5 (some g) := ⟨hg5.os.trans hf3'.os, hg5.tape.trans hf3'.tape, hg5.output.trans hf3'.output, Nat.le_trans hf3'.size (Nat.le_trans (by simp) hg5.size), fun i hi hne =>
        (hg5.block i (by have := hf3'.size; simp; omega) (fun e => by have := hgb i e.symm; omega)).trans ((Below.heap_alloc _ _ _ (Nat.lt_of_lt_of_le hi hf3'.size)).trans (hf3'.block i hi hne))⟩
      clear hg5 hat5 hat4 ho4 hR3 ho3' hf3' hf2'
      go_wp2_with fail
      go_roundw
      case rel =>
        refine ⟨k + 1, hlt, by go_num, A', c', _, rfl, by have := (own_cap ho5).2.1; omega, ho5, hat6, hR5, hf6⟩
      case measure => simp [intOf]; omega
    · obtain rfl : k = (rget s 1).1 := by omega
      have hlk : (rattrs s).1.length = (rget s 1).1 := by unfold rattrs; simpa using hlen.2
      have HK := Lib.hid hlk
      clear hlk
      go_wp2_with fail
      go_ret
      exact ⟨⟨A, c, xs, by rw [HK.out]; simp, by rw [HK.out]; exact hkc, by rw [HK.out]; exact ho, hat⟩, hRk, hfk⟩
end Go.Proofs.Ytekblnaogncplaa
