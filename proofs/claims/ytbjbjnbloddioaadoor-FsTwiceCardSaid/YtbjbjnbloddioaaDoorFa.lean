/- A disk in memory. -/
import Derived.Test.YtbjbjnbloddioaaDoorEe
set_option linter.unusedVariables false
set_option linter.unusedSimpArgs false
namespace Go.Proofs.YtbjbjnbloddioaaDoor
open Go.RowKit Go.Shelf

/-- What is changed of what was there lies in S. -/
structure Fr (S : Nat → Prop) (w w' : World) : Prop where
  os : w'.os = w.os
  tape : w'.tape = w.tape
  output : w'.output = w.output
  size : w.heap.size ≤ w'.heap.size
  block : ∀ k, k < w.heap.size → ¬ S k → w'.heap[k]? = w.heap[k]?
section
variable {S S' : Nat → Prop} {a b c w w' : World}
theorem Fr.refl (S : Nat → Prop) (w : World) : Fr S w w := ⟨rfl, rfl, rfl, Nat.le_refl _, fun _ _ _ => rfl⟩
theorem Fr.trans (h : Fr S a b) (k : Fr S b c) : Fr S a c :=
  ⟨k.os.trans h.os, k.tape.trans h.tape, k.output.trans h.output, Nat.le_trans h.size k.size, fun i hi hs => (k.block i (Nat.lt_of_lt_of_le hi h.size) hs).trans (h.block i hi hs)⟩
theorem Fr.more (h : Fr S w w') (hS : ∀ k, k < w.heap.size → S k → S' k) : Fr S' w w' := ⟨h.os, h.tape, h.output, h.size, fun k hk hs => h.block k hk (fun h => hs (hS k hk h))⟩
theorem Fr.below (h : Below w.heap.size w w') : Fr S w w' := ⟨h.os, h.tape, h.output, h.size, fun k hk _ => h.block k hk⟩
theorem Fr.set (h : Fr S a b) {p : Addr} (hp : S p.block) (v : Value) : Fr S a (b.setCell p v) :=
  h.trans ⟨rfl, rfl, rfl, by simp, fun k _ hs => heap_setCell_other b p k v (fun e => hs (by rw [e]; exact hp))⟩
theorem Fr.to (h : Fr S w w') {B : Nat} (hB : ∀ k, S k → B ≤ k) (hw : B ≤ w.heap.size) : Below B w w' :=
  ⟨h.os, h.tape, h.output, h.size, fun k hk => h.block k (by omega) (fun hs => by have := hB k hs; omega)⟩
theorem Fr.same (h : Fr S w w') {k : Nat} {o : Obj} (hk : w.heap[k]? = some o) (hs : ¬ S k) : w'.heap[k]? = some o := (h.block k (Array.getElem?_eq_some_iff.1 hk).1 hs).trans hk
/-- A frame over what stood there at first, told of a later world: what is made since may be changed. -/
theorem Fr.of (h : Fr S w w') (k : Fr S' w' c) (hS : ∀ i, i < w.heap.size → S' i → S i) : Fr S w c :=
  ⟨k.os.trans h.os, k.tape.trans h.tape, k.output.trans h.output, Nat.le_trans h.size k.size, fun i hi hs => (k.block i (Nat.lt_of_lt_of_le hi h.size) (fun h' => hs (hS i hi h'))).trans (h.block i hi hs)⟩
theorem Fr.grown {r : Option Nat} (h : w.grownBy w' r) (hr : ∀ k, r = some k → S k) : Fr S w w' := ⟨h.os, h.tape, h.output, h.size, fun k hk hs => h.block k hk (fun e => hs (hr k e.symm))⟩
end
/-- Bytes where they stand, in blocks of bytes. -/
def Rd5 (w : World) (A : Option Addr) (b : List UInt8) : Prop := ∀ j u, (bvs b)[j]? = some u → ∃ g o cs, A = some ⟨g, o, none⟩ ∧ w.heap[g]? = some (.cells cs 5 (0, 0)) ∧ cs[o + j]? = some u
/-- No block of bytes lies in S. -/
def No5 (S : Nat → Prop) (w : World) : Prop := ∀ k, S k → ∀ cs, w.heap[k]? ≠ some (.cells cs 5 (0, 0))
section
variable {S : Nat → Prop} {w w' : World} {A : Option Addr} {b : List UInt8}
theorem Rd5.rd (h : Rd5 w A b) : Rd w A (bvs b) := fun j u hu => by
  obtain ⟨g, o, cs, e, hg, hc⟩ := h j u hu
  exact ⟨g, o, e, (cell_of_row w g (o + j) cs 5 (0, 0) hg).trans hc⟩
theorem Rd5.fr (h : Rd5 w A b) (hf : Fr S w w') (hS : No5 S w) : Rd5 w' A b := fun j u hu => by
  obtain ⟨g, o, cs, e, hg, hc⟩ := h j u hu
  exact ⟨g, o, cs, e, hf.same hg (fun hs => hS g hs cs hg), hc⟩
theorem Rd5.below (h : Rd5 w A b) (hb : Below w.heap.size w w') : Rd5 w' A b := h.fr (S := fun _ => False) (Fr.below hb) (fun _ h => h.elim)
theorem Rd5.own {base n k c : Nat} (h : w.ownsRow base 5 k (.slice A n c) n (bvs b)) : Rd5 w A b := fun j u hu => by
  rcases h.2 with ⟨hv, h0⟩ | ⟨g, cap, cur, hv, _, hh, _, _, hs, ht⟩
  · have := h.1
    subst h0
    simp [bvs_length] at this
    subst this
    simp [bvs] at hu
  · injection hv with hA _ _
    subst hA
    rw [← ht, List.getElem?_take] at hu
    split at hu
    · exact ⟨g, 0, cur, rfl, hh, by simpa using hu⟩
    · cases hu
theorem Rd5.blk {g : Nat} (h : w.heap[g]? = some (.cells (bvs b).toArray 5 (0, 0))) : Rd5 w (some ⟨g, 0, none⟩) b := fun j u hu => ⟨g, 0, _, rfl, h, by simpa using hu⟩
end
/-- A slice of bytes. -/
def Row (w : World) (v : Value) (b : List UInt8) : Prop := ∃ A c, v = .slice A b.length c ∧ b.length ≤ c ∧ Rd5 w A b
/-- A sector's bytes: none stands for zeros. -/
def SecV (w : World) (v : Value) (b : List UInt8) : Prop := b.length = 256 ∧ ((v = .slice none 0 0 ∧ b = zs 256) ∨ Row w v b)
section
variable {S : Nat → Prop} {w w' : World} {v : Value} {b : List UInt8}
theorem Row.fr (h : Row w v b) (hf : Fr S w w') (hS : No5 S w) : Row w' v b := by
  obtain ⟨A, c, e, hc, hr⟩ := h
  exact ⟨A, c, e, hc, hr.fr hf hS⟩
theorem SecV.fr (h : SecV w v b) (hf : Fr S w w') (hS : No5 S w) : SecV w' v b := ⟨h.1, h.2.imp id (·.fr hf hS)⟩
theorem SecV.zero (w : World) : SecV w (.slice none 0 0) (zs 256) := ⟨zs_length _, .inl ⟨rfl, rfl⟩⟩
end
structure SecD where
  now : List UInt8
  syn : List UInt8
  dirty : Bool
/-- A disk: its sectors; what its fuse lets through. -/
structure DiskD where
  secs : List SecD
  fuse : Option Nat
namespace DiskD
def dead (D : DiskD) : Bool := D.fuse == some 0
def done (D : DiskD) : DiskD := { D with fuse := D.fuse.map (· - 1) }
def new (n : Nat) : DiskD := { secs := List.replicate n ⟨zs 256, zs 256, false⟩, fuse := none }
def put (D : DiskD) (i : Nat) (b : List UInt8) : DiskD := { D with secs := D.secs.modify i fun s => { s with now := b, dirty := true } }
def write (D : DiskD) (i : Nat) (b : List UInt8) : Bool × DiskD := if D.dead then (false, D) else (true, (D.put i b).done)
def flush (D : DiskD) : DiskD := { D with secs := D.secs.map fun s => { s with syn := s.now, dirty := false } }
def sync (D : DiskD) : Bool × DiskD := if D.dead then (false, D) else (true, D.flush.done)
def setFuse (D : DiskD) (n : Nat) : DiskD := if D.dead then D else { D with fuse := some n }
def at_ (D : DiskD) (i : Nat) : List UInt8 := (D.secs[i]?.map (·.now)).getD []
def wrote (D : DiskD) (i : Nat) (b : List UInt8) : Bool × DiskD := if D.at_ i = b then (true, D) else D.write i b
end DiskD
/-- The sectors' cells. -/
def SecAt (w : World) (cs : Array Value) (i : Nat) (s : SecD) : Prop := ∃ nv sv, cs[i * 3]? = some nv ∧ cs[i * 3 + 1]? = some sv ∧ cs[i * 3 + 2]? = some (.bool s.dirty) ∧ SecV w nv s.now ∧ SecV w sv s.syn
def dkCells (gl n : Nat) (f : Option Nat) (cnt : Int) : Array Value :=
  #[.slice (some ⟨gl, 0, none⟩) n n, .bool f.isSome, .int .i64 (f.getD 0 : Nat), .bool (f == some 0), .int .i64 cnt]
structure DiskAt (w : World) (g gl : Nat) (D : DiskD) : Prop where
  dk : ∃ cnt : Int, w.heap[g]? = some (.cells (dkCells gl D.secs.length D.fuse cnt) 69 (0, 0))
  ss : ∃ cs, w.heap[gl]? = some (.cells cs 71 (0, 0)) ∧ cs.size = D.secs.length * 3 ∧ ∀ i s, D.secs[i]? = some s → SecAt w cs i s
  small : ∀ n, D.fuse = some n → n ≤ 1000
  len : D.secs.length ≤ 65536
def two (g gl : Nat) : Nat → Prop := fun k => k = g ∨ k = gl
section
variable {S : Nat → Prop} {w w' : World} {g gl : Nat} {D : DiskD}
theorem SecAt.fr {cs : Array Value} {i : Nat} {s : SecD} (h : SecAt w cs i s) (hf : Fr S w w') (hS : No5 S w) : SecAt w' cs i s := by
  obtain ⟨nv, sv, h1, h2, h3, h4, h5⟩ := h
  exact ⟨nv, sv, h1, h2, h3, h4.fr hf hS, h5.fr hf hS⟩
theorem DiskAt.no5 (h : DiskAt w g gl D) : No5 (two g gl) w := by
  obtain ⟨cnt, h1⟩ := h.dk
  obtain ⟨cs', h2, _⟩ := h.ss
  rintro k (rfl | rfl) cs e
  · rw [h1] at e; injection e with e; injection e with _ e _; exact absurd e (by decide)
  · rw [h2] at e; injection e with e; injection e with _ e _; exact absurd e (by decide)
theorem DiskAt.ne (h : DiskAt w g gl D) : g ≠ gl := by
  obtain ⟨cnt, h1⟩ := h.dk
  obtain ⟨cs', h2, _⟩ := h.ss
  intro e
  subst e
  rw [h1] at h2
  injection h2 with e
  injection e with _ e _
  exact absurd e (by decide)
theorem DiskAt.lt (h : DiskAt w g gl D) : g < w.heap.size ∧ gl < w.heap.size := by
  obtain ⟨cnt, h1⟩ := h.dk
  obtain ⟨cs', h2, _⟩ := h.ss
  exact ⟨(Array.getElem?_eq_some_iff.1 h1).1, (Array.getElem?_eq_some_iff.1 h2).1⟩
theorem DiskAt.fr (h : DiskAt w g gl D) (hf : Fr S w w') (hS : No5 S w) (h1 : ¬ S g) (h2 : ¬ S gl) : DiskAt w' g gl D := by
  obtain ⟨cnt, hd⟩ := h.dk
  obtain ⟨cs, hs, hz, hc⟩ := h.ss
  exact ⟨⟨cnt, hf.same hd h1⟩, ⟨cs, hf.same hs h2, hz, fun i s hi => (hc i s hi).fr hf hS⟩, h.small, h.len⟩
theorem DiskAt.below (h : DiskAt w g gl D) (hb : Below w.heap.size w w') : DiskAt w' g gl D := h.fr (S := fun _ => False) (Fr.below hb) (fun _ h => h.elim) id id
end
theorem info71 : (Tryd.prog.info? 71).map (fun i => (i.zero, i.size, i.bytes)) = some (some (.agg #[.slice none 0 0, .slice none 0 0, .bool false]), 3, 56) := by kernel_rfl
theorem size69 : (Tryd.prog.info? 69).map (·.size) = some 5 := by kernel_rfl

set_option maxRecDepth 100000 in
theorem sectors_nil (w : World) : Calls Tryd.prog 29 #[.pointer none] w (fun e w' => e = .returned (.int .i64 0) ∧ w = w') := by
  go_enter Tryd.func29, Tryd.ntmps29
  go_wp2_with fail
  go_ret
  exact ⟨rfl, rfl⟩
set_option maxRecDepth 100000 in
theorem sectors_o (g gl : Nat) (D : DiskD) (w : World) (h : DiskAt w g gl D) : Calls Tryd.prog 29 #[.pointer (some ⟨g, 0, none⟩)] w (fun e w' => e = .returned (.int .i64 (D.secs.length : Nat)) ∧ w = w') := by
  obtain ⟨cnt, hd⟩ := h.dk
  have c0 : w.cell? ⟨g, 0, none⟩ = some (.slice (some ⟨gl, 0, none⟩) D.secs.length D.secs.length) := cell_of_row _ g 0 _ 69 (0, 0) hd
  go_enter Tryd.func29, Tryd.ntmps29
  go_wp2_with fail
  go_ret
  exact ⟨rfl, rfl⟩
set_option maxRecDepth 100000 in
theorem dead_nil (w : World) : Calls Tryd.prog 36 #[.pointer none] w (fun e w' => e = .returned (.bool true) ∧ w = w') := by
  go_enter Tryd.func36, Tryd.ntmps36
  go_wp2_with fail
  go_ret
  exact ⟨rfl, rfl⟩
set_option maxRecDepth 100000 in
theorem dead_o (g gl : Nat) (D : DiskD) (w : World) (h : DiskAt w g gl D) : Calls Tryd.prog 36 #[.pointer (some ⟨g, 0, none⟩)] w (fun e w' => e = .returned (.bool D.dead) ∧ w = w') := by
  obtain ⟨cnt, hd⟩ := h.dk
  have c3 : w.cell? ⟨g, 3, none⟩ = some (.bool D.dead) := cell_of_row _ g 3 _ 69 (0, 0) hd
  go_enter Tryd.func36, Tryd.ntmps36
  go_wp2_with fail
  go_ret
  exact ⟨rfl, rfl⟩
set_option maxRecDepth 100000 in
/-- zeros: a row of the call's own. -/
theorem zeros_o (v : Value) (b : List UInt8) (w : World) (h : SecV w v b) : Calls Tryd.prog 45 #[v] w (fun e w' => ∃ A c, e = .returned (.slice A 256 c) ∧ 256 ≤ c ∧ w'.ownsRow w.heap.size 5 1 (.slice A 256 c) 256 (bvs b) ∧ Below w.heap.size w w') := by
  obtain ⟨i, hi, hz, hs, hby⟩ := info_parts info5
  obtain ⟨hl, ⟨rfl, rfl⟩ | ⟨A, c, rfl, hc, hr⟩⟩ := h
  · have hq : ∀ w : World, (binOp .eql 28 (.slice none 0 0) (.slice none 0 0)).run Tryd.prog w = .ok (.bool true) w := fun w => Lib.run_eql_slice_nil (P := Tryd.prog) w 28 5 none 0 0 0 0 Tryd.underlying28
    go_enter Tryd.func45, Tryd.ntmps45
    go_wp2_with (at_make; refine Stop.out ?_)
    refine Stop.mk ?_
    refine wpList_make_row w rfl _ _ 28 rfl 5 i (.int .u8 0) Tryd.underlying28 hi hz hs rfl .i64 .i64 256 rfl rfl (by rw [hby]; omega) (by omega) ?_
    have hd2 : (w.alloc (.cells (madeCells #[.int .u8 0] 256) 5)).heap[w.heap.size]? = some (.cells (bvs (zs 256)).toArray 5 (0, 0)) := by
      rw [heap_alloc_new]
      exact congrArg (fun x => some (Obj.cells x 5 (0, 0))) (Array.ext' (by rw [toList_madeCells_one]; simp [zs, bvs, bv]))
    have hbE := below_alloc w (.cells (madeCells #[.int .u8 0] 256) 5)
    generalize w.alloc (.cells (madeCells #[.int .u8 0] 256) 5) = w2 at hd2 hbE ⊢
    go_wp2_with fail
    go_ret
    exact ⟨_, _, rfl, by omega, own_row (Nat.le_refl _) hd2 (by omega) (by simp [maxLen]) (by rw [bvs_length, zs_length]) (List.take_of_length_le (by rw [bvs_length, zs_length]; omega)), hbE⟩
  · obtain ⟨ga, o, rfl⟩ : ∃ ga o, A = some ⟨ga, o, none⟩ := hr.rd.some_ (by rw [bvs_length]; omega)
    have hq : ∀ w : World, (binOp .eql 28 (.slice (some ⟨ga, o, none⟩) b.length c) (.slice none 0 0)).run Tryd.prog w = .ok (.bool false) w := fun w => Lib.run_eql_slice_nil (P := Tryd.prog) w 28 5 (some ⟨ga, o, none⟩) b.length c 0 0 Tryd.underlying28
    have hcl := clone_o b (some ⟨ga, o, none⟩) c w hr.rd (by omega)
    rw [hl] at hcl hq ⊢
    go_enter Tryd.func45, Tryd.ntmps45
    go_wp2_with fail
    refine hcl.mono ?_
    rintro e w1 ⟨A', c', rfl, hc', ho, hb, _⟩
    go_wp2_with fail
    go_ret
    exact ⟨A', c', rfl, hc', ho, hb⟩
end Go.Proofs.YtbjbjnbloddioaaDoor
