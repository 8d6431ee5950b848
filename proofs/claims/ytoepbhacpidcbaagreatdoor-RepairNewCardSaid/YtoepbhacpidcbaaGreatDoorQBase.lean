/- Base words of these proofs: what a call leaves of old memory ('Fr'), and a block of memory that is known whole ('Blk'). No program is named here. -/
import Derived.WalkKit
import Derived.Deep.Draws
import Derived.WalkSpells


set_option linter.unusedVariables false
set_option linter.unusedSimpArgs false
namespace Go.Proofs.YtoepbhacpidcbaaGreatDoor
open Go.RowKit

theorem hid {p : Prop} (h : p) : Hid p := h

/-- Of the blocks that there were, none has turned but those in F. -/
structure Fr (F : Nat → Prop) (w w' : World) : Prop where
  os : w'.os = w.os
  tape : w'.tape = w.tape
  output : w'.output = w.output
  size : w.heap.size ≤ w'.heap.size
  block : ∀ k, k < w.heap.size → ¬ F k → w'.heap[k]? = w.heap[k]?

def No : Nat → Prop := fun _ => False
def One (b : Nat) : Nat → Prop := fun k => k = b

theorem Fr.refl (F : Nat → Prop) (w : World) : Fr F w w := ⟨rfl, rfl, rfl, Nat.le_refl _, fun _ _ _ => rfl⟩
theorem Fr.trans {F : Nat → Prop} {a b c : World} (h : Fr F a b) (k : Fr F b c) : Fr F a c :=
  ⟨k.os.trans h.os, k.tape.trans h.tape, k.output.trans h.output, Nat.le_trans h.size k.size, fun i hi hF => (k.block i (Nat.lt_of_lt_of_le hi h.size) hF).trans (h.block i hi hF)⟩
theorem Fr.trans' {F G : Nat → Prop} {a b c : World} (h : Fr F a b) (k : Fr G b c) (hG : ∀ i, i < a.heap.size → G i → F i) : Fr F a c :=
  ⟨k.os.trans h.os, k.tape.trans h.tape, k.output.trans h.output, Nat.le_trans h.size k.size, fun i hi hF => (k.block i (Nat.lt_of_lt_of_le hi h.size) (fun hg => hF (hG i hi hg))).trans (h.block i hi hF)⟩
theorem Fr.mono {F G : Nat → Prop} {a b : World} (h : Fr F a b) (hF : ∀ i, i < a.heap.size → F i → G i) : Fr G a b :=
  ⟨h.os, h.tape, h.output, h.size, fun i hi hg => h.block i hi (fun hf => hg (hF i hi hf))⟩
theorem Fr.no {F : Nat → Prop} {a b : World} (h : Fr No a b) : Fr F a b := h.mono fun _ _ h => h.elim
theorem Fr.alloc {F : Nat → Prop} {a w : World} (h : Fr F a w) (o : Obj) : Fr F a (w.alloc o) :=
  h.trans ⟨rfl, rfl, rfl, by simp, fun k hk _ => Below.heap_alloc _ _ _ hk⟩
theorem Fr.drew {F : Nat → Prop} {a w : World} (h : Fr F a w) : Fr F a w.drew := ⟨h.os, h.tape, h.output, h.size, h.block⟩
theorem Fr.drewN {F : Nat → Prop} {a w : World} (h : Fr F a w) (n : Nat) : Fr F a (w.drewN n) := ⟨h.os, h.tape, h.output, h.size, h.block⟩
/-- A store into a block of F, or into a new one. -/
theorem Fr.setCell {F : Nat → Prop} {a w : World} (h : Fr F a w) {p : Addr} (hp : F p.block ∨ a.heap.size ≤ p.block) (u : Value) : Fr F a (w.setCell p u) :=
  ⟨h.os, h.tape, h.output, by simpa using h.size, fun k hk hF => by
    have hne : k ≠ p.block := fun e => by subst e; exact hp.elim hF (fun h1 => by omega)
    rw [Below.heap_setCell _ _ _ _ hne]; exact h.block k hk hF⟩
theorem Fr.set1 {b : Nat} {a w : World} (h : Fr (One b) a w) (i : Nat) (u : Value) : Fr (One b) a (w.setCell ⟨b, i, none⟩ u) := h.setCell (p := ⟨b, i, none⟩) (.inl rfl) u
theorem Fr.below {w w' : World} (h : Fr No w w') : Below w.heap.size w w' := ⟨h.os, h.tape, h.output, h.size, fun k hk => h.block k hk (fun h => h)⟩
theorem Fr.of_below {w w' : World} (h : Below w.heap.size w w') : Fr No w w' := ⟨h.os, h.tape, h.output, h.size, fun k hk _ => h.block k hk⟩
theorem Fr.grown {F : Nat → Prop} {a w w' : World} {row : Option Nat} (h : Fr F a w) (hg : w.grownBy w' row) (hr : ∀ k, row = some k → F k ∨ a.heap.size ≤ k) : Fr F a w' :=
  ⟨hg.os.trans h.os, hg.tape.trans h.tape, hg.output.trans h.output, Nat.le_trans h.size hg.size, fun k hk hF => (hg.block k (Nat.lt_of_lt_of_le hk h.size) (fun e => (hr k e.symm).elim hF (fun h1 => by omega))).trans (h.block k hk hF)⟩
theorem Fr.cell {F : Nat → Prop} {w w' : World} (h : Fr F w w') {p : Addr} (hp : p.block < w.heap.size) (hF : ¬ F p.block) : w'.cell? p = w.cell? p := World.cell?_of_block (w := w) (h.block p.block hp hF)
theorem Fr.frozen {F : Nat → Prop} {w w' : World} (h : Fr F w w') {p : Addr} (hp : p.block < w.heap.size) (hF : ¬ F p.block) : w'.frozen? p = w.frozen? p := World.frozen?_of_block (w := w) (h.block p.block hp hF)
theorem Fr.cell_some {F : Nat → Prop} {w w' : World} (h : Fr F w w') {p : Addr} {v : Value} (hc : w.cell? p = some v) (hF : ¬ F p.block) : w'.cell? p = some v :=
  (h.cell (World.block_lt_of_cell? w p hc) hF).trans hc
theorem Fr.of_drewN {F : Nat → Prop} {w : World} (n : Nat) : Fr F w (w.drewN n) := (Fr.refl F w).drewN n

/-- A block of n cells of type T that holds V. -/
def Blk (w : World) (b n : Nat) (T : TypeId) (V : Nat → Value) : Prop :=
  ∃ C : Array Value, w.heap[b]? = some (.cells C T (0, 0)) ∧ C.size = n ∧ ∀ i, i < n → C[i]? = some (V i)

def upd (V : Nat → Value) (i : Nat) (v : Value) : Nat → Value := fun j => if j = i then v else V j

theorem Blk.lt {w : World} {b n : Nat} {T : TypeId} {V : Nat → Value} (h : Blk w b n T V) : b < w.heap.size := by
  obtain ⟨C, h, _⟩ := h
  rcases Nat.lt_or_ge b w.heap.size with h' | h'
  · exact h'
  · rw [Array.getElem?_eq_none h'] at h; cases h
theorem Blk.cell {w : World} {b n : Nat} {T : TypeId} {V : Nat → Value} (h : Blk w b n T V) {i : Nat} (hi : i < n) : w.cell? ⟨b, i, none⟩ = some (V i) := by
  obtain ⟨C, h, hn, hC⟩ := h
  simp [World.cell?, h, hC i hi]
theorem Blk.frozen {w : World} {b n : Nat} {T : TypeId} {V : Nat → Value} (h : Blk w b n T V) (i : Nat) : w.frozen? ⟨b, i, none⟩ = false := by
  obtain ⟨C, h, hn, hC⟩ := h
  simp [World.frozen?, h]
theorem Blk.of_heap {w w' : World} {b n : Nat} {T : TypeId} {V : Nat → Value} (h : Blk w b n T V) (e : w'.heap[b]? = w.heap[b]?) : Blk w' b n T V := by
  obtain ⟨C, h, r⟩ := h
  exact ⟨C, e.trans h, r⟩
theorem Blk.fr {w w' : World} {b n : Nat} {T : TypeId} {V : Nat → Value} (h : Blk w b n T V) {F : Nat → Prop} (hf : Fr F w w') (hF : ¬ F b) : Blk w' b n T V :=
  h.of_heap (hf.block b h.lt hF)
theorem Blk.alloc {w : World} {b n : Nat} {T : TypeId} {V : Nat → Value} (h : Blk w b n T V) (o : Obj) : Blk (w.alloc o) b n T V :=
  h.of_heap (Below.heap_alloc _ _ _ h.lt)
theorem Blk.drew {w : World} {b n : Nat} {T : TypeId} {V : Nat → Value} (h : Blk w b n T V) : Blk w.drew b n T V := h
theorem Blk.drewN {w : World} {b n : Nat} {T : TypeId} {V : Nat → Value} (h : Blk w b n T V) (m : Nat) : Blk (w.drewN m) b n T V := h
theorem Blk.setCell_ne {w : World} {b n : Nat} {T : TypeId} {V : Nat → Value} (h : Blk w b n T V) {p : Addr} (hp : p.block ≠ b) (v : Value) : Blk (w.setCell p v) b n T V :=
  h.of_heap (Below.heap_setCell _ _ _ _ (Ne.symm hp))
theorem Blk.setCell {w : World} {b n : Nat} {T : TypeId} {V : Nat → Value} (h : Blk w b n T V) (i : Nat) (v : Value) : Blk (w.setCell ⟨b, i, none⟩ v) b n T (upd V i v) := by
  obtain ⟨C, h, hn, hC⟩ := h
  refine ⟨C.setIfInBounds i v, ?_, by simpa using hn, fun j hj => ?_⟩
  · simp only [World.setCell, Array.getElem?_modify]; simp only [if_true, h]; rfl
  · simp only [upd]
    rw [Array.getElem?_setIfInBounds]
    by_cases e : i = j
    · subst e; simp [hn, hj]
    · rw [if_neg e, if_neg (Ne.symm e)]; exact hC j hj
theorem Blk.congr {w : World} {b n : Nat} {T : TypeId} {V V' : Nat → Value} (h : Blk w b n T V) (e : ∀ i, i < n → V i = V' i) : Blk w b n T V' := by
  obtain ⟨C, h, hn, hC⟩ := h
  exact ⟨C, h, hn, fun i hi => by rw [hC i hi, e i hi]⟩
theorem Blk.new (w : World) (C : Array Value) (T : TypeId) (V : Nat → Value) (h : ∀ i, i < C.size → C[i]? = some (V i)) : Blk (w.alloc (.cells C T)) w.heap.size C.size T V :=
  ⟨C, (by show (w.heap.push _)[w.heap.size]? = _; simp), rfl, h⟩


theorem Blk.new_rep (w : World) (n : Nat) (v : Value) (T : TypeId) (V : Nat → Value) (h : ∀ i, i < n → V i = v) : Blk (w.alloc (.cells (Array.replicate n v) T)) w.heap.size n T V :=
  ⟨Array.replicate n v, (by show (w.heap.push _)[w.heap.size]? = _; simp), by simp, fun i hi => by rw [h i hi]; simp [hi]⟩
theorem heap_new (w : World) (o : Obj) : (w.alloc o).heap[w.heap.size]? = some o := by
  show (w.heap.push o)[w.heap.size]? = _; simp
theorem heap_newN (w : World) (o : Obj) (k : Nat) : ((w.alloc o).drewN k).heap[w.heap.size]? = some o := heap_new w o
/-- A block whose cells are known, behind a call that leaves it: for the walk. -/
theorem own_after {F : Nat → Prop} {W w1 : World} (hf : Fr F W w1) (b : Nat) {C : Array Value} {T : TypeId} (h : W.heap[b]? = some (.cells C T)) (hF : ¬ F b) :
    (∀ i, w1.cell? ⟨b, i, none⟩ = C[i]?) ∧ (∀ i, w1.frozen? ⟨b, i, none⟩ = false) ∧ b < w1.heap.size ∧ w1.heap[b]? = some (.cells C T) := by
  have hb : b < W.heap.size := by
    rcases Nat.lt_or_ge b W.heap.size with h' | h'
    · exact h'
    · rw [Array.getElem?_eq_none h'] at h; cases h
  have h1 : w1.heap[b]? = some (.cells C T) := (hf.block b hb hF).trans h
  exact ⟨fun i => by simp [World.cell?, h1], fun i => by simp [World.frozen?, h1], Nat.lt_of_lt_of_le hb hf.size, h1⟩
theorem own_no {W w1 : World} (hf : Fr No W w1) (b : Nat) {C : Array Value} {T : TypeId} (h : W.heap[b]? = some (.cells C T)) :
    (∀ i, w1.cell? ⟨b, i, none⟩ = C[i]?) ∧ (∀ i, w1.frozen? ⟨b, i, none⟩ = false) ∧ b < w1.heap.size ∧ w1.heap[b]? = some (.cells C T) := own_after hf b h (fun h => h)


theorem heap_set {w : World} {b : Nat} {C : Array Value} {T : TypeId} (h : w.heap[b]? = some (.cells C T)) (i : Nat) (v : Value) : (w.setCell ⟨b, i, none⟩ v).heap[b]? = some (.cells (C.setIfInBounds i v) T) := by
  simp only [World.setCell, Array.getElem?_modify]; simp only [if_true, h]; rfl
/-- A block of three cells, all written anew. -/
theorem set3 {w : World} {b : Nat} {x0 x1 x2 : Value} {T : TypeId} (h : w.heap[b]? = some (.cells #[x0, x1, x2] T)) (v0 v1 v2 : Value) :
    (((w.setCell ⟨b, 0, none⟩ v0).setCell ⟨b, 1, none⟩ v1).setCell ⟨b, 2, none⟩ v2).heap[b]? = some (.cells #[v0, v1, v2] T) :=
  heap_set (heap_set (heap_set h 0 v0) 1 v1) 2 v2
theorem cell_of {w : World} {b : Nat} {C : Array Value} {T : TypeId} (h : w.heap[b]? = some (.cells C T)) (i : Nat) : w.cell? ⟨b, i, none⟩ = C[i]? := by simp [World.cell?, h]

end Go.Proofs.YtoepbhacpidcbaaGreatDoor
