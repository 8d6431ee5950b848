/- What moves with a vertex: the document's; walked. -/
import Derived.Test.YtakgjihhgpnnfaaDoorMov
import Derived.Test.YtakgjihhgpnnfaaDoorAwk17
set_option linter.unusedVariables false
set_option linter.unusedSimpArgs false
namespace Go.Proofs.YtakgjihhgpnnfaaDoor
open Go.RowKit Go.Deep

/-- A row of 24 words. -/
def BoolAt (w : World) (b : Nat) (m : Nat → Bool) : Prop := Blk w b 24 149 (fun i => .bool (m i))
def cellsB (m : Nat → Bool) : List Value := (List.range 24).map fun i => .bool (m i)
def boolsV (m : Nat → Bool) : Value := .agg (cellsB m).toArray
def updB (m : Nat → Bool) (k : Nat) : Nat → Bool := fun i => if i = k then true else m i
theorem cellsB_len (m : Nat → Bool) : (cellsB m).length = 24 := by simp [cellsB]
theorem cellsB_one (m : Nat → Bool) : (cellsB m).toArray.all (·.oneCell') = true := all_oneCell_toArray fun v hv => by
  simp only [cellsB, List.mem_map] at hv
  obtain ⟨i, _, rfl⟩ := hv
  rfl
theorem BoolAt.range {w : World} {b : Nat} {m : Nat → Bool} (h : BoolAt w b m) : w.rangeAt b 0 (cellsB m) := fun j v hv => by
  rcases Nat.lt_or_ge j 24 with hj | hj
  · simp only [cellsB, List.getElem?_map, List.getElem?_range hj, Option.map_some, Option.some.injEq] at hv
    subst hv
    rw [Nat.zero_add]
    exact Blk.cell h hj
  · rw [List.getElem?_eq_none (by simpa [cellsB] using hj)] at hv; cases hv
theorem BoolAt.set {w : World} {b : Nat} {m0 : Nat → Bool} (h : BoolAt w b m0) (m : Nat → Bool) : BoolAt (w.setCells b 0 (cellsB m)) b m :=
  (Blk.setCells _ 0 w _ h).congr fun i hi => by
    rw [cellsB_len, if_pos (by omega)]
    simp [cellsB, List.getD, hi]
theorem BoolAt.put {w : World} {b : Nat} {m : Nat → Bool} (h : BoolAt w b m) (k : Nat) : BoolAt (w.setCell ⟨b, k, none⟩ (.bool true)) b (updB m k) :=
  (Blk.setCell h k (.bool true)).congr fun i _ => by
    unfold upd updB
    by_cases e : i = k
    · rw [if_pos e, if_pos e]
    · rw [if_neg e, if_neg e]

/-- Does a vertex move, by the pairs that have been gone through? -/
def Ix.MvR (x : Ix) (v : Int) (C D : Nat → Int) (a b i : Nat) : Prop :=
  x.vertex v = true ∧ ∃ u w, u < x.n ∧ w < x.n ∧ u ≠ w ∧ x.rk v.toNat < x.rk u ∧ x.rk v.toNat < x.rk w ∧ x.Hot C D u w ∧ x.low (u : Nat) (w : Nat) = (i : Nat) ∧ (u < a ∨ (u = a ∧ w < b))
theorem Ix.MvR_zero (x : Ix) (v : Int) (C D : Nat → Int) (i : Nat) : ¬ x.MvR v C D 0 0 i := by
  rintro ⟨_, u, w, _, _, _, _, _, _, _, h⟩
  omega
theorem Ix.MvR_all (x : Ix) (v : Int) (C D : Nat → Int) (i : Nat) : x.MvR v C D x.n 0 i ↔ x.Mv v C D i := by
  unfold Ix.MvR Ix.Mv
  constructor
  · rintro ⟨h0, u, w, h1, h2, h3, h4, h5, h6, h7, _⟩; exact ⟨h0, u, w, h1, h2, h3, h4, h5, h6, h7⟩
  · rintro ⟨h0, u, w, h1, h2, h3, h4, h5, h6, h7⟩; exact ⟨h0, u, w, h1, h2, h3, h4, h5, h6, h7, .inl h1⟩
theorem Ix.MvR_row (x : Ix) (v : Int) (C D : Nat → Int) (a i : Nat) : x.MvR v C D a x.n i ↔ x.MvR v C D (a + 1) 0 i := by
  unfold Ix.MvR
  constructor
  · rintro ⟨h0, u, w, h1, h2, h3, h4, h5, h6, h7, h8⟩; exact ⟨h0, u, w, h1, h2, h3, h4, h5, h6, h7, by omega⟩
  · rintro ⟨h0, u, w, h1, h2, h3, h4, h5, h6, h7, h8⟩; exact ⟨h0, u, w, h1, h2, h3, h4, h5, h6, h7, by omega⟩
/-- Does a pair count? -/
def Ix.Pair (x : Ix) (v : Int) (C D : Nat → Int) (u w : Nat) : Prop := x.vertex v = true ∧ u ≠ w ∧ x.rk v.toNat < x.rk u ∧ x.rk v.toNat < x.rk w ∧ x.Hot C D u w
theorem Ix.MvR_no {x : Ix} {v : Int} {C D : Nat → Int} {a b : Nat} (h : ¬ x.Pair v C D a b) (i : Nat) : x.MvR v C D a (b + 1) i ↔ x.MvR v C D a b i := by
  unfold Ix.MvR
  constructor
  · rintro ⟨h0, u, w, h1, h2, h3, h4, h5, h6, h7, h8⟩
    refine ⟨h0, u, w, h1, h2, h3, h4, h5, h6, h7, ?_⟩
    by_cases e : u = a ∧ w = b
    · obtain ⟨rfl, rfl⟩ := e
      exact absurd ⟨h0, h3, h4, h5, h6⟩ h
    · omega
  · rintro ⟨h0, u, w, h1, h2, h3, h4, h5, h6, h7, h8⟩; exact ⟨h0, u, w, h1, h2, h3, h4, h5, h6, h7, by omega⟩
theorem Ix.MvR_yes {x : Ix} {v : Int} {C D : Nat → Int} {a b k : Nat} (ha : a < x.n) (hb : b < x.n) (h : x.Pair v C D a b) (hk : x.low (a : Nat) (b : Nat) = (k : Nat)) (i : Nat) : x.MvR v C D a (b + 1) i ↔ (i = k ∨ x.MvR v C D a b i) := by
  unfold Ix.MvR
  constructor
  · rintro ⟨h0, u, w, h1, h2, h3, h4, h5, h6, h7, h8⟩
    by_cases e : u = a ∧ w = b
    · obtain ⟨rfl, rfl⟩ := e
      left; omega
    · right; exact ⟨h0, u, w, h1, h2, h3, h4, h5, h6, h7, by omega⟩
  · rintro (rfl | ⟨h0, u, w, h1, h2, h3, h4, h5, h6, h7, h8⟩)
    · exact ⟨h.1, a, b, ha, hb, h.2.1, h.2.2.1, h.2.2.2.1, h.2.2.2.2, hk, by omega⟩
    · exact ⟨h0, u, w, h1, h2, h3, h4, h5, h6, h7, by omega⟩

theorem BoolAt.new (W : World) : BoolAt (W.alloc (.cells (cellsB (fun _ => false)).toArray 149)) W.heap.size (fun _ => false) := by
  have := Blk.new W (cellsB (fun _ => false)).toArray 149 (fun i => .bool false) (fun i hi => by
    have hi' : i < 24 := by simpa [cellsB] using hi
    simp [cellsB, hi'])
  have e : (cellsB (fun _ => false)).toArray.size = 24 := by simp [cellsB]
  rw [e] at this
  exact this

end Go.Proofs.YtakgjihhgpnnfaaDoor

/- The law of layer 17 of what moves; walked. -/
set_option linter.unusedVariables false
set_option linter.unusedSimpArgs false
namespace Go.Proofs.YtakgjihhgpnnfaaDoor
open Go.RowKit Go.Deep

set_option maxRecDepth 100000 in
theorem run_build_star (C : Nat → Int) (w : World) : (Instr.build 61 #[(0, .agg (cellsR 72 fun j => C (0 + j)).toArray), (1, .agg (cellsR 72 fun j => C (72 + j)).toArray)]).run Tryd.prog w = .ok (starV C) w := by kernel_rfl

theorem quiet_build {P : Program} {C : World → Prop} {o : Oper} {a : Act} {K : Act → Prop} (ty : TypeId) (x y : Operand) (ho : o.op = .build ty #[(0, x), (1, y)]) (u v r : Value) (hx : a.eval x = u) (hy : a.eval y = v) (hl : ∀ w, (Instr.build ty #[(0, u), (1, v)]).run P w = .ok r w) (hk : K (a.put o.dst r)) : o.quiet P a C K :=
  ⟨r, fun w hw => by
    have h := hl w
    unfold Oper.quietAt execOp
    simp only [ho, List.map_toArray, List.map_cons, List.map_nil, hx, hy, Sem.run_bind, h, Result.andThen_ok, Sem.run_pure]
    exact ⟨rfl, rfl⟩, hk⟩

theorem exists_setOf (p : Nat → Prop) (hp : ∀ i, p i → i < 24) : ∃ s, SetOf s p := by
  have key : ∀ k, k ≤ 24 → ∃ s, SetOf s (fun i => p i ∧ i < k) := by
    intro k
    induction k with
    | zero => intro _; exact ⟨0, SetOf.nil fun i h => by omega⟩
    | succ k ih =>
      intro hk
      obtain ⟨s, hs⟩ := ih (by omega)
      by_cases h : p k
      · exact ⟨s ||| 2 ^ k, hs.or (by omega) fun i => ⟨fun ⟨h1, h2⟩ => by by_cases e : i = k; exact .inr e; exact .inl ⟨h1, by omega⟩, fun h1 => h1.elim (fun h1 => ⟨h1.1, by omega⟩) (fun e => by subst e; exact ⟨h, by omega⟩)⟩⟩
      · exact ⟨s, hs.congr fun i => ⟨fun ⟨h1, h2⟩ => ⟨h1, by omega⟩, fun ⟨h1, h2⟩ => ⟨h1, by by_cases e : i = k; (subst e; exact absurd h1 h); omega⟩⟩⟩
  obtain ⟨s, hs⟩ := key 24 (Nat.le_refl _)
  exact ⟨s, hs.congr fun i => ⟨fun h => h.1, fun h => ⟨h, hp i h⟩⟩⟩
theorem Ix.Ok.mv_lt {x : Ix} (h : x.Ok) (v : Int) (C D : Nat → Int) (i : Nat) (hm : x.Mv v C D i) : i < 24 := by
  obtain ⟨_, u, w, hu, hw, _, _, _, _, hl⟩ := hm
  have hn := h.n2
  unfold Ix.low at hl
  split at hl
  · split at hl <;> omega
  · omega
theorem moves_canon {x : Ix} {w : World} {L : IxLoc} (h : IxMem w L x) (v : Int) (C D : Nat → Int) (hC : Wf C) (hD : Wf D) {s : Nat} (hs : SetOf s (x.Mv v C D)) :
    Calls Tryd.prog 26 #[.pointer (some ⟨L.b, 0, none⟩), .int .i64 v, starV C, starV D] w fun e w' => e = .returned (.int .u64 (s : Nat)) ∧ Fr No w w' :=
  (moves_calls h v C D hC hD).mono fun e w' ⟨t, he, ht, hf⟩ => ⟨by rw [he, SetOf.eq ht hs (fun _ => Iff.rfl)], hf⟩
theorem StarAt.alloc' {w : World} {b : Nat} {T : TypeId} {C : Nat → Int} (h : StarAt w b T C) (o : Obj) : StarAt (w.alloc o) b T C := Blk.alloc h o
theorem BoolAt.lit (W : World) (m : Nat → Bool) : BoolAt (W.alloc (.cells (cellsB m).toArray 149)) W.heap.size m := by
  have := Blk.new W (cellsB m).toArray 149 (fun i => .bool (m i)) (fun i hi => by
    have hi' : i < 24 := by simpa [cellsB] using hi
    simp [cellsB, hi'])
  have e : (cellsB m).toArray.size = 24 := by simp [cellsB]
  rw [e] at this
  exact this

end Go.Proofs.YtakgjihhgpnnfaaDoor

/- The law of layer 17 that what moves moves back; walked. -/
set_option linter.unusedVariables false
set_option linter.unusedSimpArgs false
namespace Go.Proofs.YtakgjihhgpnnfaaDoor
open Go.RowKit Go.Deep

theorem Ix.Mv_sym (x : Ix) (v : Int) (C D : Nat → Int) (i : Nat) : x.Mv v C D i ↔ x.Mv v D C i := by
  have hh : ∀ C D u w, x.Hot C D u w → x.Hot D C u w := fun C D u w h => ⟨fun e => h.1 e.symm, by have := h.2; omega⟩
  constructor
  · rintro ⟨h0, u, w, h1, h2, h3, h4, h5, h6, h7⟩; exact ⟨h0, u, w, h1, h2, h3, h4, h5, hh _ _ _ _ h6, h7⟩
  · rintro ⟨h0, u, w, h1, h2, h3, h4, h5, h6, h7⟩; exact ⟨h0, u, w, h1, h2, h3, h4, h5, hh _ _ _ _ h6, h7⟩
theorem Ix.Ok.mv_rk {x : Ix} (h : x.Ok) {v : Int} {C D : Nat → Int} {i : Nat} (hm : x.Mv v C D i) : x.vertex v = true ∧ x.rk v.toNat < x.rk i := by
  obtain ⟨h0, u, w, hu, hw, hne, h1, h2, _, hl⟩ := hm
  refine ⟨h0, ?_⟩
  have ht : x.two (u : Nat) (w : Nat) = true := by unfold Ix.two; simp; omega
  unfold Ix.low at hl
  rw [if_pos ht] at hl
  split at hl
  · have : u = i := by omega
    rw [← this]; exact h1
  · have : w = i := by omega
    rw [← this]; exact h2

end Go.Proofs.YtakgjihhgpnnfaaDoor
