/- Rows of links that are one's own: read, lengthened. -/
import Derived.Test.YtlncmnphjdeeoaaDoorMade
import Derived.Test.YtlncmnphjdeeoaaDoorUnC
set_option linter.unusedVariables false
set_option linter.unusedSimpArgs false
namespace Go.Proofs.YtlncmnphjdeeoaaDoor
open Go.RowKit Go.Deep

def Lk.cl (l : Lk) : List Value := [.int .i64 l.t, .int .i64 l.h, .int .i64 l.e.w, .int .i64 l.e.a, .int .i64 l.e.m]
def lkCells (l : List Lk) : List Value := l.flatMap Lk.cl
def Lk.zero : Lk := ⟨0, 0, ⟨0, 0, 0⟩⟩

theorem info_lk : (Tryd.prog.info? 48).map (fun i => (i.zero, i.size, i.bytes)) = some (some (.agg #[.int .i64 0, .int .i64 0, .int .i64 0, .int .i64 0, .int .i64 0]), 5, 40) := by kernel_rfl
theorem i_lk : ∃ i, Tryd.prog.info? 48 = some i ∧ i.zero = some (.agg #[.int .i64 0, .int .i64 0, .int .i64 0, .int .i64 0, .int .i64 0]) ∧ i.size = 5 ∧ i.bytes = 40 := by
  obtain ⟨i, hi, h⟩ := Option.map_eq_some_iff.1 info_lk
  simp only [Prod.mk.injEq] at h
  exact ⟨i, hi, h.1, h.2.1, h.2.2⟩

theorem lkCells_len (l : List Lk) : (lkCells l).length = l.length * 5 := by
  induction l with
  | nil => rfl
  | cons a l ih => simp only [lkCells, List.flatMap_cons, List.length_append, List.length_cons] at *; rw [ih]; simp [Lk.cl]; omega
theorem lkCells_app (l : List Lk) (y : Lk) : lkCells (l ++ [y]) = lkCells l ++ y.cl := by simp [lkCells]
theorem lkCells_at (l : List Lk) : ∀ j, j < l.length → ∀ k, k < 5 → (lkCells l)[j * 5 + k]? = (l.getD j Lk.zero).cl[k]? := by
  induction l with
  | nil => intro j hj; simp at hj
  | cons a l ih =>
    intro j hj k hk
    have hcl : a.cl.length = 5 := rfl
    show (a.cl ++ lkCells l)[j * 5 + k]? = _
    cases j with
    | zero => rw [Nat.zero_mul, Nat.zero_add, List.getElem?_append_left (by omega)]; simp
    | succ j =>
      rw [List.getElem?_append_right (by omega), hcl, show (j + 1) * 5 + k - 5 = j * 5 + k by omega]
      have := ih j (by simpa using hj) k hk
      rw [this]; simp

/-- A slice of links. -/
def SlK (w : World) (v : Value) (l : List Lk) : Prop :=
  (l = [] ∧ v = .slice none 0 0) ∨ (∃ b off c, 0 < l.length ∧ v = .slice (some ⟨b, off, none⟩) l.length c ∧ ∀ j, j < l.length → LkAt w b (off + j * 5) (l.getD j Lk.zero))
theorem SlK.fr {w w' : World} {v : Value} {l : List Lk} (h : SlK w v l) (hf : Fr No w w') : SlK w' v l := by
  rcases h with h | ⟨b, off, c, h0, e, hc⟩
  · exact .inl h
  · exact .inr ⟨b, off, c, h0, e, fun j hj => (hc j hj).fr hf (fun h => h)⟩

theorem own_lks {w : World} {base : Nat} {v : Value} {l : List Lk} (h : w.ownsRow base 48 5 v l.length (lkCells l)) (h0 : 0 < l.length) :
    ∃ g cap, v = .slice (some ⟨g, 0, none⟩) l.length cap ∧ base ≤ g ∧ g < w.heap.size ∧ l.length ≤ cap ∧ ∀ j, j < l.length → LkAt w g (0 + j * 5) (l.getD j Lk.zero) := by
  have hh := h
  obtain ⟨_, h' | ⟨g, cap, cur, rfl, hb, hg, h1, h2, _⟩⟩ := hh
  · omega
  · have hc := h.cells (g := g) rfl
    have hl := h.lt g rfl
    refine ⟨g, cap, rfl, hb, hl.2, h1, fun j hj => ?_⟩
    have key : ∀ k, k < 5 → w.cell? ⟨g, 0 + j * 5 + k, none⟩ = (l.getD j Lk.zero).cl[k]? := fun k hk => by
      have e := lkCells_at l j hj k hk
      have : ∃ v, (l.getD j Lk.zero).cl[k]? = some v := by
        match k, hk with
        | 0, _ => exact ⟨_, rfl⟩
        | 1, _ => exact ⟨_, rfl⟩
        | 2, _ => exact ⟨_, rfl⟩
        | 3, _ => exact ⟨_, rfl⟩
        | 4, _ => exact ⟨_, rfl⟩
      obtain ⟨v, hv⟩ := this
      rw [hv] at e ⊢
      have := hc (j * 5 + k) v e
      rw [Addr.add_mid, Nat.zero_add] at this
      rw [Nat.zero_add]; exact this
    exact ⟨key 0 (by omega), key 1 (by omega), key 2 (by omega), key 3 (by omega), key 4 (by omega)⟩

/-- One link appended to a row of one's own that may be nil. -/
theorem wpList_pushK {w : World} {ops : Array Oper} {rest : List Oper} {o : Oper} {a : Act} {Q : Exit → Act → World → Prop} (s x : Operand)
    (v : Value) (l : List Lk) (b c : Nat) (y : Lk) (hgd : o.guard = none) (ho : o.op = .call { callee := .builtin .append, args := #[s, x], argTypes := #[23, 23] })
    (hs : a.eval s = v) (hx : a.eval x = .slice (some ⟨b, 0, none⟩) 1 c)
    (base : Nat) (hown : w.ownsRow base 48 5 v l.length (lkCells l)) (hbase : base ≤ w.heap.size)
    (hnew : w.heap[b]? = some (.cells y.cl.toArray 48)) (hb : l.length ≤ 1000000)
    (h : ∀ g cap w', w'.ownsRow base 48 5 (.slice (some ⟨g, 0, none⟩) (l ++ [y]).length cap) (l ++ [y]).length (lkCells (l ++ [y])) → w.grownBy w' v.ownBlock → (v.ownBlock = some g ∨ g = w.heap.size) → g < w'.heap.size → wpList Tryd.prog ops Q rest (a.put o.dst (.slice (some ⟨g, 0, none⟩) (l ++ [y]).length cap)) w') :
    wpList Tryd.prog ops Q (o :: rest) a w := by
  obtain ⟨i0, hi, hz0, hz1, hz2⟩ := i_lk
  refine wpList_append_lies w hgd s x 23 ho base 48 i0 (.agg #[.int .i64 0, .int .i64 0, .int .i64 0, .int .i64 0, .int .i64 0]) 5 40 Tryd.underlying23 hi hz0 hz1 hz2 rfl (by decide) v l.length _ hs hown ⟨b, 0, none⟩ 1 c y.cl hx rfl ?_ ?_ (by decide) (by unfold maxLen; omega) (by omega) hbase w.heap.size rfl ?_
  · intro j u hu
    rw [Addr.add_mid, Nat.zero_add, cell_of hnew]
    simpa using hu
  · intro u hu
    simp [Lk.cl] at hu
    rcases hu with rfl | rfl | rfl | rfl | rfl <;> rfl
  · intro g cap w' h1 h2 h3 h4
    have hl : (l ++ [y]).length = l.length + 1 := by simp
    have := h g cap w' (by rw [hl, lkCells_app]; exact h1) h2 h3 h4
    rwa [hl] at this

/-- An index's links, by rising rank. -/
def Ix.lkRow (x : Ix) (a : Nat) : Nat → List Lk
  | 0 => []
  | b + 1 => if x.at_ (x.by_ a : Nat) (x.by_ b : Nat) = En.none then x.lkRow a b else x.lkRow a b ++ [⟨(x.by_ a : Nat), (x.by_ b : Nat), x.at_ (x.by_ a : Nat) (x.by_ b : Nat)⟩]
def Ix.lks (x : Ix) : Nat → List Lk
  | 0 => []
  | a + 1 => x.lks a ++ x.lkRow a x.n
theorem Ix.lkRow_len (x : Ix) (a : Nat) : ∀ b, (x.lkRow a b).length ≤ b := by
  intro b
  induction b with
  | zero => simp [Ix.lkRow]
  | succ b ih =>
    rw [Ix.lkRow]
    split
    · omega
    · simp; omega
theorem Ix.lks_len (x : Ix) : ∀ a, (x.lks a).length ≤ a * x.n := by
  intro a
  induction a with
  | zero => simp [Ix.lks]
  | succ a ih => rw [Ix.lks, List.length_append]; have := x.lkRow_len a x.n; rw [Nat.add_mul]; omega

end Go.Proofs.YtlncmnphjdeeoaaDoor
