/- Appending a list of numbers to a row of one's own. -/
import Derived.Test.YtlncmnphjdeeoaaDoorApp
set_option linter.unusedVariables false
set_option linter.unusedSimpArgs false
namespace Go.Proofs.YtlncmnphjdeeoaaDoor
open Go.RowKit Go.Deep

theorem wpList_cat {w : World} {ops : Array Oper} {rest : List Oper} {o : Oper} {a : Act} {Q : Exit → Act → World → Prop} (s x : Operand)
    (v : Value) (l : List Int) (b off c : Nat) (l2 : List Int) (hgd : o.guard = none) (ho : o.op = .call { callee := .builtin .append, args := #[s, x], argTypes := #[29, 29] })
    (hs : a.eval s = v) (hx : a.eval x = .slice (some ⟨b, off, none⟩) l2.length c)
    (base : Nat) (hown : w.ownsRow base 3 1 v l.length (l.map (Value.int .i64))) (hbase : base ≤ w.heap.size)
    (hnew : ∀ j, j < l2.length → w.cell? ⟨b, off + j, none⟩ = some (.int .i64 (l2.getD j 0))) (h0 : 0 < l2.length) (hb : l.length + l2.length ≤ 17592186043900)
    (h : ∀ g cap w', w'.ownsRow base 3 1 (.slice (some ⟨g, 0, none⟩) (l ++ l2).length cap) (l ++ l2).length ((l ++ l2).map (Value.int .i64)) → w.grownBy w' v.ownBlock → (v.ownBlock = some g ∨ g = w.heap.size) → g < w'.heap.size → wpList Tryd.prog ops Q rest (a.put o.dst (.slice (some ⟨g, 0, none⟩) (l ++ l2).length cap)) w') :
    wpList Tryd.prog ops Q (o :: rest) a w := by
  obtain ⟨i0, hi, hz0, hz1, hz2⟩ := i_int
  refine wpList_append_lies w hgd s x 29 ho base 3 i0 (.int .i64 0) 1 8 Tryd.underlying29 hi hz0 hz1 hz2 rfl (by decide) v l.length _ hs hown ⟨b, off, none⟩ l2.length c (l2.map (Value.int .i64)) hx (by simp) ?_ ?_ h0 (by unfold maxLen; omega) (by omega) hbase w.heap.size rfl ?_
  · intro j u hu
    have hj : j < l2.length := by have := (List.getElem?_eq_some_iff.1 hu).1; simpa using this
    rw [List.getElem?_map, List.getElem?_eq_getElem hj] at hu
    simp at hu; subst hu
    rw [Addr.add_mid, hnew j hj]
    simp [List.getElem?_eq_getElem hj]
  · intro u hu; simp at hu; obtain ⟨j, _, rfl⟩ := hu; rfl
  · intro g cap w' h1 h2 h3 h4
    have hl : (l ++ l2).length = l.length + l2.length := by simp
    have := h g cap w' (by rw [hl]; simpa using h1) h2 h3 h4
    rwa [hl] at this

/-- The block of a row of one's own. -/
theorem own_block {w : World} {base n size c : Nat} {e : TypeId} {A : Option Addr} {xs : List Value} (h : w.ownsRow base e size (.slice A n c) n xs) : ∀ k, (Value.slice A n c).ownBlock = some k → base ≤ k ∧ k < w.heap.size := fun k hk => h.lt k hk

end Go.Proofs.YtlncmnphjdeeoaaDoor
