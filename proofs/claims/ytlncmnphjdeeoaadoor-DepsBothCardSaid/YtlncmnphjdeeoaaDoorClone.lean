/- slices.Clone at numbers; walked. -/
import Derived.Test.YtlncmnphjdeeoaaDoorPerm
import Derived.Deep.AppendLies
import Derived.Deep.MidRow
set_option linter.unusedVariables false
set_option linter.unusedSimpArgs false
namespace Go.Proofs.YtlncmnphjdeeoaaDoor
open Go.RowKit Go.Deep

theorem i_int : ∃ i, Tryd.prog.info? 3 = some i ∧ i.zero = some (.int .i64 0) ∧ i.size = 1 ∧ i.bytes = 8 := by
  obtain ⟨i, hi, h⟩ := Option.map_eq_some_iff.1 info_int
  simp only [Prod.mk.injEq] at h
  exact ⟨i, hi, h.1, h.2.1, h.2.2⟩

/-- A row of numbers in cells that are one's own. -/
theorem own_cells {w : World} {base e g n cap : Nat} {f : Nat → Int} (h : w.ownsRow base e 1 (.slice (some ⟨g, 0, none⟩) n cap) n ((List.range n).map fun j => .int .i64 (f j))) :
    base ≤ g ∧ g < w.heap.size ∧ n ≤ cap ∧ cap ≤ maxLen ∧ (∀ j, j < n → w.cell? ⟨g, j, none⟩ = some (.int .i64 (f j))) := by
  have hl := h.lt g rfl
  have hc := h.cells (g := g) rfl
  refine ⟨hl.1, hl.2, ?_, ?_, fun j hj => ?_⟩
  · obtain ⟨_, h | ⟨g', cap', cur, e1, _, _, h1, h2, _⟩⟩ := h
    · cases h.1
    · simp only [Value.slice.injEq] at e1; omega
  · obtain ⟨_, h | ⟨g', cap', cur, e1, _, _, h1, h2, _⟩⟩ := h
    · cases h.1
    · simp only [Value.slice.injEq] at e1; unfold maxLen at *; omega
  · have := hc j (.int .i64 (f j)) (by simp [hj])
    rwa [Addr.add_mid, Nat.zero_add] at this

set_option maxHeartbeats 1000000 in
theorem clone_calls (b off n c : Nat) (f : Nat → Int) (w : World) (h : ∀ j, j < n → w.cell? ⟨b, off + j, none⟩ = some (.int .i64 (f j))) (h0 : 0 < n) (hn : n ≤ 17592186043904) :
    Calls Tryd.prog 69 #[.slice (some ⟨b, off, none⟩) n c] w fun e w' => ∃ g cap, e = .returned (.slice (some ⟨g, 0, none⟩) n cap) ∧ Fr No w w' ∧ w.heap.size ≤ g ∧ g < w'.heap.size ∧
      (∀ j, j < n → w'.cell? ⟨g, j, none⟩ = some (.int .i64 (f j))) := by
  have heq := fun w => Lib.run_eql_slice_nil (P := Tryd.prog) w 29 3 (some ⟨b, off, none⟩) n c 0 0 Tryd.underlying29
  obtain ⟨i0, hi, hz0, hz1, hz2⟩ := i_int
  have HI := hid hi
  have HZ0 := hid hz0
  have HZ1 := hid hz1
  have HZ2 := hid hz2
  have H := hid h
  clear hi hz0 hz1 hz2 h
  go_enter Tryd.func69, Tryd.ntmps69
  go_wp2_with (at_builtin; (refine wpList_append_lies _ rfl _ _ _ rfl w.heap.size 3 i0 (.int .i64 0) 1 8 Tryd.underlying29 HI.out HZ0.out HZ1.out HZ2.out rfl (by decide) (.slice (some ⟨w.heap.size, 0, none⟩) 0 0) 0 [] rfl (World.ownsRow_made _ #[] 0 (Nat.le_refl _) (Nat.zero_le _) rfl) ⟨b, off, none⟩ n c ((List.range n).map fun j => .int .i64 (f j)) rfl ?c1 ?c2 ?c3 h0 ?c4 ?c5 ?c6 (w.heap.size + 1) ?c7 ?_))
  case c1 => simp
  case c2 =>
    intro j u hu
    obtain ⟨hj, rfl⟩ : j < n ∧ u = .int .i64 (f j) := by
      rw [List.getElem?_map] at hu
      rcases Nat.lt_or_ge j n with hj | hj
      · rw [List.getElem?_range hj] at hu; simp at hu; exact ⟨hj, hu.symm⟩
      · rw [List.getElem?_eq_none (by simpa using hj)] at hu; simp at hu
    have hc := H.out j hj
    rw [Addr.add_mid, World.cell?_alloc_lt _ _ _ (World.block_lt_of_cell? _ _ hc)]
    exact hc
  case c3 => intro u hu; simp at hu; obtain ⟨j, _, rfl⟩ := hu; rfl
  case c4 => unfold maxLen; omega
  case c5 => omega
  case c6 => simp
  case c7 => simp
  intro g cap w1 hown hgrow hat hlt
  have HO := hid hown
  have HG := hid hgrow
  clear hown hgrow hat
  go_wp2
  go_ret
  obtain ⟨q1, q2, q3, q4, q5⟩ := own_cells HO.out
  exact ⟨g, cap, rfl, ((Fr.refl _ _).alloc _).grown HG.out (fun k e => by cases e; exact .inr (Nat.le_refl _)), q1, q2, q5⟩

end Go.Proofs.YtlncmnphjdeeoaaDoor
