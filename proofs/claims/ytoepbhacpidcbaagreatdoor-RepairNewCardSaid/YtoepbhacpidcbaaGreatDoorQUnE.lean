/- Unpacking, the document's 'Arcs' and the program's stack; walked. -/
import Derived.Deep.LoopGhost
import Derived.StillTailTactics
import Derived.Test.YtoepbhacpidcbaaGreatDoorQBase
import Derived.Test.YtoepbhacpidcbaaGreatDoorQIdx
import Derived.Test.YtoepbhacpidcbaaGreatDoorQPerm
import Derived.Test.YtoepbhacpidcbaaGreatDoorQIdxB
import Derived.Test.YtoepbhacpidcbaaGreatDoorQRef
import Derived.Test.YtoepbhacpidcbaaGreatDoorQUnref

set_option linter.unusedVariables false
set_option linter.unusedSimpArgs false
namespace Go.Proofs.YtoepbhacpidcbaaGreatDoor
open Go.RowKit Go.Deep
attribute [local go_sem ↓] Go.wp_at_zero Go.wp_at_succ
attribute [local go_sem high] run_eql_en run_neq_en

/-- The arcs of an entry and the code (1: no two vertices). -/
def Ix.arcs (x : Ix) (u v : Int) : List Int × Int := if x.two u v = true then x.add 25 u v [] else ([], 1)

end Go.Proofs.YtoepbhacpidcbaaGreatDoor

/- The program's unpacking as plain mathematics: a stack of what is still to be unpacked. -/
set_option linter.unusedVariables false
set_option linter.unusedSimpArgs false
namespace Go.Proofs.YtoepbhacpidcbaaGreatDoor
open Go.RowKit Go.Deep

end Go.Proofs.YtoepbhacpidcbaaGreatDoor

/- The program's unpacking of an entry; walked. -/
set_option linter.unusedVariables false
set_option linter.unusedSimpArgs false
namespace Go.Proofs.YtoepbhacpidcbaaGreatDoor
open Go.RowKit Go.Deep
attribute [local go_sem ↓] Go.wp_at_zero Go.wp_at_succ
attribute [local go_sem high] run_eql_en run_neq_en

/-- Pairs in a row. -/
def PairsAt (w : World) (b n : Nat) (st : Nat → Int × Int) : Prop :=
  ∀ j, j < n → w.cell? ⟨b, j * 2, none⟩ = some (.int .i64 (st j).1) ∧ w.cell? ⟨b, j * 2 + 1, none⟩ = some (.int .i64 (st j).2)
theorem PairsAt.fr {w w' : World} {b n : Nat} {st : Nat → Int × Int} (h : PairsAt w b n st) (hf : Fr No w w') : PairsAt w' b n st :=
  fun j hj => ⟨hf.cell_some (h j hj).1 (fun h => h), hf.cell_some (h j hj).2 (fun h => h)⟩

theorem own_fr {w w' : World} {base n size : Nat} {e : TypeId} {v : Value} {xs : List Value} (h : w.ownsRow base e size v n xs) {F : Nat → Prop} (hf : Fr F w w') (hF : ∀ k, base ≤ k → ¬ F k) : w'.ownsRow base e size v n xs := by
  obtain ⟨h1, h2⟩ := h
  refine ⟨h1, ?_⟩
  rcases h2 with h2 | ⟨g, cap, cur, hv, hb, hg, hr⟩
  · exact .inl h2
  · exact .inr ⟨g, cap, cur, hv, hb, (hf.block g (some_lt hg) (hF g hb)).trans hg, hr⟩

end Go.Proofs.YtoepbhacpidcbaaGreatDoor

/- The program's and the document's unpacking come to the same; equal lists of numbers; walked. -/
set_option linter.unusedVariables false
set_option linter.unusedSimpArgs false
namespace Go.Proofs.YtoepbhacpidcbaaGreatDoor
open Go.RowKit Go.Deep

end Go.Proofs.YtoepbhacpidcbaaGreatDoor
/- From vertex to vertex: the program's and the document's 'Way'; walked. -/
set_option linter.unusedVariables false
set_option linter.unusedSimpArgs false
namespace Go.Proofs.YtoepbhacpidcbaaGreatDoor
open Go.RowKit Go.Deep

end Go.Proofs.YtoepbhacpidcbaaGreatDoor

/- The law's check that its parts are awake; walked. -/
set_option linter.unusedVariables false
set_option linter.unusedSimpArgs false
namespace Go.Proofs.YtoepbhacpidcbaaGreatDoor
open Go.RowKit Go.Deep

def awf (j : Nat) : Int := [1, 0, 2].getD j 0
def awg (j : Nat) : Nat := [1, 0, 2].getD j 0
theorem aw_perm : PermF 3 awf := ⟨by omega, by decide, by
  intro i j hi hj
  have : (i = 0 ∧ j = 1) ∨ (i = 0 ∧ j = 2) ∨ (i = 1 ∧ j = 2) := by omega
  rcases this with ⟨rfl, rfl⟩ | ⟨rfl, rfl⟩ | ⟨rfl, rfl⟩ <;> decide⟩
theorem aw_g1 : ∀ i, i < 3 → awg (awf i).toNat = i := by decide
theorem aw_g2 : ∀ r, r < 3 → awg r < 3 ∧ awf (awg r) = r := by decide
theorem lit_ints {w : World} {C : Array Value} {T : TypeId} (n : Nat) (f : Nat → Int) (h : ∀ j, j < n → C[j]? = some (.int .i64 (f j))) : IntsF (w.alloc (.cells C T)) (some ⟨w.heap.size, 0, none⟩) n f := fun _ =>
  ⟨_, _, rfl, fun j hj => by rw [Nat.zero_add, (own_no (Fr.refl _ _) w.heap.size (heap_new w _)).1 j]; exact h j hj⟩
end Go.Proofs.YtoepbhacpidcbaaGreatDoor

/- The two laws of unpacking; walked. -/
set_option linter.unusedVariables false
set_option linter.unusedSimpArgs false
namespace Go.Proofs.YtoepbhacpidcbaaGreatDoor
open Go.RowKit Go.Deep

theorem LinksF.fr {w w' : World} {A : Option Addr} {n : Nat} {f : Nat → Lk} (h : LinksF w A n f) (hf : Fr No w w') : LinksF w' A n f := fun hn => by
  obtain ⟨b, off, e, hc⟩ := h hn
  exact ⟨b, off, e, fun j hj => (hc j hj).fr hf (fun h => h)⟩
end Go.Proofs.YtoepbhacpidcbaaGreatDoor
