/- build.Between: how far it is between two by way of lower ones; walked. -/
import Derived.Test.YtpkocidcfnlbiaaDoorBtz
import Derived.Deep.CutRange
import Derived.Deep.RegionHeld3
set_option linter.unusedVariables false
set_option linter.unusedSimpArgs false
namespace Go.Proofs.YtpkocidcfnlbiaaDoor
open Go.RowKit Go.Shelf Go.Deep

attribute [local go_sem] Oper.semAt_some

def Ix.below (x : Ix) (u v z : Nat) : Bool := decide (x.rk z < min (x.rk u) (x.rk v))
def BtwR (w : World) (d : Int) (e : Ending) (w' : World) : Prop := e = .returned (.tuple #[.int .i64 d, .int .i64 0]) ∧ Fr No w w'
theorem Ix.Ok.low_rank {x : Ix} (h : x.Ok) {u v : Nat} (hu : u < x.n) (hv : v < x.n) (hne : u ≠ v) : ∃ lo : Nat, lo < x.n ∧ x.low (u : Nat) (v : Nat) = (lo : Nat) ∧ x.rank (lo : Nat) = (min (x.rk u) (x.rk v) : Nat) := by
  rw [Ix.low_eq hu hv hne]
  by_cases hlt : x.rk u < x.rk v
  · refine ⟨u, hu, by rw [if_pos hlt], ?_⟩
    unfold Ix.rank
    rw [if_pos (by omega), Int.toNat_natCast, Nat.min_eq_left (by omega)]
  · refine ⟨v, hv, by rw [if_neg hlt], ?_⟩
    unfold Ix.rank
    rw [if_pos (by omega), Int.toNat_natCast, Nat.min_eq_right (by omega)]

/-- Between two rounds: the box of the least, the marks. -/
structure BtM (w5 : World) (B14 n0 : Nat) (ds : List Nat) (acc : Int) (W : World) : Prop where
  f : Fr (One B14) w5 W
  c : W.cell? ⟨B14, 0, none⟩ = some (.int .i64 acc)
  z : W.frozen? ⟨B14, 0, none⟩ = false
  m : Marks n0 ds W
theorem BtM.no {w5 : World} {B14 n0 : Nat} {ds : List Nat} {acc : Int} {W W' : World} (h : BtM w5 B14 n0 ds acc W) (hf : Fr No W W') : BtM w5 B14 n0 ds acc W' :=
  ⟨h.f.trans hf.no, hf.cell_some h.c (fun h => h), (hf.frozen (p := ⟨B14, 0, none⟩) (cell_lt h.c) (fun h => h)).trans h.z, h.m.no hf⟩
theorem BtM.grown {w5 : World} {B14 n0 N : Nat} {ds : List Nat} {acc : Int} {A B : World} (h : BtM w5 B14 n0 ds acc A) (hN : ∀ x ∈ ds, x < N) (h5 : w5.heap.size ≤ N) {row : Option Nat} (hg : A.grownBy B row) (hr : ∀ r, row = some r → N ≤ r ∧ ∃ o : Obj, A.heap[r]? = some o ∧ o.isCells = false) : BtM w5 B14 n0 ds acc B :=
  ⟨h.f.grown hg (fun k e => .inr (by have := (hr k e).1; omega)), cell_kept h.c hg (fun r e => (hr r e).2), (frozen_kept h.c hg (fun r e => (hr r e).2)).trans h.z, h.m.grown hN hg (fun r e => (hr r e).1)⟩
theorem BtM.set {w5 : World} {B14 n0 : Nat} {ds : List Nat} {acc : Int} {W : World} (h : BtM w5 B14 n0 ds acc W) (x : Int) : BtM w5 B14 n0 ds x (W.setCell ⟨B14, 0, none⟩ (.int .i64 x)) :=
  ⟨h.f.set1 0 _, World.cell?_setCell_same' _ _ _ (by rw [h.c]; rfl), by rw [World.frozen?_setCell]; exact h.z, h.m.fr ((Fr.refl (One B14) W).set1 0 _) (fun k o (e : k = B14) ho => cell_is_cells h.c (by rw [e] at ho; exact ho))⟩

end Go.Proofs.YtpkocidcfnlbiaaDoor
