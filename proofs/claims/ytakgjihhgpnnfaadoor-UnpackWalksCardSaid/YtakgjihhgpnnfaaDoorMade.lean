/- Both indices behind links that are set: the laws' 'Made'; walked. -/
import Derived.Test.YtakgjihhgpnnfaaDoorOf
import Derived.Test.YtakgjihhgpnnfaaDoorRef
import Derived.StillTailTactics
set_option linter.unusedVariables false
set_option linter.unusedSimpArgs false
namespace Go.Proofs.YtakgjihhgpnnfaaDoor
open Go.RowKit Go.Deep

/-- A link. -/
structure Lk where
  t : Int
  h : Int
  e : En

structure LkAt (w : World) (b o : Nat) (l : Lk) : Prop where
  t : w.cell? ⟨b, o, Option.none⟩ = some (.int .i64 l.t)
  h : w.cell? ⟨b, o + 1, Option.none⟩ = some (.int .i64 l.h)
  w0 : w.cell? ⟨b, o + 2, Option.none⟩ = some (.int .i64 l.e.w)
  a : w.cell? ⟨b, o + 2 + 1, Option.none⟩ = some (.int .i64 l.e.a)
  m : w.cell? ⟨b, o + 2 + 2, Option.none⟩ = some (.int .i64 l.e.m)
theorem LkAt.fr {w w' : World} {b o : Nat} {l : Lk} (h : LkAt w b o l) {F : Nat → Prop} (hf : Fr F w w') (hb : ¬ F b) : LkAt w' b o l :=
  ⟨hf.cell_some h.t hb, hf.cell_some h.h hb, hf.cell_some h.w0 hb, hf.cell_some h.a hb, hf.cell_some h.m hb⟩

/-- A slice of links that is read. -/
def LinksF (w : World) (A : Option Addr) (n : Nat) (f : Nat → Lk) : Prop :=
  0 < n → ∃ b off, A = some ⟨b, off, none⟩ ∧ ∀ j, j < n → LkAt w b (off + j * 5) (f j)

/-- An index behind k links that are set. -/
def Ix.sets (x : Ix) (f : Nat → Lk) : Nat → Ix
  | 0 => x
  | k + 1 => (x.sets f k).setI (f k).t (f k).h (f k).e

theorem Ix.setI_n (x : Ix) (u v : Int) (e : En) : (x.setI u v e).n = x.n := by unfold Ix.setI; split <;> rfl
theorem Ix.setI_rk (x : Ix) (u v : Int) (e : En) : (x.setI u v e).rk = x.rk := by unfold Ix.setI; split <;> rfl
theorem Ix.setI_by (x : Ix) (u v : Int) (e : En) : (x.setI u v e).by_ = x.by_ := by unfold Ix.setI; split <;> rfl
theorem Ix.sets_n (x : Ix) (f : Nat → Lk) : ∀ k, (x.sets f k).n = x.n := by
  intro k
  induction k with
  | zero => rfl
  | succ k ih => simp only [Ix.sets, Ix.setI_n, ih]
theorem Ix.sets_rk (x : Ix) (f : Nat → Lk) : ∀ k, (x.sets f k).rk = x.rk := by
  intro k
  induction k with
  | zero => rfl
  | succ k ih => simp only [Ix.sets, Ix.setI_rk, ih]

set_option maxHeartbeats 1000000 in
theorem rank_law_calls (n num : Nat) (w : World) (hn : n ≤ 255) (hnum : (num : Int) ≤ 18446744073709551615) :
    Calls Tryd.prog 9 #[.int .u8 (n : Nat), .int .u64 (num : Nat)] w fun e w' => ∃ b, e = .returned (.slice (some ⟨b, 0, none⟩) (1 + n % 24) (1 + n % 24)) ∧ Fr No w w' ∧ w.heap.size ≤ b ∧
      Blk w' b (1 + n % 24) 3 (fun i => .int .i64 (rankOf (1 + n % 24) num i : Nat)) := by
  have h1 : n % 24 < 24 := Nat.mod_lt _ (by omega)
  go_enter Tryd.func9, Tryd.ntmps9
  go_wp2_with fail
  rw [show ((1 : Int) + (n : Int) % 24) = ((1 + n % 24 : Nat) : Int) by omega]
  refine (of_calls (1 + n % 24) num _ (by omega) (by omega) hnum).mono ?_
  rintro e w1 ⟨b, rfl, hf, hb, hblk⟩
  go_wp2
  go_ret
  exact ⟨b, rfl, hf, hb, hblk⟩

/-- The order of a number as an inverse pair. -/
theorem rank_perm (n num : Nat) (h0 : 0 < n) (h1 : n ≤ 24) : PermF n (fun i => ((rankOf n num i : Nat) : Int)) :=
  ⟨h1, fun j hj => by have := rankOf_lt n num j hj; show (0 : Int) ≤ (rankOf n num j : Nat) ∧ ((rankOf n num j : Nat) : Int) < n; omega, fun i j hij hj e => by have e' : ((rankOf n num i : Nat) : Int) = (rankOf n num j : Nat) := e; have := rankOf_inj n num i j (by omega) hj (by omega); omega⟩

/-- An index of the order of a number, without entries. -/
noncomputable def Ix.start (n num : Nat) : Ix := Ix.new n (fun i => ((rankOf n num i : Nat) : Int)) (if h : 0 < n ∧ n ≤ 24 then Classical.choose (rank_perm n num h.1 h.2).inv else fun _ => 0)

end Go.Proofs.YtakgjihhgpnnfaaDoor
