/- ringroadref16.Between: how far it is by way of lower ones, as the document says; walked. -/
import Derived.Test.YtpkocidcfnlbiaaGreatDoorSetP
import Derived.Test.YtpkocidcfnlbiaaGreatDoorBW
import Derived.Deep.Cut
import Derived.Deep.RegionHeld3
set_option linter.unusedVariables false
set_option linter.unusedSimpArgs false
namespace Go.Proofs.YtpkocidcfnlbiaaGreatDoor
open Go.RowKit Go.Deep

theorem fw1_b {L : Nat → Bool} {n m a b : Nat} {D : Mat} (h : MB n D) (hm : m < n) (ha : a < n) (hb : b < n) : MB n (fw1 L m a b D) := fun i j hi hj => by
  unfold fw1
  split
  · unfold upd2; split
    · exact tw_b (h a m ha hm) (h m b hm hb)
    · exact h i j hi hj
  · exact h i j hi hj
theorem fwB_b {L : Nat → Bool} {n m a : Nat} {D : Mat} (h : MB n D) (hm : m < n) (ha : a < n) : ∀ k, k ≤ n → MB n (fwB L m a D k)
  | 0, _ => h
  | k + 1, hk => fw1_b (fwB_b h hm ha k (by omega)) hm ha (by omega)
theorem fwA_b {L : Nat → Bool} {n m : Nat} {D : Mat} (h : MB n D) (hm : m < n) : ∀ k, k ≤ n → MB n (fwA L n m D k)
  | 0, _ => h
  | k + 1, hk => fwB_b (fwA_b h hm k (by omega)) hm (by omega) n (Nat.le_refl n)
theorem fwM_b {L : Nat → Bool} {n : Nat} {D : Mat} (h : MB n D) : ∀ k, k ≤ n → MB n (fwM L n D k)
  | 0, _ => h
  | k + 1, hk => fwA_b (fwM_b h k (by omega)) (by omega) n (Nat.le_refl n)

/-- A square of 24 lies at B: its first n rows and places hold D. -/
def Sq (W : World) (B n : Nat) (D : Mat) : Prop := ∃ M : Nat → Int, Blk W B 576 44 (fun i => .int .i64 (M i)) ∧ ∀ i j, i < n → j < n → M (i * 24 + j) = D i j
theorem Sq.fr {W W' : World} {B n : Nat} {D : Mat} (h : Sq W B n D) {F : Nat → Prop} (hf : Fr F W W') (hF : ¬ F B) : Sq W' B n D := by
  obtain ⟨M, h1, h2⟩ := h
  exact ⟨M, h1.fr hf hF, h2⟩
theorem Sq.cell {W : World} {B n : Nat} {D : Mat} (h : Sq W B n D) (hn : n ≤ 24) {i j : Nat} (hi : i < n) (hj : j < n) : W.cell? ⟨B, i * 24 + j, none⟩ = some (.int .i64 (D i j)) := by
  obtain ⟨M, h1, h2⟩ := h
  rw [h1.cell (show i * 24 + j < 576 by omega), h2 i j hi hj]
theorem Sq.frozen {W : World} {B n : Nat} {D : Mat} (h : Sq W B n D) (i : Nat) : W.frozen? ⟨B, i, none⟩ = false := by
  obtain ⟨M, h1, _⟩ := h
  exact h1.frozen i
theorem Sq.lt {W : World} {B n : Nat} {D : Mat} (h : Sq W B n D) : B < W.heap.size := by
  obtain ⟨M, h1, _⟩ := h
  exact h1.lt
theorem Sq.set {W : World} {B n : Nat} {D : Mat} (h : Sq W B n D) (hn : n ≤ 24) {a b : Nat} (ha : a < n) (hb : b < n) (z : Int) : Sq (W.setCell ⟨B, a * 24 + b, none⟩ (.int .i64 z)) B n (upd2 D a b z) := by
  obtain ⟨M, h1, h2⟩ := h
  refine ⟨fun k => if k = a * 24 + b then z else M k, (h1.setCell (a * 24 + b) (.int .i64 z)).congr (fun k hk => ?_), fun i j hi hj => ?_⟩
  · show (if k = a * 24 + b then Value.int .i64 z else Value.int .i64 (M k)) = Value.int .i64 (if k = a * 24 + b then z else M k)
    split <;> rfl
  · show (if i * 24 + j = a * 24 + b then z else M (i * 24 + j)) = if i = a ∧ j = b then z else D i j
    by_cases e : i = a ∧ j = b
    · rw [if_pos e, if_pos (by omega)]
    · rw [if_neg e, if_neg (by omega)]; exact h2 i j hi hj
theorem Sq.congr {W : World} {B n : Nat} {D D' : Mat} (h : Sq W B n D) (e : ∀ i j, i < n → j < n → D i j = D' i j) : Sq W B n D' := by
  obtain ⟨M, h1, h2⟩ := h
  exact ⟨M, h1, fun i j hi hj => (h2 i j hi hj).trans (e i j hi hj)⟩
/-- What is filled so far. -/
def fillD (E : Mat) (a b : Nat) : Mat := fun i j => if i < a ∨ (i = a ∧ j < b) then E i j else 0
theorem fillD_set (E : Mat) (a b : Nat) : upd2 (fillD E a b) a b (E a b) = fillD E a (b + 1) := by
  funext i j
  unfold upd2 fillD
  by_cases e : i = a ∧ j = b
  · obtain ⟨rfl, rfl⟩ := e
    rw [if_pos ⟨rfl, rfl⟩, if_pos (by omega)]
  · rw [if_neg e]
    by_cases h : i < a ∨ (i = a ∧ j < b)
    · rw [if_pos h, if_pos (by omega)]
    · rw [if_neg h, if_neg (by omega)]

theorem sq_size : Tryz.zeroCells44.size = 576 := Tryz.zeroCells44_size
set_option maxRecDepth 100000 in
theorem sq_all : ((List.range 576).all fun i => isZ (Tryz.zeroCells44[i]!)) = true := by kernel_rfl
theorem sq_zero (i : Nat) (hi : i < 576) : Tryz.zeroCells44[i]? = some (.int .i64 0) := by
  have h := List.all_eq_true.1 sq_all i (by simpa using hi)
  have hl : i < Tryz.zeroCells44.size := by rw [sq_size]; exact hi
  rw [Array.getElem?_eq_getElem hl]
  have e := isZ_eq h
  rw [getElem!_pos Tryz.zeroCells44 i hl] at e
  rw [e]

def RbtR (w : World) (d : Int) (e : Ending) (w' : World) : Prop := e = .returned (.int .i64 d) ∧ Fr No w w'

end Go.Proofs.YtpkocidcfnlbiaaGreatDoor
