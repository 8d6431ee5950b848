/- A new graph; walked. -/
import Derived.Test.YtpkocidcfnlbiaaDoorDst
import Derived.Test.YtpkocidcfnlbiaaDoorLnk
import Derived.Test.YtpkocidcfnlbiaaDoorUnE
set_option linter.unusedVariables false
set_option linter.unusedSimpArgs false
namespace Go.Proofs.YtpkocidcfnlbiaaDoor
open Go.RowKit Go.Deep

def nilS : Value := .slice none 0 0
theorem info_ends : (Tryd.prog.info? 76).map (fun i => (i.zero, i.size, i.bytes)) = some (some (.agg #[.slice none 0 0, .slice none 0 0]), 2, 48) := by kernel_rfl
theorem run_make_ends (n : Nat) (hn : n ≤ 1000) (w : World) :
    (Instr.makeSlice 68 (.int .i64 (n : Int)) (.int .i64 (n : Int))).run Tryd.prog w = .ok (.slice (some ⟨w.heap.size, 0, none⟩) n n) (w.alloc (.cells (madeCells #[.slice none 0 0, .slice none 0 0] (n * 2)) 76)) := by
  obtain ⟨i, hi, h⟩ := Option.map_eq_some_iff.1 info_ends
  simp only [Prod.mk.injEq] at h
  have := run_make w 68 76 i _ Tryd.underlying68 hi h.1 .i64 .i64 (n : Int) (n : Int) (by omega) (Int.le_refl _) (by rw [h.2.2]; omega) (by omega)
  rw [h.2.1] at this
  simp only [Value.cells, Int.toNat_natCast] at this
  exact this
theorem made_ends (n i : Nat) (hi : i < n * 2) : (madeCells #[.slice none 0 0, .slice none 0 0] (n * 2))[i]? = some (.slice none 0 0) := by
  have : i % 2 = 0 ∨ i % 2 = 1 := by omega
  simp [madeCells, hi]
  rcases this with h | h <;> rw [h] <;> rfl

def isF : Value → Bool
  | .bool b => !b
  | _ => false
theorem isF_eq {v : Value} (h : isF v = true) : v = .bool false := by
  unfold isF at h; split at h
  · simp at h; subst h; rfl
  · cases h
set_option maxRecDepth 100000 in
theorem gz_all : ((List.range 64).all fun i => isZ (Tryd.zeroCells73[i * 5]!) && isZ (Tryd.zeroCells73[i * 5 + 1]!) && isZ (Tryd.zeroCells73[i * 5 + 2]!) && isF (Tryd.zeroCells73[i * 5 + 3]!)) = true := by kernel_rfl
theorem gz (i : Nat) (hi : i < 64) : Tryd.zeroCells73[i * 5]? = some (.int .i64 0) ∧ Tryd.zeroCells73[i * 5 + 1]? = some (.int .i64 0) ∧ Tryd.zeroCells73[i * 5 + 2]? = some (.int .i64 0) ∧ Tryd.zeroCells73[i * 5 + 3]? = some (.bool false) := by
  have hs := Tryd.zeroCells73_size
  have h := List.all_eq_true.1 gz_all i (by simpa using hi)
  simp only [Bool.and_eq_true] at h
  have key : ∀ j, j < 323 → Tryd.zeroCells73[j]? = some (Tryd.zeroCells73[j]!) := fun j hj => by
    have hl : j < Tryd.zeroCells73.size := by omega
    rw [Array.getElem?_eq_getElem hl]; exact congrArg some (getElem!_pos Tryd.zeroCells73 j hl).symm
  rw [key _ (by omega), key _ (by omega), key _ (by omega), key _ (by omega), isZ_eq h.1.1.1, isZ_eq h.1.1.2, isZ_eq h.1.2, isF_eq h.2]
  exact ⟨rfl, rfl, rfl, rfl⟩

set_option maxRecDepth 100000 in
set_option maxHeartbeats 4000000 in
theorem gnew_calls (n m : Nat) (h1 : 1 ≤ n) (h2 : n ≤ 24) (h3 : 1 ≤ m) (h4 : m ≤ 64) (w : World) :
    Calls Tryd.prog 11 #[.int .i64 (n : Nat), .int .i64 (m : Nat)] w fun e w' => ∃ b : Nat, e = .returned (.tuple #[.pointer (some ⟨b, 0, none⟩), .int .i64 0]) ∧ Fr No w w' ∧ w.heap.size ≤ b ∧
      ∀ W : World, Fr (fun k => k < w.heap.size) w' W → ArcsAt W b (fun _ => ⟨0, 0, 0, false⟩) ∧ ∀ v : Nat, v < n → OutAt W.heap.size W b v [] := by
  have hmk := run_make_ends n (by omega)
  go_enter Tryd.func11, Tryd.ntmps11
  go_wp2
  go_ret2
  refine ⟨w.heap.size + 1, rfl, ((Fr.refl _ _).alloc _).alloc _, by omega, fun W hW => ⟨?_, ?_⟩⟩
  · intro i hi
    obtain ⟨z0, z1, z2, z3⟩ := gz i hi
    refine ⟨hW.cell_some ?_ (by show ¬ (w.heap.size + 1 < w.heap.size); omega), hW.cell_some ?_ (by show ¬ (w.heap.size + 1 < w.heap.size); omega), hW.cell_some ?_ (by show ¬ (w.heap.size + 1 < w.heap.size); omega), hW.cell_some ?_ (by show ¬ (w.heap.size + 1 < w.heap.size); omega)⟩ <;> rw [cell_of (heap_alloc2' w _ _), Array.getElem?_setIfInBounds, if_neg (by omega), Array.getElem?_setIfInBounds, if_neg (by omega)]
    · exact z0
    · exact z1
    · exact z2
    · exact z3
  · intro v hv
    have hs := hW.size
    simp at hs
    refine ⟨by omega, by simp, some ⟨w.heap.size, 0, none⟩, n, n, ?_, by omega, .inr ⟨w.heap.size, v, 0, none, rfl, rfl, hv, by omega, hW.cell_some ?_ (by show ¬ (w.heap.size < w.heap.size); omega), .inl ⟨rfl, rfl⟩⟩⟩
    · refine hW.cell_some ?_ (by show ¬ (w.heap.size + 1 < w.heap.size); omega)
      rw [cell_of (heap_alloc2' w _ _), Array.getElem?_setIfInBounds, if_neg (by omega), Array.getElem?_setIfInBounds, if_pos rfl, if_pos (by rw [Tryd.zeroCells73_size]; omega)]
    · rw [cell_of (heap_alloc2 w _ _)]; exact made_ends n (v * 2) (by omega)

end Go.Proofs.YtpkocidcfnlbiaaDoor

/- The index law's check that its parts are awake; walked. -/
set_option linter.unusedVariables false
set_option linter.unusedSimpArgs false
namespace Go.Proofs.YtpkocidcfnlbiaaDoor
open Go.RowKit Go.Deep
attribute [local go_sem high] run_eql_en run_neq_en

theorem eq3_same (a b c : Int) : eq3 a b c a b c = true := by simp [eq3]
def ak0 : Ix := Ix.new 3 awf awg
def ak1 : Ix := ak0.setI 0 1 ⟨2, 7, -1⟩
def ak2 : Ix := ak1.setI 1 2 ⟨3, 8, -1⟩
def ak3 : Ix := ak2.setI 0 1 ⟨2, -1, 2⟩
theorem ak_c0 : ak0.codeI 0 1 ⟨2, 7, -1⟩ = 0 := by decide +kernel
theorem ak_c2 : ak2.codeI 0 1 ⟨2, -1, 2⟩ = 1 := by decide +kernel
theorem ak_best : ak3.bestTo (0 : Nat) (2 : Nat) En.none (min (ak3.rk 0) (ak3.rk 2)) = ⟨5, -1, 1⟩ := by decide +kernel
theorem ak_two : ak3.two (0 : Nat) (2 : Nat) = true := by decide +kernel
theorem ak_low : ak3.low 0 1 = 1 := by decide +kernel
theorem ak_rank : ak3.rank 3 = -1 := by decide +kernel
theorem ak_byr : ak3.byr 0 = 1 := by decide +kernel
theorem ak_lks : (ak3.lks ak3.n).length = 2 := by decide +kernel
theorem ak_shorts : ak3.shorts.length = 0 := by decide +kernel

def awf2 (j : Nat) : Int := [1, 1].getD j 0
theorem aw_noperm : ¬ (0 < 2 ∧ PermF 2 awf2) := fun h => h.2.2.2 0 1 (by omega) (by omega) (by decide)

end Go.Proofs.YtpkocidcfnlbiaaDoor
