/- A new graph; walked. -/
import Derived.Test.YtlncmnphjdeeoaaDoorDst
import Derived.Test.YtlncmnphjdeeoaaDoorLnk
import Derived.Test.YtlncmnphjdeeoaaDoorUnE
set_option linter.unusedVariables false
set_option linter.unusedSimpArgs false
namespace Go.Proofs.YtlncmnphjdeeoaaDoor
open Go.RowKit Go.Deep

def nilS : Value := .slice none 0 0
theorem info_ends : (Tryd.prog.info? 169).map (fun i => (i.zero, i.size, i.bytes)) = some (some (.agg #[.slice none 0 0, .slice none 0 0]), 2, 48) := by kernel_rfl
theorem run_make_ends (n : Nat) (hn : n ≤ 1000) (w : World) :
    (Instr.makeSlice 143 (.int .i64 (n : Int)) (.int .i64 (n : Int))).run Tryd.prog w = .ok (.slice (some ⟨w.heap.size, 0, none⟩) n n) (w.alloc (.cells (madeCells #[.slice none 0 0, .slice none 0 0] (n * 2)) 169)) := by
  obtain ⟨i, hi, h⟩ := Option.map_eq_some_iff.1 info_ends
  simp only [Prod.mk.injEq] at h
  have := run_make w 143 169 i _ Tryd.underlying143 hi h.1 .i64 .i64 (n : Int) (n : Int) (by omega) (Int.le_refl _) (by rw [h.2.2]; omega) (by omega)
  rw [h.2.1] at this
  simp only [Value.cells, Int.toNat_natCast] at this
  exact this
theorem made_ends (n i : Nat) (hi : i < n * 2) : (madeCells #[.slice none 0 0, .slice none 0 0] (n * 2))[i]? = some (.slice none 0 0) := by
  have : i % 2 = 0 ∨ i % 2 = 1 := by omega
  simp [madeCells, hi]
  rcases this with h | h <;> rw [h] <;> rfl

def isF : Value → Bool
  | .bool b => !b
  | _ => false
theorem isF_eq {v : Value} (h : isF v = true) : v = .bool false := by
  unfold isF at h; split at h
  · simp at h; subst h; rfl
  · cases h
set_option maxRecDepth 100000 in
theorem gz_all : ((List.range 64).all fun i => isZ (Tryd.zeroCells148[i * 5]!) && isZ (Tryd.zeroCells148[i * 5 + 1]!) && isZ (Tryd.zeroCells148[i * 5 + 2]!) && isF (Tryd.zeroCells148[i * 5 + 3]!)) = true := by kernel_rfl
theorem gz (i : Nat) (hi : i < 64) : Tryd.zeroCells148[i * 5]? = some (.int .i64 0) ∧ Tryd.zeroCells148[i * 5 + 1]? = some (.int .i64 0) ∧ Tryd.zeroCells148[i * 5 + 2]? = some (.int .i64 0) ∧ Tryd.zeroCells148[i * 5 + 3]? = some (.bool false) := by
  have hs := Tryd.zeroCells148_size
  have h := List.all_eq_true.1 gz_all i (by simpa using hi)
  simp only [Bool.and_eq_true] at h
  have key : ∀ j, j < 323 → Tryd.zeroCells148[j]? = some (Tryd.zeroCells148[j]!) := fun j hj => by
    have hl : j < Tryd.zeroCells148.size := by omega
    rw [Array.getElem?_eq_getElem hl]; exact congrArg some (getElem!_pos Tryd.zeroCells148 j hl).symm
  rw [key _ (by omega), key _ (by omega), key _ (by omega), key _ (by omega), isZ_eq h.1.1.1, isZ_eq h.1.1.2, isZ_eq h.1.2, isF_eq h.2]
  exact ⟨rfl, rfl, rfl, rfl⟩

set_option maxRecDepth 100000 in
set_option maxHeartbeats 4000000 in
theorem gnew_calls (n m : Nat) (h1 : 1 ≤ n) (h2 : n ≤ 24) (h3 : 1 ≤ m) (h4 : m ≤ 64) (w : World) :
    Calls Tryd.prog 61 #[.int .i64 (n : Nat), .int .i64 (m : Nat)] w fun e w' => ∃ b : Nat, e = .returned (.tuple #[.pointer (some ⟨b, 0, none⟩), .int .i64 0]) ∧ Fr No w w' ∧ w.heap.size ≤ b ∧
      ∀ W : World, Fr (fun k => k < w.heap.size) w' W → ArcsAt W b (fun _ => ⟨0, 0, 0, false⟩) ∧ ∀ v : Nat, v < n → OutAt W.heap.size W b v [] := by
  have hmk := run_make_ends n (by omega)
  go_enter Tryd.func61, Tryd.ntmps61
  go_wp2
  go_ret2
  refine ⟨w.heap.size + 1, rfl, ((Fr.refl _ _).alloc _).alloc _, by omega, fun W hW => ⟨?_, ?_⟩⟩
  · intro i hi
    obtain ⟨z0, z1, z2, z3⟩ := gz i hi
    refine ⟨hW.cell_some ?_ (by show ¬ (w.heap.size + 1 < w.heap.size); omega), hW.cell_some ?_ (by show ¬ (w.heap.size + 1 < w.heap.size); omega), hW.cell_some ?_ (by show ¬ (w.heap.size + 1 < w.heap.size); omega), hW.cell_some ?_ (by show ¬ (w.heap.size + 1 < w.heap.size); omega)⟩ <;> rw [cell_of (heap_alloc2' w _ _), Array.getElem?_setIfInBounds, if_neg (by omega), Array.getElem?_setIfInBounds, if_neg (by omega)]
    · exact z0
    · exact z1
    · exact z2
    · exact z3
  · intro v hv
    have hs := hW.size
    simp at hs
    refine ⟨by omega, by simp, some ⟨w.heap.size, 0, none⟩, n, n, ?_, by omega, .inr ⟨w.heap.size, v, 0, none, rfl, rfl, hv, by omega, hW.cell_some ?_ (by show ¬ (w.heap.size < w.heap.size); omega), .inl ⟨rfl, rfl⟩⟩⟩
    · refine hW.cell_some ?_ (by show ¬ (w.heap.size + 1 < w.heap.size); omega)
      rw [cell_of (heap_alloc2' w _ _), Array.getElem?_setIfInBounds, if_neg (by omega), Array.getElem?_setIfInBounds, if_pos rfl, if_pos (by rw [Tryd.zeroCells148_size]; omega)]
    · rw [cell_of (heap_alloc2 w _ _)]; exact made_ends n (v * 2) (by omega)

end Go.Proofs.YtlncmnphjdeeoaaDoor

/- The index law's check that its parts are awake; walked. -/
set_option linter.unusedVariables false
set_option linter.unusedSimpArgs false
namespace Go.Proofs.YtlncmnphjdeeoaaDoor
open Go.RowKit Go.Deep
attribute [local go_sem high] run_eql_en run_neq_en

theorem eq3_same (a b c : Int) : eq3 a b c a b c = true := by simp [eq3]
def ak0 : Ix := Ix.new 3 awf awg
def ak1 : Ix := ak0.setI 0 1 ⟨2, 7, -1⟩
def ak2 : Ix := ak1.setI 1 2 ⟨3, 8, -1⟩
def ak3 : Ix := ak2.setI 0 1 ⟨2, -1, 2⟩
theorem ak_c0 : ak0.codeI 0 1 ⟨2, 7, -1⟩ = 0 := by decide +kernel
theorem ak_c2 : ak2.codeI 0 1 ⟨2, -1, 2⟩ = 1 := by decide +kernel
theorem ak_best : ak3.bestTo (0 : Nat) (2 : Nat) En.none (min (ak3.rk 0) (ak3.rk 2)) = ⟨5, -1, 1⟩ := by decide +kernel
theorem ak_two : ak3.two (0 : Nat) (2 : Nat) = true := by decide +kernel
theorem ak_low : ak3.low 0 1 = 1 := by decide +kernel
theorem ak_rank : ak3.rank 3 = -1 := by decide +kernel
theorem ak_byr : ak3.byr 0 = 1 := by decide +kernel
theorem ak_lks : (ak3.lks ak3.n).length = 2 := by decide +kernel
theorem ak_shorts : ak3.shorts.length = 0 := by decide +kernel

def awf2 (j : Nat) : Int := [1, 1].getD j 0
theorem aw_noperm : ¬ (0 < 2 ∧ PermF 2 awf2) := fun h => h.2.2.2 0 1 (by omega) (by omega) (by decide)

set_option maxRecDepth 100000 in
set_option maxHeartbeats 4000000 in
theorem awake15_calls (w : World) (hN : NoneVar w) : Calls Tryd.prog 21 #[] w fun e w' => e = .returned (.bool true) ∧ Fr No w w' := by
  have HN := hid hN
  clear hN
  go_enter Tryd.func21, Tryd.ntmps21
  go_wp2_with fail
  refine (new_yes (some ⟨w.heap.size, 0, none⟩) 3 3 awf _ (lit_ints 3 awf (by intro j hj; (have : j = 0 ∨ j = 1 ∨ j = 2 := by omega); rcases this with rfl | rfl | rfl <;> rfl)) (by decide) aw_perm awg aw_g1 aw_g2 (HN.out.fr ((Fr.refl No _).alloc _) (fun h => h))).mono ?_
  rintro e w1 ⟨L, rfl, hf, hm, hb, _, _, hcb⟩
  have hsz : w.heap.size ≤ L.b := by simp only [World.alloc, Array.size_push] at hb; omega
  have M0 := hid (show IxMem w1 L ak0 from hm)
  have F0 := hid (((Fr.refl No w).alloc _).trans hf)
  have CB := hid hcb
  clear hf hm hb hcb
  go_wp2_with fail
  have fa := (Fr.refl No w1).alloc (Obj.cells #[Value.int IntKind.i64 1, Value.int IntKind.i64 1] 3)
  refine (new_no (some ⟨w1.heap.size, 0, none⟩) 2 2 awf2 _ (lit_ints 2 awf2 (by intro j hj; (have : j = 0 ∨ j = 1 := by omega); rcases this with rfl | rfl <;> rfl)) (by decide) aw_noperm).mono ?_
  rintro e w2 ⟨rfl, hf⟩
  have M1 := hid (M0.out.no (fa.trans hf))
  have F1 := hid (F0.out.trans (fa.trans hf))
  clear hf fa
  go_wp2_with fail
  refine (gnew_calls 3 3 (by omega) (by omega) (by omega) (by omega) _).mono ?_
  rintro e w3 ⟨gb, rfl, hf, hgb, hg⟩
  have hlb := M1.out.lt
  have M2 := hid (M1.out.no hf)
  have F2 := hid (F1.out.trans hf)
  have HG := hid hg
  clear hf hg
  go_wp2_with fail
  refine (set_calls M2.out 0 1 ⟨2, 7, -1⟩).mono ?_
  rintro e w4 ⟨rfl, hm, hf⟩
  rw [ak_c0]
  have M3 := hid (show IxMem w4 L ak1 from hm)
  have F3 := hid (fr_sub F2.out hf hsz)
  have G3 := hid (hf.mono (G := fun k => k < w2.heap.size) (fun k _ e => by have : k = L.b := e; omega))
  clear hm hf
  go_wp2_with fail
  refine (set_calls M3.out 1 2 ⟨3, 8, -1⟩).mono ?_
  rintro e w5 ⟨rfl, hm, hf⟩
  have M4 := hid (show IxMem w5 L ak2 from hm)
  have F4 := hid (fr_sub F3.out hf hsz)
  have G4 := hid (G3.out.trans (hf.mono (G := fun k => k < w2.heap.size) (fun k _ e => by have : k = L.b := e; omega)))
  clear hm hf
  go_wp2_with fail
  refine (set_calls M4.out 0 1 ⟨2, -1, 2⟩).mono ?_
  rintro e w6 ⟨rfl, hm, hf⟩
  rw [ak_c2]
  have M5 := hid (show IxMem w6 L ak3 from hm)
  have F5 := hid (fr_sub F4.out hf hsz)
  have G5 := hid (G4.out.trans (hf.mono (G := fun k => k < w2.heap.size) (fun k _ e => by have : k = L.b := e; omega)))
  clear hm hf
  go_wp2_with fail
  have hg := HG.out w6 G5.out
  refine (best_yes (u := 0) (v := 2) M5.out (by rw [CB.out]; exact Nat.le_refl 3) ak_two (hg.2 0 (by omega)) hg.1).mono ?_
  rintro e w7 ⟨rfl, hf⟩
  have hb : ak3.bestTo ((0 : Nat) : Int) ((2 : Nat) : Int) (if 0 ≤ (bestOf (fun _ => ⟨0, 0, 0, false⟩) ((2 : Nat) : Int) []).2 then ⟨(bestOf (fun _ => ⟨0, 0, 0, false⟩) ((2 : Nat) : Int) []).1, (bestOf (fun _ => ⟨0, 0, 0, false⟩) ((2 : Nat) : Int) []).2, -1⟩ else En.none) (min (ak3.rk 0) (ak3.rk 2)) = ⟨5, -1, 1⟩ := by decide +kernel
  rw [hb]
  simp only [En.val]
  have M6 := hid (M5.out.no hf)
  have F6 := hid (F5.out.trans hf)
  clear hf hb hg
  have E1 := eq3_same 5 (-1) 1
  go_wp2_with fail
  have fa := (Fr.refl No w7).alloc (Obj.cells #[Value.int IntKind.i64 5, Value.int IntKind.i64 (-1), Value.int IntKind.i64 1] 41)
  have M7 := hid (M6.out.no fa)
  have F7 := hid (F6.out.trans fa)
  clear fa
  refine (low_calls M7.out 0 1).mono ?_
  rintro e w8 ⟨rfl, k8, rfl⟩
  rw [ak_low]
  have M8 := hid (M7.out.drewN k8)
  have F8 := hid (F7.out.drewN k8)
  go_wp2_with fail
  refine (rank_calls M8.out 3).mono ?_
  rintro e w9 ⟨rfl, rfl⟩
  rw [ak_rank]
  go_wp2_with fail
  refine (by_calls M8.out 0).mono ?_
  rintro e w9 ⟨rfl, rfl⟩
  rw [ak_byr]
  go_wp2_with fail
  refine (links_own M8.out).mono ?_
  rintro e w10 ⟨A, c, rfl, hf, _, _⟩
  rw [ak_lks]
  have M9 := hid (M8.out.no hf)
  have F9 := hid (F8.out.trans hf)
  clear hf
  go_wp2_with fail
  refine (shortcuts_calls M9.out).mono ?_
  rintro e w11 ⟨A2, c2, rfl, hf, _⟩
  rw [ak_shorts]
  have F10 := hid (F9.out.trans hf)
  clear hf
  go_wp2
  go_ret
  exact ⟨rfl, F10.out⟩

end Go.Proofs.YtlncmnphjdeeoaaDoor
