/- The law 'BuildUps' returns true, by the contracts; walked. -/

import Derived.Test.YtoepbhacpidcbaaGreatDoorQBase
import Derived.Test.YtoepbhacpidcbaaGreatDoorQIdx
import Derived.Test.YtoepbhacpidcbaaGreatDoorQIdxB
import Derived.Test.YtoepbhacpidcbaaGreatDoorQPerm
import Derived.Test.YtoepbhacpidcbaaGreatDoorQRef
import Derived.Test.YtoepbhacpidcbaaGreatDoorQBig
import Derived.Test.YtoepbhacpidcbaaGreatDoorQUnref
import Derived.Test.YtoepbhacpidcbaaGreatDoorQUnE
import Derived.Test.YtoepbhacpidcbaaGreatDoorQItr
import Derived.Test.YtoepbhacpidcbaaGreatDoorQDst
import Derived.Test.YtoepbhacpidcbaaGreatDoorQLnk
import Derived.Test.YtoepbhacpidcbaaGreatDoorQRow2
import Derived.Test.YtoepbhacpidcbaaGreatDoorQGr
import Derived.Test.YtoepbhacpidcbaaGreatDoorQGOps
import Derived.Test.YtoepbhacpidcbaaGreatDoorQBld
import Derived.Test.YtoepbhacpidcbaaGreatDoorQBW
import Derived.Test.YtoepbhacpidcbaaGreatDoorQHpK
import Derived.Test.YtoepbhacpidcbaaGreatDoorQG8
import Derived.Test.YtoepbhacpidcbaaGreatDoorQSqO
import Derived.Test.YtoepbhacpidcbaaGreatDoorQGoes
import Derived.Test.YtoepbhacpidcbaaGreatDoorQUp
import Derived.Test.YtoepbhacpidcbaaGreatDoorQSetP
import Derived.Test.YtoepbhacpidcbaaGreatDoorQWay
import Derived.Test.YtoepbhacpidcbaaGreatDoorQIn1
import Derived.Test.YtoepbhacpidcbaaGreatDoorQAll
import Derived.Test.YtoepbhacpidcbaaGreatDoorQAw6

set_option linter.unusedVariables false
set_option linter.unusedSimpArgs false
namespace Go.Proofs.YtoepbhacpidcbaaGreatDoor
open Go.RowKit Go.Deep

/-- The least that two rows come to. -/
def lst2 (U W : Nat → Int) (k : Nat) : Int := mn (fun _ => true) (fun v => tw (U v) (W v)) k
theorem lst2_meet {U W : Nat → Int} {n : Nat} {d : Int} (h1 : ∀ v, v < n → d ≤ tw (U v) (W v)) (h2 : d = 4611686018427387906 ∨ ∃ v, v < n ∧ tw (U v) (W v) = d) (hd : d ≤ 4611686018427387906) : lst2 U W n = d := by
  have h3 : lst2 U W n ≤ 4611686018427387906 := mn_none (p := fun _ => true) (f := fun v => tw (U v) (W v)) n
  have h4 : lst2 U W n = 4611686018427387906 ∨ ∃ i, i < n ∧ true = true ∧ lst2 U W n = tw (U i) (W i) := mn_is (p := fun _ => true) (f := fun v => tw (U v) (W v)) n
  have h5 : ∀ i, i < n → lst2 U W n ≤ tw (U i) (W i) := fun i hi => mn_le (p := fun _ => true) (f := fun v => tw (U v) (W v)) n i hi rfl
  rcases h2 with rfl | ⟨v, hv, e2⟩
  · rcases h4 with e | ⟨i, hi, _, e⟩
    · exact e
    · have := h1 i hi
      omega
  · have h6 := h5 v hv
    have h7 := h1 v hv
    rcases h4 with e | ⟨i, hi, _, e⟩
    · omega
    · have := h1 i hi
      omega

theorem srow_fr (w : World) (g : Nat) (cs : Array Value) : Fr (One g) w (w.setRow g cs) := ⟨rfl, rfl, rfl, by simp, fun k hk hk2 => by
  have hk2 : ¬ k = g := hk2
  simp only [World.setRow, Array.getElem?_modify]
  rw [if_neg (fun e => hk2 e.symm)]⟩
end Go.Proofs.YtoepbhacpidcbaaGreatDoor
/- bypass.meet; walked. -/
set_option linter.unusedVariables false
set_option linter.unusedSimpArgs false
namespace Go.Proofs.YtoepbhacpidcbaaGreatDoor
open Go.RowKit Go.Deep

/-- Where they meet: at the first by way of which it is that far; -1: nowhere. -/
def MeetAt (U W : Nat → Int) (k : Nat) (a : Int) : Prop := (a = -1 ∧ lst2 U W k = 4611686018427387906) ∨ ∃ u : Nat, a = u ∧ u < k ∧ tw (U u) (W u) = lst2 U W k ∧ lst2 U W k ≠ 4611686018427387906
theorem lst2_st (U W : Nat → Int) (k : Nat) : lst2 U W (k + 1) = if tw (U k) (W k) < lst2 U W k then tw (U k) (W k) else lst2 U W k := by
  show (if (fun _ => true) k = true ∧ tw (U k) (W k) < lst2 U W k then tw (U k) (W k) else lst2 U W k) = _
  simp
theorem lst2_le (U W : Nat → Int) (k : Nat) : lst2 U W k ≤ 4611686018427387906 := mn_none (p := fun _ => true) (f := fun v => tw (U v) (W v)) k
theorem MeetAt.less {U W : Nat → Int} {k : Nat} (h : tw (U k) (W k) < lst2 U W k) : MeetAt U W (k + 1) (k : Nat) :=
  .inr ⟨k, rfl, by omega, by rw [lst2_st, if_pos h], by rw [lst2_st, if_pos h]; have := lst2_le U W k; omega⟩
theorem MeetAt.same {U W : Nat → Int} {k : Nat} {a : Int} (hm : MeetAt U W k a) (h : ¬ tw (U k) (W k) < lst2 U W k) : MeetAt U W (k + 1) a := by
  rcases hm with ⟨h1, h2⟩ | ⟨u, h1, h2, h3, h4⟩
  · exact .inl ⟨h1, by rw [lst2_st, if_neg h]; exact h2⟩
  · exact .inr ⟨u, h1, by omega, by rw [lst2_st, if_neg h]; exact h3, by rw [lst2_st, if_neg h]; exact h4⟩

set_option maxRecDepth 100000 in
set_option maxHeartbeats 4000000 in
theorem meet22_calls {w : World} {n B1 B2 : Nat} (hn : n ≤ 24) (U W : Nat → Int) (b1 b2 : Value) (h1 : Blk w B1 n 3 (fun i => .int .i64 (U i))) (h2 : Blk w B2 n 3 (fun i => .int .i64 (W i))) (hu : ∀ i, i < n → Bd (U i)) (hw : ∀ i, i < n → Bd (W i))
    (hb1 : ∃ A m c, b1 = .slice A m c) (hb2 : ∃ A m c, b2 = .slice A m c) :
    Calls Tryz.prog 67 #[.agg #[.slice (some ⟨B1, 0, none⟩) n n, b1], .agg #[.slice (some ⟨B2, 0, none⟩) n n, b2]] w fun e w' => ∃ a : Int, e = .returned (.tuple #[.int .i64 (lst2 U W n), .int .i64 a]) ∧ Fr No w w' ∧ MeetAt U W n a := by
  obtain ⟨A1, m1, c1, rfl⟩ := hb1
  obtain ⟨A2, m2, c2, rfl⟩ := hb2
  have H1 := hid h1
  have H2 := hid h2
  have HU := hid hu
  have HW := hid hw
  have l1 := h1.lt
  have l2 := h2.lt
  clear h1 h2 hu hw
  go_enter Tryz.func67, Tryz.ntmps67
  go_wp2
  have f2 : Fr No w ((w.alloc (.cells #[.slice (some ⟨B1, 0, none⟩) n n, .slice A1 m1 c1] 129)).alloc (.cells #[.slice (some ⟨B2, 0, none⟩) n n, .slice A2 m2 c2] 129)) := ((Fr.refl No w).alloc _).alloc _
  have x3 : ((w.alloc (.cells #[.slice (some ⟨B1, 0, none⟩) n n, .slice A1 m1 c1] 129)).alloc (.cells #[.slice (some ⟨B2, 0, none⟩) n n, .slice A2 m2 c2] 129)).cell? ⟨w.heap.size + 1, 0, none⟩ = some (.slice (some ⟨B2, 0, none⟩) n n) := by simp [go_sem]
  generalize (w.alloc (.cells #[.slice (some ⟨B1, 0, none⟩) n n, .slice A1 m1 c1] 129)).alloc (.cells #[.slice (some ⟨B2, 0, none⟩) n n, .slice A2 m2 c2] 129) = W2 at f2 x3 ⊢
  have F2 := hid f2
  have X3 := hid x3
  clear f2 x3
  go_loopg [4, 5, 12] (n + 1) (fun gk p r q wr => ∃ (k : Nat) (a : Int), p = .int .i64 (lst2 U W k) ∧ r = .int .i64 a ∧ q = .int .i64 k ∧ k ≤ n ∧ gk = n + 1 - k ∧ Fr No W2 wr ∧ MeetAt U W k a)
  case atStart => exact ⟨0, -1, rfl, rfl, rfl, by omega, rfl, Fr.refl _ _, .inl ⟨rfl, rfl⟩⟩
  case round =>
    obtain ⟨k, a, rfl, rfl, rfl, hk, hg, hf, hm⟩ := hrel
    have HG := hid hg
    have HF := hid hf
    have HM := hid hm
    clear hg hf hm
    by_cases hlt : k < n
    · have hlt2 : (k : Int) < n := by omega
      have s1 := (H1.out.fr (F2.out.trans HF.out) (fun h => h)).cell hlt
      have s2 := (H2.out.fr (F2.out.trans HF.out) (fun h => h)).cell hlt
      have s3 := HF.out.cell_some X3.out (fun h => h)
      have hsum : ad (U k) (W k) = tw (U k) (W k) := ad_tw (HU.out k hlt) (HW.out k hlt)
      have hst := lst2_st U W k
      have hle : tw (U k) (W k) < lst2 U W k → MeetAt U W (k + 1) (k : Nat) := MeetAt.less
      have hsa : ¬ tw (U k) (W k) < lst2 U W k → MeetAt U W (k + 1) a := HM.out.same
      obtain ⟨uv, eu⟩ : ∃ r, U k = r := ⟨_, rfl⟩
      obtain ⟨dv, ed⟩ : ∃ r, W k = r := ⟨_, rfl⟩
      obtain ⟨ls, els⟩ : ∃ r, lst2 U W k = r := ⟨_, rfl⟩
      obtain ⟨sm, esm⟩ : ∃ r, tw (U k) (W k) = r := ⟨_, rfl⟩
      rw [esm] at hsum hst hle hsa
      rw [els] at hst hle hsa
      rw [eu] at s1 hsum
      rw [ed] at s2 hsum
      have HSUM := hid hsum
      have HST := hid hst
      have HLE := hid hle
      have HSA := hid hsa
      rw [els]
      clear hsum hst hle hsa eu ed els esm
      go_wp2_with fail
      refine (adl_calls uv dv (some ⟨wr.heap.size, 0, none⟩) 2 _ (fun _ => ⟨_, 0, rfl, by intro j hj; (have : j = 0 ∨ j = 1 := by omega); rcases this with rfl | rfl <;> simp [go_sem, pfM]⟩)).mono ?_
      rw [HSUM.out]
      rintro e w5 ⟨rfl, hf5⟩
      have HF5 := hid (HF.out.trans (((Fr.refl No wr).alloc _).trans hf5))
      clear hf5 s1 s2 s3
      by_cases hp : sm < ls
      · have g1 : decide (sm < ls) = true := by simp; exact hp
        go_wp2
        go_roundg (n + 1 - (k + 1))
        case measure => have := HG.out; omega
        case rel => exact ⟨k + 1, (k : Nat), by rw [HST.out, if_pos hp], rfl, by go_num, by omega, rfl, HF5.out, HLE.out hp⟩
      · have g1 : decide (sm < ls) = false := by simp; omega
        go_wp2
        go_roundg (n + 1 - (k + 1))
        case measure => have := HG.out; omega
        case rel => exact ⟨k + 1, a, by rw [HST.out, if_neg (by omega)], rfl, by go_num, by omega, rfl, HF5.out, HSA.out (by omega)⟩
    · obtain rfl : k = n := by omega
      go_wp2
      go_ret2
      exact ⟨a, rfl, F2.out.trans HF.out, HM.out⟩

end Go.Proofs.YtoepbhacpidcbaaGreatDoor
