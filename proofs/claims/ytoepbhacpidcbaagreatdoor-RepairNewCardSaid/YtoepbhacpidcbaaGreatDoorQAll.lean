/- ringroadref10.All: how far it is from each vertex to each other one, as the document says; walked. -/
import Derived.Laws.Rows
import Derived.Test.YtoepbhacpidcbaaGreatDoorQBase
import Derived.Test.YtoepbhacpidcbaaGreatDoorQIdx
import Derived.Test.YtoepbhacpidcbaaGreatDoorQPerm
import Derived.Test.YtoepbhacpidcbaaGreatDoorQIdxB
import Derived.Test.YtoepbhacpidcbaaGreatDoorQRef
import Derived.Test.YtoepbhacpidcbaaGreatDoorQUnref
import Derived.Test.YtoepbhacpidcbaaGreatDoorQItr
import Derived.Test.YtoepbhacpidcbaaGreatDoorQUnE
import Derived.Test.YtoepbhacpidcbaaGreatDoorQDst
import Derived.Test.YtoepbhacpidcbaaGreatDoorQLnk
import Derived.Test.YtoepbhacpidcbaaGreatDoorQLks
import Derived.Test.YtoepbhacpidcbaaGreatDoorQMid
import Derived.Test.YtoepbhacpidcbaaGreatDoorQBig
import Derived.Test.YtoepbhacpidcbaaGreatDoorQCp2
import Derived.Test.YtoepbhacpidcbaaGreatDoorQGoes
import Derived.Test.YtoepbhacpidcbaaGreatDoorQGOps
import Derived.Test.YtoepbhacpidcbaaGreatDoorQGB
import Derived.Test.YtoepbhacpidcbaaGreatDoorQG8
import Derived.Test.YtoepbhacpidcbaaGreatDoorQWh
import Derived.Test.YtoepbhacpidcbaaGreatDoorQWk
import Derived.Test.YtoepbhacpidcbaaGreatDoorQHpK
import Derived.Test.YtoepbhacpidcbaaGreatDoorQSqO
import Derived.Test.YtoepbhacpidcbaaGreatDoorQRBt

set_option linter.unusedVariables false
set_option linter.unusedSimpArgs false
namespace Go.Proofs.YtoepbhacpidcbaaGreatDoor
open Go.RowKit Go.Deep

/-- A square as one value. -/
def sqV (D : Mat) : Array Value := ((List.range 576).map fun k => Value.int .i64 (D (k / 24) (k % 24))).toArray
theorem sqV_size (D : Mat) : (sqV D).size = 576 := by simp [sqV]
theorem sqV_get (D : Mat) {i j : Nat} (hi : i < 24) (hj : j < 24) : (sqV D)[i * 24 + j]? = some (.int .i64 (D i j)) := by
  unfold sqV
  rw [List.getElem?_toArray, List.getElem?_map, List.getElem?_range (by omega), Option.map_some, show (i * 24 + j) / 24 = i by omega, show (i * 24 + j) % 24 = j by omega]
theorem Sq.heap {W : World} {B : Nat} {D : Mat} (h : Sq W B 24 D) : W.heap[B]? = some (.cells (sqV D) 103 (0, 0)) := by
  obtain ⟨M, ⟨C, hC, hn, hc⟩, hM⟩ := h
  rw [hC]
  have e : C = sqV D := by
    apply Array.ext_getElem?
    intro k
    by_cases hk : k < 576
    · have hk2 := hM (k / 24) (k % 24) (by omega) (Nat.mod_lt _ (by omega))
      have := sqV_get D (i := k / 24) (j := k % 24) (by omega) (Nat.mod_lt _ (by omega))
      rw [show k / 24 * 24 + k % 24 = k by omega] at this hk2
      rw [hc k hk, this]
      show some (Value.int .i64 (M k)) = _
      rw [hk2]
    · rw [Array.getElem?_eq_none (by omega), Array.getElem?_eq_none (by rw [sqV_size]; omega)]
  rw [e]
theorem Sq.of_heap {W : World} {B : Nat} {D : Mat} {T : TypeId} (hT : T = 103) (h : W.heap[B]? = some (.cells (sqV D) T (0, 0))) : Sq W B 24 D := by
  subst hT
  refine ⟨fun k => D (k / 24) (k % 24), ⟨_, h, sqV_size D, fun i hi => ?_⟩, fun i j hi hj => ?_⟩
  · have := sqV_get D (i := i / 24) (j := i % 24) (by omega) (Nat.mod_lt _ (by omega))
    rw [show i / 24 * 24 + i % 24 = i by omega] at this
    exact this
  · show D ((i * 24 + j) / 24) ((i * 24 + j) % 24) = D i j
    rw [show (i * 24 + j) / 24 = i by omega, show (i * 24 + j) % 24 = j by omega]
end Go.Proofs.YtoepbhacpidcbaaGreatDoor
