/- An argument that is an entry, opened. -/
import Derived.Test.YthnmomiglgomfaaGreatDoorRow
import Derived.WideShapes
set_option linter.unusedVariables false
set_option linter.unusedSimpArgs false
set_option linter.all false
set_option maxRecDepth 100000
namespace Go.Proofs.YthnmomiglgomfaaGreatDoor
open Go.ChangeShapes Go.WideShapes Go.ChangeAt Go.RowKit Go.Deep

theorem open_entryV {H : Type} {enc : TypeId × Value → H} {W : World} {base : Nat} {sp : Nat → Bool} {held : Bool} {v : Value} {d : DataW H} {p : List MemPlace} {r : Reach} {b0 : Nat} (hv : Value.okWide Tryz.prog W r b0 51 v) (h : DataW.Trod enc Tryz.prog W base sp held 51 v d p) :
    ∃ a b c : Int, v = .agg #[.int .i64 a, .int .i64 b, .int .i64 c] := by
  obtain ⟨cs, rfl, hs⟩ := okWide_struct Tryz.underlying51 hv
  obtain ⟨fuel, hf⟩ := h
  obtain ⟨a, b, c, e, _⟩ := open_entry hf
  have e' : cs.toList = [.int .i64 a, .int .i64 b, .int .i64 c] := e
  exact ⟨a, b, c, by rw [Value.agg.injEq]; exact Array.toList_inj.1 e'⟩

end Go.Proofs.YthnmomiglgomfaaGreatDoor
