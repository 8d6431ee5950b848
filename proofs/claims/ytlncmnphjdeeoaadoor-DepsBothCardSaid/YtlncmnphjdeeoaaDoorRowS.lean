/- An argument that is a star, opened. -/
import Derived.Test.YtlncmnphjdeeoaaDoorRowE
import Derived.Test.YtlncmnphjdeeoaaDoorDp
import Derived.OpenShut
set_option linter.unusedVariables false
set_option linter.unusedSimpArgs false
set_option linter.all false
set_option maxRecDepth 100000
namespace Go.Proofs.YtlncmnphjdeeoaaDoor
open Go.ChangeShapes Go.WideShapes Go.ChangeAt Go.RowKit Go.Deep

def AllInts (cs : List Value) (n : Nat) : Prop := cs.length = n ∧ ∀ i, i < n → ∃ z : Int, cs[i]? = some (.int .i64 z) ∧ -9223372036854775808 ≤ z ∧ z ≤ 9223372036854775807
theorem wf_bounds {z : Int} (h : (Lit.int .i64 z).wf = true) : -9223372036854775808 ≤ z ∧ z ≤ 9223372036854775807 := by
  have e1 : IntKind.i64.min = -9223372036854775808 := by decide
  have e2 : IntKind.i64.max = 9223372036854775807 := by decide
  simp [Lit.wf, e1, e2] at h
  omega
section
variable {H : Type} {enc : TypeId × Value → H} {W : World} {base : Nat} {sp : Nat → Bool} {held : Bool}
theorem entry_ints {fuel : Nat} {cs : List Value} {x : DataW H × List MemPlace} (h : DataW.trod enc Tryd.prog W base sp held fuel 41 cs = some x) : AllInts cs 3 := by
  obtain ⟨xs, n, _, hx, hc, hlen, hg⟩ := DataW.trod_struct Tryd.underlying41 h
  have c3 : Tryd.prog.cellsOf 3 = 1 := by kernel_rfl
  have hcs : cs.length = 3 := hc.trans (by kernel_rfl)
  have h0 : DataW.trod enc Tryd.prog W base sp held n 3 ((cs.drop 0).take (Tryd.prog.cellsOf 3)) = xs[0]? := hg 0 _ rfl
  have h1 : DataW.trod enc Tryd.prog W base sp held n 3 ((cs.drop 1).take (Tryd.prog.cellsOf 3)) = xs[1]? := hg 1 _ rfl
  have h2 : DataW.trod enc Tryd.prog W base sp held n 3 ((cs.drop 2).take (Tryd.prog.cellsOf 3)) = xs[2]? := hg 2 _ rfl
  rw [c3] at h0 h1 h2
  match cs, hcs, xs, hlen, h0, h1, h2 with
  | [v0, v1, v2], _, [x0, x1, x2], _, h0, h1, h2 =>
    obtain ⟨a, e0, f0, g0⟩ := DataW.trod_int Tryd.underlying3 (show DataW.trod _ Tryd.prog W base sp held n 3 _ = some x0 from h0)
    obtain ⟨b, e1, f1, g1⟩ := DataW.trod_int Tryd.underlying3 (show DataW.trod _ Tryd.prog W base sp held n 3 _ = some x1 from h1)
    obtain ⟨c, e2, f2, g2⟩ := DataW.trod_int Tryd.underlying3 (show DataW.trod _ Tryd.prog W base sp held n 3 _ = some x2 from h2)
    simp at e0 e1 e2
    subst e0; subst e1; subst e2
    refine ⟨rfl, fun i hi => ?_⟩
    match i, hi with
    | 0, _ => exact ⟨a, rfl, wf_bounds g0⟩
    | 1, _ => exact ⟨b, rfl, wf_bounds g1⟩
    | 2, _ => exact ⟨c, rfl, wf_bounds g2⟩
theorem entries_ints {fuel : Nat} {cs : List Value} {x : DataW H × List MemPlace} (h : DataW.trod enc Tryd.prog W base sp held fuel 42 cs = some x) : AllInts cs 72 := by
  obtain ⟨xs, m, _, hx, hc, hlen, hg⟩ := DataW.trod_array Tryd.underlying42 h
  have c3 : Tryd.prog.cellsOf 41 = 3 := by kernel_rfl
  refine ⟨hc.trans (by kernel_rfl), fun i hi => ?_⟩
  have hq := hg (i / 3) (by omega)
  have hl : i / 3 < xs.length := by omega
  rw [c3, List.getElem?_eq_getElem hl] at hq
  obtain ⟨z, hz, hb⟩ := (entry_ints hq).2 (i % 3) (Nat.mod_lt _ (by omega))
  refine ⟨z, ?_, hb⟩
  rw [List.getElem?_take_of_lt (Nat.mod_lt _ (by omega)), List.getElem?_drop] at hz
  rw [← hz]
  congr 1
  omega
theorem star_ints {fuel : Nat} {cs : List Value} {x : DataW H × List MemPlace} (h : DataW.trod enc Tryd.prog W base sp held fuel 73 cs = some x) : AllInts cs 144 := by
  obtain ⟨xs, n, _, hx, hc, hlen, hg⟩ := DataW.trod_struct Tryd.underlying73 h
  have c3 : Tryd.prog.cellsOf 42 = 72 := by kernel_rfl
  have h0 : DataW.trod enc Tryd.prog W base sp held n 42 ((cs.drop 0).take (Tryd.prog.cellsOf 42)) = xs[0]? := hg 0 _ rfl
  have h1 : DataW.trod enc Tryd.prog W base sp held n 42 ((cs.drop 72).take (Tryd.prog.cellsOf 42)) = xs[1]? := hg 1 _ rfl
  have hl : xs.length = 2 := hlen
  rw [c3] at h0 h1
  rw [List.getElem?_eq_getElem (show 0 < xs.length by omega)] at h0
  rw [List.getElem?_eq_getElem (show 1 < xs.length by omega)] at h1
  refine ⟨hc.trans (by kernel_rfl), fun i hi => ?_⟩
  rcases Nat.lt_or_ge i 72 with hlt | hge
  · obtain ⟨z, hz, hb⟩ := (entries_ints h0).2 i hlt
    rw [List.getElem?_take_of_lt hlt, List.getElem?_drop, Nat.zero_add] at hz
    exact ⟨z, hz, hb⟩
  · obtain ⟨z, hz, hb⟩ := (entries_ints h1).2 (i - 72) (by omega)
    rw [List.getElem?_take_of_lt (by omega), List.getElem?_drop, show 72 + (i - 72) = i by omega] at hz
    exact ⟨z, hz, hb⟩

theorem open_starV {v : Value} {d : DataW H} {p : List MemPlace} {r : Reach} {b0 : Nat} (hv : Value.okWide Tryd.prog W r b0 73 v) (h : DataW.Trod enc Tryd.prog W base sp held 73 v d p) :
    ∃ f : Nat → Int, v = starV f ∧ Wf f := by
  obtain ⟨cs, rfl, hs⟩ := okWide_struct Tryd.underlying73 hv
  obtain ⟨fuel, hf⟩ := h
  obtain ⟨hlen, hall⟩ := star_ints (show DataW.trod enc Tryd.prog W base sp held fuel 73 cs.toList = _ from hf)
  refine ⟨fun i => match cs.toList[i]? with | some (.int .i64 z) => z | _ => 0, ?_, fun i => ?_⟩
  · unfold starV
    rw [Value.agg.injEq]
    refine Array.toList_inj.1 (List.ext_getElem? fun i => ?_)
    rcases Nat.lt_or_ge i 144 with hi | hi
    · obtain ⟨z, hz, _⟩ := hall i hi
      simp only [cellsR, List.getElem?_map, List.getElem?_range hi, Option.map_some, hz]
    · rw [List.getElem?_eq_none (by omega), List.getElem?_eq_none (by simpa [cellsR] using hi)]
  · rcases Nat.lt_or_ge i 144 with hi | hi
    · obtain ⟨z, hz, hb⟩ := hall i hi
      simp only [hz]
      exact hb
    · have e := List.getElem?_eq_none (show cs.toList.length ≤ i by omega)
      simp only [e]
      constructor <;> decide
end
def starD {H : Type} : DataW H := .agg [.agg (List.replicate 24 (.agg [.lit (.int .i64 0), .lit (.int .i64 0), .lit (.int .i64 0)])), .agg (List.replicate 24 (.agg [.lit (.int .i64 0), .lit (.int .i64 0), .lit (.int .i64 0)]))]
end Go.Proofs.YtlncmnphjdeeoaaDoor
