/- The document's 'Low' and 'By'; the law's 'Same': all answers of both indices agree; walked. -/
import Derived.Test.YtakgjihhgpnnfaaDoorMade
import Derived.Test.YtakgjihhgpnnfaaDoorEq
import Derived.Test.YtakgjihhgpnnfaaDoorUnA
set_option linter.unusedVariables false
set_option linter.unusedSimpArgs false
namespace Go.Proofs.YtakgjihhgpnnfaaDoor
open Go.RowKit Go.Deep
attribute [local go_sem high] run_eql_en run_neq_en

theorem Ix.Ok.by_spec {x : Ix} (h : x.Ok) (r : Int) (v : Nat) (hv : v < x.n) (e : (x.rk v : Int) = r) : x.byr r = v := by
  have h1 := h.rk v hv
  have : r.toNat = x.rk v := by omega
  unfold Ix.byr
  rw [if_pos ⟨by omega, by omega⟩, this, h1.2]
theorem Ix.Ok.by_none {x : Ix} (h : x.Ok) (r : Int) (hn : ∀ v, v < x.n → (x.rk v : Int) ≠ r) : x.byr r = -1 := by
  unfold Ix.byr
  rw [if_neg]
  rintro ⟨h1, h2⟩
  have := h.by_ r.toNat (by omega)
  exact hn _ this.1 (by omega)

end Go.Proofs.YtakgjihhgpnnfaaDoor

/- The law's 'Same': all answers of both indices agree; walked. -/
set_option linter.unusedVariables false
set_option linter.unusedSimpArgs false
namespace Go.Proofs.YtakgjihhgpnnfaaDoor
open Go.RowKit Go.Deep
theorem eq3_self (a b c : Int) : eq3 a b c a b c = true := by simp [eq3]
attribute [local go_sem high] run_eql_en run_neq_en eq3_self

set_option maxRecDepth 100000 in
set_option maxHeartbeats 400000 in
theorem vertices_calls {w : World} {L : IxLoc} {x : Ix} (h : IxMem w L x) :
    Calls Tryd.prog 35 #[.pointer (some ⟨L.b, 0, none⟩)] w fun e w' => e = .returned (.int .i64 (x.n : Nat)) ∧ Fr No w w' := by
  have c0 := h.c0
  go_enter Tryd.func35, Tryd.ntmps35
  go_wp2
  go_ret
  exact ⟨rfl, Fr.refl _ _⟩

end Go.Proofs.YtakgjihhgpnnfaaDoor
