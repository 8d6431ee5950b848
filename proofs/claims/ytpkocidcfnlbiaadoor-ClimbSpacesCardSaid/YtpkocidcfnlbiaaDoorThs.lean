/- How far it is by way of those that may be in between; walked (under way). -/
import Derived.Test.YtpkocidcfnlbiaaDoorThz
set_option linter.unusedVariables false
set_option linter.unusedSimpArgs false
namespace Go.Proofs.YtpkocidcfnlbiaaDoor
open Go.RowKit Go.Shelf Go.Deep

attribute [local go_sem] Oper.semAt_some

def ThrR (w : World) (G : Gr) (may : Nat → Bool) (u : Nat) (e : Ending) (w' : World) : Prop :=
  ∃ (Bf : Nat) (far : Nat → Int), e = .returned (.slice (some ⟨Bf, 0, none⟩) G.n G.n) ∧ Blk w' Bf G.n 3 (fun i => .int .i64 (far i)) ∧ Fr No w w' ∧ w.heap.size ≤ Bf ∧ SFar G.n (edges G may) ((edges G may u).map fun e => (e.1, ad 0 e.2)) far

end Go.Proofs.YtpkocidcfnlbiaaDoor
