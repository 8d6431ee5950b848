/- A region that draws its order, whose callees keep what lay there (they may make memory): one walk serves every order. -/
import Derived.Test.YtpkocidcfnlbiaaDoorSum
import Derived.BigQuiet
set_option linter.unusedVariables false
set_option linter.unusedSimpArgs false
namespace Go.Proofs.YtpkocidcfnlbiaaDoor
open Go.RowKit Go.Deep

/-- The worlds that keep what lay in a world. -/
structure Fam (w : World) where
  v : World
  h : Fr No w v
instance (w : World) : Nonempty (Fam w) := ⟨⟨w, Fr.refl No w⟩⟩
theorem Fam.cell {w : World} {p : Addr} {v : Value} (h : w.cell? p = some v) (n : Fam w) : n.v.cell? p = some v := n.h.cell_some h (fun h => h)

theorem wp_region_fam {P : Program} {id : Nat} {Q : Exit → Act → World → Prop} {a : Act} {w : World} {l : List Oper} (hm : P.follows .mixedOrders = true) (hB : Region.lexB .any l.toArray = true)
    (h : wpQuiet P l.toArray (fun w' => ∃ n : Fam w, w' = n.v) (fun a' => ∀ w', (∃ n : Fam w, w' = n.v) → Q .normal a' w') l a) : (Code.region id l.toArray true).wp P Q a w :=
  wp_region_quiet (C := fun w' => ∃ n : Fam w, w' = n.v) hm hB ⟨⟨w.drew, (Fr.refl No w).drew⟩, rfl⟩ (by simpa using h)

theorem Calls.fam {P : Program} {f : FuncId} {args : Array Value} {w : World} {n : Fam w} {v : Value} (h : Calls P f args n.v fun e w' => e = .returned v ∧ Fr No n.v w') : Calls P f args n.v fun e w' => e = .returned v ∧ ∃ m : Fam w, w' = m.v :=
  h.mono fun _ w' ⟨he, hf⟩ => ⟨he, ⟨w', n.h.trans hf⟩, rfl⟩

theorem rnone_agg (w : World) : Calls Tryd.prog 43 #[] w fun e w' => e = .returned (.agg #[.int .i64 4611686018427387906, .int .i64 (-1), .int .i64 (-1)]) ∧ Fr No w w' := rnone_calls w

end Go.Proofs.YtpkocidcfnlbiaaDoor
