/- A row's argument of changes, opened. -/

import Derived.Test.YtoepbhacpidcbaaGreatDoorQBase
import Derived.Test.YtoepbhacpidcbaaGreatDoorQIdx
import Derived.Test.YtoepbhacpidcbaaGreatDoorQPerm
import Derived.Test.YtoepbhacpidcbaaGreatDoorQIdxB
import Derived.Test.YtoepbhacpidcbaaGreatDoorQRef
import Derived.Test.YtoepbhacpidcbaaGreatDoorQUnref
import Derived.Test.YtoepbhacpidcbaaGreatDoorQItr
import Derived.Test.YtoepbhacpidcbaaGreatDoorQUnE
import Derived.Test.YtoepbhacpidcbaaGreatDoorQDst
import Derived.Test.YtoepbhacpidcbaaGreatDoorQLnk
import Derived.Test.YtoepbhacpidcbaaGreatDoorQLks
import Derived.Test.YtoepbhacpidcbaaGreatDoorQBig
import Derived.Test.YtoepbhacpidcbaaGreatDoorQCp2
import Derived.Test.YtoepbhacpidcbaaGreatDoorQGOps
import Derived.Test.YtoepbhacpidcbaaGreatDoorQRow

set_option linter.unusedVariables false
set_option linter.unusedSimpArgs false
set_option linter.all false
set_option maxRecDepth 100000
namespace Go.Proofs.YtoepbhacpidcbaaGreatDoor
open Go.ChangeShapes Go.WideShapes Go.ChangeAt Go.RowKit Go.Deep

section
variable {H : Type} {enc : TypeId × Value → H} {W : World} {base : Nat} {sp : Nat → Bool} {held : Bool}

/-- An arc's four cells. -/
theorem open_arc {fuel : Nat} {cs : List Value} {x : DataW H × List MemPlace} (h : DataW.trod enc Tryz.prog W base sp held fuel 49 cs = some x) :
    ∃ (t u a : Int) (b : Bool), cs = [.int .i64 t, .int .i64 u, .int .i64 a, .bool b] := by
  obtain ⟨xs, n, _, hx, hc, hlen, hg⟩ := DataW.trod_struct Tryz.underlying49 h
  have c3 : Tryz.prog.cellsOf 3 = 1 := by kernel_rfl
  have cB : Tryz.prog.cellsOf 4 = 1 := by kernel_rfl
  have hcs : cs.length = 4 := hc.trans (by kernel_rfl)
  have h0 : DataW.trod enc Tryz.prog W base sp held n 3 ((cs.drop 0).take (Tryz.prog.cellsOf 3)) = xs[0]? := hg 0 _ rfl
  have h1 : DataW.trod enc Tryz.prog W base sp held n 3 ((cs.drop 1).take (Tryz.prog.cellsOf 3)) = xs[1]? := hg 1 _ rfl
  have h2 : DataW.trod enc Tryz.prog W base sp held n 3 ((cs.drop 2).take (Tryz.prog.cellsOf 3)) = xs[2]? := hg 2 _ rfl
  have h3 : DataW.trod enc Tryz.prog W base sp held n 4 ((cs.drop 3).take (Tryz.prog.cellsOf 4)) = xs[3]? := hg 3 _ rfl
  rw [c3] at h0 h1 h2
  rw [cB] at h3
  match cs, hcs, xs, hlen, h0, h1, h2, h3 with
  | [v0, v1, v2, v3], _, [x0, x1, x2, x3], _, h0, h1, h2, h3 =>
    obtain ⟨a, e0, f0, _⟩ := DataW.trod_int Tryz.underlying3 (show DataW.trod _ Tryz.prog W base sp held n 3 _ = some x0 from h0)
    obtain ⟨b, e1, f1, _⟩ := DataW.trod_int Tryz.underlying3 (show DataW.trod _ Tryz.prog W base sp held n 3 _ = some x1 from h1)
    obtain ⟨c, e2, f2, _⟩ := DataW.trod_int Tryz.underlying3 (show DataW.trod _ Tryz.prog W base sp held n 3 _ = some x2 from h2)
    obtain ⟨d, e3, f3⟩ := DataW.trod_bool Tryz.underlying4 (show DataW.trod _ Tryz.prog W base sp held n 4 _ = some x3 from h3)
    simp at e0 e1 e2 e3
    subst e0; subst e1; subst e2; subst e3
    exact ⟨a, b, c, d, rfl⟩

/-- A change's six cells. -/
theorem open_chg {fuel : Nat} {cs : List Value} {x : DataW H × List MemPlace} (h : DataW.trod enc Tryz.prog W base sp held fuel 64 cs = some x) :
    ∃ (k i t u a : Int) (b : Bool), cs = [.int .i64 k, .int .i64 i, .int .i64 t, .int .i64 u, .int .i64 a, .bool b] := by
  obtain ⟨xs, n, _, hx, hc, hlen, hg⟩ := DataW.trod_struct Tryz.underlying64 h
  have c3 : Tryz.prog.cellsOf 3 = 1 := by kernel_rfl
  have cE : Tryz.prog.cellsOf 49 = 4 := by kernel_rfl
  have hcs : cs.length = 6 := hc.trans (by kernel_rfl)
  have h0 : DataW.trod enc Tryz.prog W base sp held n 3 ((cs.drop 0).take (Tryz.prog.cellsOf 3)) = xs[0]? := hg 0 _ rfl
  have h1 : DataW.trod enc Tryz.prog W base sp held n 3 ((cs.drop 1).take (Tryz.prog.cellsOf 3)) = xs[1]? := hg 1 _ rfl
  have h2 : DataW.trod enc Tryz.prog W base sp held n 49 ((cs.drop 2).take (Tryz.prog.cellsOf 49)) = xs[2]? := hg 2 _ rfl
  rw [c3] at h0 h1
  rw [cE] at h2
  match cs, hcs, xs, hlen, h0, h1, h2 with
  | [v0, v1, v2, v3, v4, v5], _, [x0, x1, x2], _, h0, h1, h2 =>
    obtain ⟨t, e0, _, _⟩ := DataW.trod_int Tryz.underlying3 (show DataW.trod _ Tryz.prog W base sp held n 3 _ = some x0 from h0)
    obtain ⟨u, e1, _, _⟩ := DataW.trod_int Tryz.underlying3 (show DataW.trod _ Tryz.prog W base sp held n 3 _ = some x1 from h1)
    obtain ⟨a, b, c, d, e2⟩ := open_arc (show DataW.trod _ Tryz.prog W base sp held n 49 _ = some x2 from h2)
    simp at e0 e1 e2
    obtain ⟨rfl, rfl, rfl, rfl⟩ := e2
    subst e0; subst e1
    exact ⟨t, u, a, b, c, d, rfl⟩

/-- An argument of changes. -/
theorem open_chgs {v : Value} {d : DataW H} {p : List MemPlace} {r : Reach} {b0 : Nat} (hv : Value.okWide Tryz.prog W r b0 24 v) (h : DataW.Trod enc Tryz.prog W base sp held 24 v d p) :
    ∃ (A : Option Addr) (ln cp : Nat) (lk : Nat → Chg), v = .slice A ln cp ∧ ChgsF W A ln lk ∧ (ln = 0 ∨ ∃ es rest, d = .slice es rest ∧ es.length = ln) := by
  obtain ⟨A, n, c, rfl⟩ := okWide_slice Tryz.underlying24 hv
  obtain ⟨fuel, hf⟩ := h
  simp [Value.cells] at hf
  have cL : Tryz.prog.cellsOf 64 = 6 := by kernel_rfl
  rcases open_slice Tryz.underlying24 hf with ⟨e, hx⟩ | ⟨a, len, cap, m, k, D, Pl, e, hb, hl, hm, hmm, hx, hi⟩
  · simp at e
    obtain ⟨rfl, rfl, rfl⟩ := e
    exact ⟨none, 0, 0, fun _ => ⟨0, 0, ⟨0, 0, 0, false⟩⟩, rfl, fun h => by omega, .inl rfl⟩
  · simp at e
    obtain ⟨rfl, rfl, rfl⟩ := e
    simp only [Prod.mk.injEq] at hx
    have hle : n ≤ m := by rw [hmm]; split <;> omega
    have spot : 0 < n → a.spot = none := by
      intro hn
      obtain ⟨cs0, hc0, ht0⟩ := hi 0 (by omega)
      rw [cL] at hc0
      obtain ⟨_, _, hat0⟩ := World.cells?_some hc0
      obtain ⟨k0, i0, t0, u0, x0, y0, rfl⟩ := open_chg ht0
      have := hat0 0 (by omega)
      simp [Addr.add] at this
      exact spot_none this
    have key : ∀ i, i < n → ∃ l : Chg, ChgAt W a.block (a.off + i * 6) l := by
      intro i hin
      obtain ⟨cs', hc, ht⟩ := hi i (by omega)
      rw [cL] at hc
      obtain ⟨_, hcl, hat⟩ := World.cells?_some hc
      obtain ⟨q, j, t, u, x, y, rfl⟩ := open_chg ht
      have hs := spot (by omega)
      have g0 := hat 0 (by omega)
      have g1 := hat 1 (by omega)
      have g2 := hat 2 (by omega)
      have g3 := hat 3 (by omega)
      have g4 := hat 4 (by omega)
      have g5 := hat 5 (by omega)
      rw [addr_add hs, addr_add rfl] at g0 g1 g2 g3 g4 g5
      exact ⟨⟨q, j, ⟨t, u, x, y⟩⟩, g0, g1, g2, g3, g4, g5⟩
    refine ⟨some a, n, c, fun i => if h : i < n then Classical.choose (key i h) else ⟨0, 0, ⟨0, 0, 0, false⟩⟩, rfl, fun hn => ⟨a.block, a.off, by rw [← addr_eq (spot hn)], fun j hj => ?_⟩, .inr ⟨_, _, hx.1, by simp⟩⟩
    show ChgAt W a.block (a.off + j * 6) (if h : j < n then Classical.choose (key j h) else ⟨0, 0, ⟨0, 0, 0, false⟩⟩)
    rw [dif_pos hj]; exact Classical.choose_spec (key j hj)
end

end Go.Proofs.YtoepbhacpidcbaaGreatDoor
