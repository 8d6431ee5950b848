/- A region that draws its order, whose callees keep what lay there; and the law of sums and leasts of any list; walked. -/
import Derived.Test.YthflnhnhdgegdaaDoorDa
import Derived.BigQuiet
set_option linter.unusedVariables false
set_option linter.unusedSimpArgs false
namespace Go.Proofs.YthflnhnhdgegdaaDoor
open Go.RowKit

/-- The worlds that keep what lay in a world. -/
structure Fam (w : World) where
  v : World
  h : Fr No w v
instance (w : World) : Nonempty (Fam w) := ⟨⟨w, Fr.refl No w⟩⟩
theorem Fam.cell {w : World} {p : Addr} {v : Value} (h : w.cell? p = some v) (n : Fam w) : n.v.cell? p = some v := n.h.cell_some h (fun h => h)

theorem wp_region_fam {P : Program} {id : Nat} {Q : Exit → Act → World → Prop} {a : Act} {w : World} {l : List Oper} (hm : P.follows .mixedOrders = true) (hB : Region.lexB .any l.toArray = true)
    (h : wpQuiet P l.toArray (fun w' => ∃ n : Fam w, w' = n.v) (fun a' => ∀ w', (∃ n : Fam w, w' = n.v) → Q .normal a' w') l a) : (Code.region id l.toArray true).wp P Q a w :=
  wp_region_quiet (C := fun w' => ∃ n : Fam w, w' = n.v) hm hB ⟨⟨w.drew, (Fr.refl No w).drew⟩, rfl⟩ (by simpa using h)

theorem Calls.fam {P : Program} {f : FuncId} {args : Array Value} {w : World} {n : Fam w} {v : Value} (h : Calls P f args n.v fun e w' => e = .returned v ∧ Fr No n.v w') : Calls P f args n.v fun e w' => e = .returned v ∧ ∃ m : Fam w, w' = m.v :=
  h.mono fun _ w' ⟨he, hf⟩ => ⟨he, ⟨w', n.h.trans hf⟩, rfl⟩

set_option maxRecDepth 100000 in
set_option maxHeartbeats 4000000 in
theorem adds_law (A : Option Addr) (n c : Nat) (f : Nat → Int) (w : World) (h : IntsF w A n f) (hn : n ≤ 140737488351232) :
    Calls Tryd.prog 5 #[.slice A n c] w fun e w' => e = .returned (.bool true) ∧ Fr No w w' := by
  have H := hid h
  clear h
  go_enter Tryd.func5, Tryd.ntmps5
  go_wp2_with fail
  refine (awake01_calls w).mono ?_
  rintro e w0 ⟨rfl, hf⟩
  have H0 := hid (IntsF.fr H.out hf)
  have G0 := hid hf
  clear hf
  by_cases hbig : 200 < n
  · go_wp2
    go_ret
    exact ⟨rfl, G0.out⟩
  · go_wp2
    go_loopg [3] n (fun g p wr => ∃ i : Nat, p = .int .i64 i ∧ i ≤ n ∧ g = n - i ∧ Fr No w0 wr)
    case atStart => exact ⟨0, rfl, Nat.zero_le _, rfl, Fr.refl _ _⟩
    case round =>
      obtain ⟨i, rfl, hi, hg, hf⟩ := hrel
      have HG := hid hg
      have HF := hid hf
      clear hg hf
      by_cases hlt : i < n
      · obtain ⟨b, off, rfl, hc⟩ := H0.out (by omega)
        have q0 := HF.out.cell_some (hc i hlt) (fun h => h)
        have hlt2 : (i : Int) < n := by omega
        obtain ⟨x, hx⟩ : ∃ x, f i = x := ⟨_, rfl⟩
        rw [hx] at q0
        have HC := hid hc
        have HX := hid hx
        obtain ⟨y, hy⟩ : ∃ y, normI x = y := ⟨_, rfl⟩
        have hn1 : ∀ n : Fam wr, Calls Tryd.prog 15 #[.int .i64 x] n.v fun e w' => e = .returned (.int .i64 y) ∧ Fr No n.v w' := fun n => by rw [← hy]; exact norm_calls x n.v
        have hn2 : ∀ n : Fam wr, Calls Tryd.prog 16 #[.int .i64 x] n.v fun e w' => e = .returned (.int .i64 y) ∧ Fr No n.v w' := fun n => by rw [← hy]; exact rnorm_calls x n.v
        have hn3 : ∀ n : Fam wr, Calls Tryd.prog 17 #[.int .i64 x] n.v fun e w' => e = .returned (.bool (decide (y ≤ 4611686018427387904))) ∧ Fr No n.v w' := fun n => by rw [← hy]; exact told_calls x n.v
        have kk0 : ∀ n : Fam wr, n.v.cell? ⟨b, off + i, none⟩ = some (.int .i64 x) := Fam.cell q0
        clear hc hx hy
        go_wp2_with fail
        refine wp_region_fam (by kernel_rfl) (by kernel_rfl) ?_
        repeat (go_big_quiet_step (first | exact Calls.fam (hn1 _) | exact Calls.fam (hn2 _) | exact Calls.fam (hn3 _)))
        refine wpQuiet_nil ?_
        rintro w1 ⟨⟨w1, hf1⟩, rfl⟩
        have HF1 := hid (HF.out.trans hf1)
        clear hf1 kk0 hn1 hn2 hn3
        go_wp2
        go_roundg (n - (i + 1))
        case measure => have := HG.out; omega
        case rel => exact ⟨i + 1, by go_num, hlt, rfl, HF1.out⟩
      · have e : i = n := by omega
        subst e
        go_wp2_with fail
        refine (add_calls (IntsF.fr H0.out HF.out) hn).mono ?_
        rintro e w1 ⟨rfl, hf⟩
        have G1 := hid (HF.out.trans hf)
        clear hf
        go_wp2_with fail
        refine (radd_calls (IntsF.fr H0.out G1.out) hn).mono ?_
        rintro e w2 ⟨rfl, hf⟩
        have G2 := hid (G1.out.trans hf)
        clear hf
        go_wp2_with fail
        refine (min_calls (IntsF.fr H0.out G2.out) hn).mono ?_
        rintro e w3 ⟨rfl, hf⟩
        have G3 := hid (G2.out.trans hf)
        clear hf
        go_wp2_with fail
        refine (rmin_calls (IntsF.fr H0.out G3.out) hn).mono ?_
        rintro e w4 ⟨rfl, hf⟩
        have G4 := hid (G3.out.trans hf)
        clear hf
        go_wp2
        go_ret
        exact ⟨rfl, G0.out.trans G4.out⟩

end Go.Proofs.YthflnhnhdgegdaaDoor
