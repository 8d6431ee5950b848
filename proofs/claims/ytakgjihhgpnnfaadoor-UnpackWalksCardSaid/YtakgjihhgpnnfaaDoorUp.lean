/- The arcs of an entry that is told, in a whole index, plain: unpacking finds them all; a shortcut's are those of its halves. -/
import Derived.Test.YtakgjihhgpnnfaaDoorWk
import Derived.Test.YtakgjihhgpnnfaaDoorUnE
set_option linter.unusedVariables false
set_option linter.unusedSimpArgs false
namespace Go.Proofs.YtakgjihhgpnnfaaDoor
open Go.RowKit Go.Deep

theorem Ix.Fit.bld {G : Gr} {n : Nat} : ∀ (l : List (PrEl n)) (x : Ix), x.Fit → (x.bld G l).Fit := by
  intro l
  induction l with
  | nil => intro x h; exact h
  | cons p l ih => intro x h; exact ih _ (h.setI _ _ _)
theorem Ix.Fit.build {x : Ix} (h : x.Fit) (G : Gr) : (x.build G).Fit := Ix.Fit.bld _ _ h

theorem Whole.pth_fuel {G : Gr} {x : Ix} (h : Whole G x) (hok : x.Ok) : ∀ (f g u v : Nat), u < x.n → v < x.n → u ≠ v → min (x.rk u) (x.rk v) < f → min (x.rk u) (x.rk v) < g → x.pth f u v = x.pth g u v := by
  intro f
  induction f with
  | zero => intro g u v _ _ _ h; omega
  | succ f ih =>
    intro g u v hu hv hne hf hg
    obtain ⟨g, rfl⟩ : ∃ k, g = k + 1 := ⟨g - 1, by omega⟩
    simp only [Ix.pth]
    rcases h.cases hu hv hne with ⟨e1, _, _⟩ | ⟨e1, e2, _⟩ | ⟨j, hc, _⟩
    · rw [e1, if_pos (by show (-1 : Int) < 0; omega), if_pos (by show (-1 : Int) < 0; omega)]
    · rw [e1, if_pos (by show (-1 : Int) < 0; omega), if_pos (by show (-1 : Int) < 0; omega)]
    · have hj := hc.lo
      have hb := hok.by_ j (by have := (hok.rk u hu).1; omega)
      have hm0 : ¬ (x.ent u v).m < 0 := by rw [hc.m]; omega
      rw [if_neg hm0, if_neg hm0, hc.m]
      simp only [Int.toNat_natCast]
      have hum : u ≠ x.by_ j := fun e => by have := hb.2; rw [← e] at this; omega
      have hmv : x.by_ j ≠ v := fun e => by have := hb.2; rw [e] at this; omega
      rw [ih g u (x.by_ j) hu hb.1 hum (by omega) (by omega), ih g (x.by_ j) v hb.1 hv hmv (by omega) (by omega)]

theorem Whole.add_pth {G : Gr} {x : Ix} (h : Whole G x) (hok : x.Ok) : ∀ (f u v : Nat) (l : List Int), u < x.n → v < x.n → u ≠ v → min (x.rk u) (x.rk v) < f → (x.ent u v).w ≤ 4611686018427387904 → l.length + (x.pth f u v).length ≤ 23 →
    x.add f (u : Nat) (v : Nat) l = (l ++ (x.pth f u v).map (fun k : Nat => (k : Int)), 0) := by
  intro f
  induction f with
  | zero => intro u v l _ _ _ h; omega
  | succ f ih =>
    intro u v l hu hv hne hf hle hlen
    have hat : x.at_ (u : Nat) (v : Nat) = x.ent u v := at_nat (two_nat hu hv hne)
    have hnn : x.ent u v ≠ En.none := fun e => by rw [e] at hle; simp [En.none] at hle
    rw [Ix.pth] at hlen ⊢
    rw [Ix.add, hat, if_neg hnn]
    rcases h.cases hu hv hne with ⟨e1, _, _⟩ | ⟨e1, e2, _⟩ | ⟨j, hc, _⟩
    · exact absurd e1 hnn
    · have hm : (x.ent u v).m < 0 := by rw [e1]; show (-1 : Int) < 0; omega
      rw [if_pos hm] at hlen ⊢
      rw [if_pos hm, if_neg (by simp at hlen; omega)]
      have ha : (((x.ent u v).a.toNat : Nat) : Int) = (x.ent u v).a := by rw [e1]; exact Int.toNat_of_nonneg e2
      rw [List.map_singleton, ha]
    · have hj := hc.lo
      have hb := hok.by_ j (by have := (hok.rk u hu).1; omega)
      have hm0 : ¬ (x.ent u v).m < 0 := by rw [hc.m]; omega
      rw [if_neg hm0] at hlen ⊢
      rw [if_neg hm0]
      rw [hc.m] at hlen ⊢
      simp only [Int.toNat_natCast] at hlen ⊢
      obtain ⟨m, hm⟩ : ∃ m, x.by_ j = m := ⟨_, rfl⟩
      rw [hm] at hb hlen ⊢
      have hum : u ≠ m := fun e => by subst e; omega
      have hmv : m ≠ v := fun e => by subst e; omega
      have hs := hok.sum2_by hu hv hb.1 hum hmv
      rw [hb.2, ← hc.w, add1_two (hok.ent_b u m) (hok.ent_b m v)] at hs
      have hsum : (x.ent u v).w = (x.ent u m).w + (x.ent m v).w ∧ (x.ent u m).w + (x.ent m v).w ≤ 4611686018427387904 := by
        split at hs
        · omega
        · split at hs <;> omega
      have b1 := hok.ent_b u m
      have b2 := hok.ent_b m v
      rw [List.length_append] at hlen
      have i1 := ih u m l hu hb.1 hum (by omega) (by omega) (by omega)
      rw [i1]
      have i2 := ih m v (l ++ (x.pth f u m).map (fun k : Nat => (k : Int))) hb.1 hv hmv (by omega) (by omega) (by rw [List.length_append, List.length_map]; omega)
      rw [if_neg (by simp), i2, List.map_append, List.append_assoc]

/-- Unpacking finds the arcs of an entry that is told. -/
theorem Whole.arcs_pth {G : Gr} {x : Ix} (h : Whole G x) (hok : x.Ok) (ho : G.Ok) (hw : G.Wt) (hn : G.n = x.n) {u v : Nat} (hu : u < x.n) (hv : v < x.n) (hne : u ≠ v) (hle : (x.ent u v).w ≤ 4611686018427387904) :
    x.arcs (u : Nat) (v : Nat) = ((x.pth 25 u v).map (fun k : Nat => (k : Int)), 0) ∧ (x.pth 25 u v).length < x.n ∧ 0 < (x.pth 25 u v).length := by
  have hn2 := hok.n2
  have hru := (hok.rk u hu).1
  have hp := h.path hok ho hw hn hu hv hne hle (f := 25) (by omega)
  obtain ⟨_, _, p3, _⟩ := h.pth hok ho hw hn 25 u v hu hv hne (by omega) hle
  refine ⟨?_, hp.2, List.length_pos_iff.2 p3⟩
  unfold Ix.arcs
  rw [if_pos (two_nat hu hv hne), h.add_pth hok 25 u v [] hu hv hne (by omega) hle (by simp; omega), List.nil_append]

/-- A shortcut's arcs are those of its halves. -/
theorem Whole.halves {G : Gr} {x : Ix} (h : Whole G x) (hok : x.Ok) (ho : G.Ok) (hw : G.Wt) (hn : G.n = x.n) {u v j : Nat} (hc : x.Cut u v j) (hle : (x.ent u v).w ≤ 4611686018427387904) :
    ∃ P : List Int, x.arcs (u : Nat) (v : Nat) = (P, 0) ∧ x.wayTo (fun i => [(u : Int), ((x.by_ j : Nat) : Int), (v : Int)].getD i 0) 2 = (P, 0) ∧ 2 ≤ P.length ∧ P.length < x.n := by
  have hn2 := hok.n2
  have hj := hc.lo
  have hu := hc.hu
  have hv := hc.hv
  have hru := (hok.rk u hu).1
  have hrv := (hok.rk v hv).1
  have hb := hok.by_ j (by omega)
  have hm0 : ¬ (x.ent u v).m < 0 := by rw [hc.m]; omega
  obtain ⟨m, hm⟩ : ∃ m, x.by_ j = m := ⟨_, rfl⟩
  have hmm : (x.ent u v).m = (m : Nat) := by rw [hc.m, hm]
  rw [hm] at hb ⊢
  have hum : u ≠ m := fun e => by subst e; omega
  have hmv : m ≠ v := fun e => by subst e; omega
  have hs := hok.sum2_by hu hv hb.1 hum hmv
  rw [hb.2, ← hc.w, add1_two (hok.ent_b u m) (hok.ent_b m v)] at hs
  have hsum : (x.ent u v).w = (x.ent u m).w + (x.ent m v).w ∧ (x.ent u m).w + (x.ent m v).w ≤ 4611686018427387904 := by
    split at hs
    · omega
    · split at hs <;> omega
  have b1 := hok.ent_b u m
  have b2 := hok.ent_b m v
  obtain ⟨a1, a2, a3⟩ := h.arcs_pth hok ho hw hn hu hv hc.ne hle
  obtain ⟨c1, c2, c3⟩ := h.arcs_pth hok ho hw hn hu hb.1 hum (by omega)
  obtain ⟨d1, d2, d3⟩ := h.arcs_pth hok ho hw hn hb.1 hv hmv (by omega)
  have hp : x.pth 25 u v = x.pth 25 u m ++ x.pth 25 m v := by
    have e1 : x.pth 25 u v = x.pth 24 u m ++ x.pth 24 m v := by
      show (if (x.ent u v).m < 0 then _ else _) = _
      rw [if_neg hm0, hmm]; rfl
    rw [e1, h.pth_fuel hok 24 25 u m hu hb.1 hum (by omega) (by omega), h.pth_fuel hok 24 25 m v hb.1 hv hmv (by omega) (by omega)]
  refine ⟨(x.pth 25 u v).map (fun k : Nat => (k : Int)), a1, ?_, by rw [List.length_map, hp, List.length_append]; omega, by rw [List.length_map]; exact a2⟩
  have w0 : x.wayTo (fun i => [(u : Int), (m : Int), (v : Int)].getD i 0) 1 = ((x.pth 25 u m).map (fun k : Nat => (k : Int)), 0) := by
    have e0 : x.wayTo (fun i => [(u : Int), (m : Int), (v : Int)].getD i 0) 0 = ([], 0) := rfl
    rw [Ix.wayTo, e0, if_neg (by simp)]
    show (if (x.arcs (u : Int) (m : Int)).2 ≠ 0 then ([], (x.arcs (u : Int) (m : Int)).2) else ([] ++ (x.arcs (u : Int) (m : Int)).1, 0)) = _
    rw [c1, if_neg (by simp), List.nil_append]
  rw [Ix.wayTo, w0, if_neg (by simp)]
  show (if (x.arcs (m : Int) (v : Int)).2 ≠ 0 then ([], (x.arcs (m : Int) (v : Int)).2) else ((x.pth 25 u m).map (fun k : Nat => (k : Int)) ++ (x.arcs (m : Int) (v : Int)).1, 0)) = _
  rw [d1, if_neg (by simp), hp, List.map_append]

end Go.Proofs.YtakgjihhgpnnfaaDoor
