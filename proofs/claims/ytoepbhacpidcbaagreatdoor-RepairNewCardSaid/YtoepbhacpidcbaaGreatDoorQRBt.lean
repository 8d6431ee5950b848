/- How far it is by way of chosen vertices, made nearer vertex by vertex in place; and as it is corrected: the same. Plain. -/
import Derived.Deep.Cut
import Derived.Deep.RegionHeld3
import Derived.Test.YtoepbhacpidcbaaGreatDoorQBase
import Derived.Test.YtoepbhacpidcbaaGreatDoorQIdx
import Derived.Test.YtoepbhacpidcbaaGreatDoorQPerm
import Derived.Test.YtoepbhacpidcbaaGreatDoorQIdxB
import Derived.Test.YtoepbhacpidcbaaGreatDoorQRef
import Derived.Test.YtoepbhacpidcbaaGreatDoorQUnref
import Derived.Test.YtoepbhacpidcbaaGreatDoorQItr
import Derived.Test.YtoepbhacpidcbaaGreatDoorQUnE
import Derived.Test.YtoepbhacpidcbaaGreatDoorQDst
import Derived.Test.YtoepbhacpidcbaaGreatDoorQLnk
import Derived.Test.YtoepbhacpidcbaaGreatDoorQLks
import Derived.Test.YtoepbhacpidcbaaGreatDoorQMid
import Derived.Test.YtoepbhacpidcbaaGreatDoorQBig
import Derived.Test.YtoepbhacpidcbaaGreatDoorQCp2
import Derived.Test.YtoepbhacpidcbaaGreatDoorQGoes
import Derived.Test.YtoepbhacpidcbaaGreatDoorQGOps
import Derived.Test.YtoepbhacpidcbaaGreatDoorQGB
import Derived.Test.YtoepbhacpidcbaaGreatDoorQG8
import Derived.Test.YtoepbhacpidcbaaGreatDoorQWh
import Derived.Test.YtoepbhacpidcbaaGreatDoorQWk
import Derived.Test.YtoepbhacpidcbaaGreatDoorQHpK
import Derived.Test.YtoepbhacpidcbaaGreatDoorQSqO

set_option linter.unusedVariables false
set_option linter.unusedSimpArgs false
namespace Go.Proofs.YtoepbhacpidcbaaGreatDoor
open Go.RowKit Go.Deep

def tw (a b : Int) : Int := if a = 4611686018427387906 ∨ b = 4611686018427387906 then 4611686018427387906 else if 4611686018427387904 < a + b then 4611686018427387905 else a + b
abbrev Bd (a : Int) : Prop := 0 ≤ a ∧ a ≤ 4611686018427387906
theorem add1_0 {d : Int} (hd : Bd d) : add1 0 d = d := by rw [add1_zero, norm_id hd]
theorem ad_tw {d w : Int} (hd : Bd d) (hw : Bd w) : ad d w = tw d w := by
  unfold ad tw
  rw [add1_0 hd]
  unfold add1
  rw [norm_id hw]
  have := hd.1
  have := hd.2
  have := hw.1
  have := hw.2
  (repeat' split) <;> omega
theorem tw_b {a b : Int} (ha : Bd a) (hb : Bd b) : Bd (tw a b) := by
  have := ha.1; have := ha.2; have := hb.1; have := hb.2
  unfold tw Bd
  (repeat' split) <;> omega
theorem tw_comm (a b : Int) : tw a b = tw b a := by
  unfold tw
  (repeat' split) <;> omega
theorem tw_assoc {a b c : Int} (ha : Bd a) (hb : Bd b) (hc : Bd c) : tw (tw a b) c = tw a (tw b c) := by
  have := ha.1; have := ha.2; have := hb.1; have := hb.2; have := hc.1; have := hc.2
  unfold tw
  (repeat' split) <;> omega
theorem tw_mono {a b c d : Int} (ha : 0 ≤ a) (hc : 0 ≤ c) (h1 : a ≤ b) (h2 : c ≤ d) (hb : b ≤ 4611686018427387906) (hd : d ≤ 4611686018427387906) : tw a c ≤ tw b d := by
  unfold tw
  (repeat' split) <;> omega
theorem tw_le {a b : Int} (ha : Bd a) (hb : Bd b) : a ≤ tw a b := by
  have := ha.1; have := ha.2; have := hb.1; have := hb.2
  unfold tw
  (repeat' split) <;> omega
theorem tw_zero' {a : Int} (ha : Bd a) : tw a 0 = a := by
  have := ha.1; have := ha.2
  unfold tw
  (repeat' split) <;> omega

/-- The least of those that are chosen, or None. -/
def mn (p : Nat → Bool) (f : Nat → Int) : Nat → Int
  | 0 => 4611686018427387906
  | k + 1 => if p k = true ∧ f k < mn p f k then f k else mn p f k
abbrev Mat := Nat → Nat → Int
def upd2 (D : Mat) (a b : Nat) (z : Int) : Mat := fun i j => if i = a ∧ j = b then z else D i j
def fw1 (L : Nat → Bool) (m a b : Nat) (D : Mat) : Mat := if (L m = true ∧ L a = true ∧ L b = true) ∧ tw (D a m) (D m b) < D a b then upd2 D a b (tw (D a m) (D m b)) else D
def fwB (L : Nat → Bool) (m a : Nat) (D : Mat) : Nat → Mat
  | 0 => D
  | b + 1 => fw1 L m a b (fwB L m a D b)
def fwA (L : Nat → Bool) (n m : Nat) (D : Mat) : Nat → Mat
  | 0 => D
  | a + 1 => fwB L m a (fwA L n m D a) n
def fwM (L : Nat → Bool) (n : Nat) (D : Mat) : Nat → Mat
  | 0 => D
  | m + 1 => fwA L n m (fwM L n D m) n
def par (L : Nat → Bool) (m : Nat) (D : Mat) : Mat := fun i j => if (L m = true ∧ L i = true ∧ L j = true) ∧ tw (D i m) (D m j) < D i j then tw (D i m) (D m j) else D i j
def MB (n : Nat) (D : Mat) : Prop := ∀ i j, i < n → j < n → Bd (D i j)
theorem par_col {L : Nat → Bool} {n m : Nat} {D : Mat} (hD : MB n D) (hm : m < n) {i : Nat} (hi : i < n) : par L m D i m = D i m := by
  unfold par
  rw [if_neg (fun h => by have := tw_le (hD i m hi hm) (hD m m hm hm); omega)]
theorem par_row {L : Nat → Bool} {n m : Nat} {D : Mat} (hD : MB n D) (hm : m < n) {j : Nat} (hj : j < n) : par L m D m j = D m j := by
  unfold par
  rw [if_neg (fun h => by have := tw_le (hD m j hm hj) (hD m m hm hm); rw [tw_comm] at this; omega)]
theorem fwB_eq {L : Nat → Bool} {n m a : Nat} {D : Mat} (hD : MB n D) (hm : m < n) (ha : a < n) : ∀ k, k ≤ n → ∀ i j, i < n → j < n → fwB L m a D k i j = if i = a ∧ j < k then par L m D i j else D i j
  | 0, _, i, j, _, _ => by rw [if_neg (by omega)]; rfl
  | k + 1, hk, i, j, hi, hj => by
    have ih := fwB_eq (L := L) hD hm ha k (by omega)
    have e1 : fwB L m a D k a m = D a m := by
      rw [ih a m ha hm]; split
      · exact par_col hD hm ha
      · rfl
    have e2 : fwB L m a D k m k = D m k := by rw [ih m k hm (by omega), if_neg (by omega)]
    have e3 : fwB L m a D k a k = D a k := by rw [ih a k ha (by omega), if_neg (by omega)]
    show fw1 L m a k (fwB L m a D k) i j = _
    unfold fw1
    rw [e1, e2, e3]
    by_cases hc : (L m = true ∧ L a = true ∧ L k = true) ∧ tw (D a m) (D m k) < D a k
    · rw [if_pos hc]
      unfold upd2
      by_cases e : i = a ∧ j = k
      · obtain ⟨rfl, rfl⟩ := e
        rw [if_pos ⟨rfl, rfl⟩, if_pos ⟨rfl, Nat.lt_succ_self _⟩]
        unfold par; rw [if_pos hc]
      · rw [if_neg e, ih i j hi hj]
        by_cases e' : i = a ∧ j < k
        · rw [if_pos e', if_pos (by omega)]
        · rw [if_neg e', if_neg (by omega)]
    · rw [if_neg hc, ih i j hi hj]
      by_cases e : i = a ∧ j = k
      · obtain ⟨rfl, rfl⟩ := e
        rw [if_neg (by omega), if_pos ⟨rfl, Nat.lt_succ_self _⟩]
        unfold par; rw [if_neg hc]
      · by_cases e' : i = a ∧ j < k
        · rw [if_pos e', if_pos (by omega)]
        · rw [if_neg e', if_neg (by omega)]
theorem par_b {L : Nat → Bool} {n m : Nat} {D : Mat} (hD : MB n D) (hm : m < n) : MB n (par L m D) := fun i j hi hj => by
  unfold par
  split
  · exact tw_b (hD i m hi hm) (hD m j hm hj)
  · exact hD i j hi hj
theorem fwA_eq {L : Nat → Bool} {n m : Nat} {D : Mat} (hD : MB n D) (hm : m < n) : ∀ k, k ≤ n → ∀ i j, i < n → j < n → fwA L n m D k i j = if i < k then par L m D i j else D i j
  | 0, _, i, j, _, _ => by rw [if_neg (by omega)]; rfl
  | k + 1, hk, i, j, hi, hj => by
    have ih := fwA_eq (L := L) hD hm k (by omega)
    have hB : MB n (fwA L n m D k) := fun x y hx hy => by
      rw [ih x y hx hy]; split
      · exact par_b hD hm x y hx hy
      · exact hD x y hx hy
    have e := fwB_eq (L := L) hB hm (show k < n by omega) n (Nat.le_refl n) i j hi hj
    show fwB L m k (fwA L n m D k) n i j = _
    rw [e]
    by_cases hik : i = k
    · subst hik
      rw [if_pos ⟨rfl, hj⟩, if_pos (Nat.lt_succ_self _)]
      have q1 : fwA L n m D i i m = D i m := by rw [ih i m hi hm, if_neg (Nat.lt_irrefl _)]
      have q2 : fwA L n m D i i j = D i j := by rw [ih i j hi hj, if_neg (Nat.lt_irrefl _)]
      have q3 : fwA L n m D i m j = D m j := by
        rw [ih m j hm hj]; split
        · exact par_row hD hm hj
        · rfl
      unfold par
      rw [q1, q2, q3]
    · rw [if_neg (by omega), ih i j hi hj]
      by_cases h2 : i < k
      · rw [if_pos h2, if_pos (by omega)]
      · rw [if_neg h2, if_neg (by omega)]

/-- What holds behind k rounds. -/
structure FwI (L : Nat → Bool) (n : Nat) (D0 D : Mat) (k : Nat) : Prop where
  b : MB n D
  le : ∀ i j, i < n → j < n → D i j ≤ D0 i j
  tri : ∀ m, m < k → m < n → L m = true → ∀ i j, i < n → j < n → L i = true → L j = true → D i j ≤ tw (D i m) (D m j)
  sound : ∀ X : Nat → Int, (∀ i, i < n → L i = true → Bd (X i)) → (∀ i j, i < n → j < n → L i = true → L j = true → X j ≤ tw (X i) (D0 i j)) → ∀ i j, i < n → j < n → L i = true → L j = true → X j ≤ tw (X i) (D i j)
theorem FwI.step {L : Nat → Bool} {n : Nat} {D0 D D' : Mat} {k : Nat} (h : FwI L n D0 D k) (hk : k < n) (he : ∀ i j, i < n → j < n → D' i j = par L k D i j) : FwI L n D0 D' (k + 1) := by
  have pb := par_b (L := L) h.b hk
  have ple : ∀ i j, i < n → j < n → par L k D i j ≤ D i j := fun i j hi hj => by unfold par; split <;> omega
  refine ⟨fun i j hi hj => by rw [he i j hi hj]; exact pb i j hi hj, fun i j hi hj => by rw [he i j hi hj]; exact Int.le_trans (ple i j hi hj) (h.le i j hi hj), fun m hm hmn hLm i j hi hj hLi hLj => ?_, fun X hX hXs i j hi hj hLi hLj => ?_⟩
  · rw [he i j hi hj, he i m hi hmn, he m j hmn hj]
    by_cases hLk : L k = true
    · have up : par L k D i j ≤ tw (D i k) (D k j) := by
        unfold par
        by_cases hc : tw (D i k) (D k j) < D i j
        · rw [if_pos ⟨⟨hLk, hLi, hLj⟩, hc⟩]; exact Int.le_refl _
        · rw [if_neg (fun hh => hc hh.2)]; omega
      by_cases emk : m = k
      · subst emk
        rw [par_col h.b hk hi, par_row h.b hk hj]
        exact up
      · have hmk : m < k := by omega
        have t1 := h.tri m hmk hmn hLm
        have b := h.b
        have bik := b i k hi hk
        have bkj := b k j hk hj
        have bim := b i m hi hmn
        have bmj := b m j hmn hj
        have bkm := b k m hk hmn
        have bmk := b m k hmn hk
        have pp : ∀ x y, L x = true → L y = true → (par L k D x y = tw (D x k) (D k y)) ∨ par L k D x y = D x y := fun x y hx hy => by
          unfold par; split
          · exact .inl rfl
          · exact .inr rfl
        rcases pp i m hLi hLm with c1 | c1
        · rw [c1]
          rcases pp m j hLm hLj with c2 | c2
          · rw [c2]
            refine Int.le_trans up ?_
            have q1 := tw_le bik bkm
            have q2 : D k j ≤ tw (D m k) (D k j) := by rw [tw_comm]; exact tw_le bkj bmk
            exact tw_mono bik.1 bkj.1 q1 q2 (tw_b bik bkm).2 (tw_b bmk bkj).2
          · rw [c2]
            refine Int.le_trans up ?_
            rw [tw_assoc bik bkm bmj]
            exact tw_mono bik.1 bkj.1 (Int.le_refl _) (t1 k j hk hj hLk hLj) bik.2 (tw_b bkm bmj).2
        · rw [c1]
          rcases pp m j hLm hLj with c2 | c2
          · rw [c2]
            refine Int.le_trans up ?_
            rw [← tw_assoc bim bmk bkj]
            exact tw_mono bik.1 bkj.1 (t1 i k hi hk hLi hLk) (Int.le_refl _) (tw_b bim bmk).2 bkj.2
          · rw [c2]
            refine Int.le_trans ?_ (t1 i j hi hj hLi hLj)
            exact ple i j hi hj
    · have e : ∀ x y, par L k D x y = D x y := fun x y => by unfold par; rw [if_neg (fun hh => hLk hh.1.1)]
      have hmk : m < k := by
        rcases Nat.lt_or_ge m k with h' | h'
        · exact h'
        · have : m = k := by omega
          subst this
          exact absurd hLm hLk
      rw [e, e, e]
      exact h.tri m hmk hmn hLm i j hi hj hLi hLj
  · rw [he i j hi hj]
    unfold par
    split
    · next hc =>
      have s1 := h.sound X hX hXs i k hi hk hLi hc.1.1
      have s2 := h.sound X hX hXs k j hk hj hc.1.1 hLj
      have xk := hX k hk hc.1.1
      have xi := hX i hi hLi
      have bik := h.b i k hi hk
      have bkj := h.b k j hk hj
      refine Int.le_trans s2 ?_
      rw [← tw_assoc xi bik bkj]
      exact tw_mono xk.1 bkj.1 s1 (Int.le_refl _) (tw_b xi bik).2 bkj.2
    · exact h.sound X hX hXs i j hi hj hLi hLj
theorem FwI.first {L : Nat → Bool} {n : Nat} {D : Mat} (hD : MB n D) : FwI L n D D 0 :=
  ⟨hD, fun _ _ _ _ => Int.le_refl _, fun m hm => absurd hm (by omega), fun X _ h => h⟩
theorem fwM_inv {L : Nat → Bool} {n : Nat} {D : Mat} (hD : MB n D) : ∀ k, k ≤ n → FwI L n D (fwM L n D k) k
  | 0, _ => FwI.first hD
  | k + 1, hk => by
    have ih := fwM_inv (L := L) hD k (by omega)
    exact ih.step (by omega) (fun i j hi hj => by
      show fwA L n k (fwM L n D k) n i j = _
      rw [fwA_eq ih.b (by omega) n (Nat.le_refl n) i j hi hj, if_pos hi])

end Go.Proofs.YtoepbhacpidcbaaGreatDoor

/- The law of BuildBetween: how far it is by way of lower ones, corrected or made nearer vertex by vertex. Plain. -/
set_option linter.unusedVariables false
set_option linter.unusedSimpArgs false
namespace Go.Proofs.YtoepbhacpidcbaaGreatDoor
open Go.RowKit Go.Deep

def Gr.bst (G : Gr) : Mat := fun a b => (G.best (a : Nat) (b : Nat)).1
theorem Gr.bst_b {G : Gr} (hw : G.Wt) (a b : Nat) : Bd (G.bst a b) := by
  unfold Gr.bst Bd
  rcases G.best_wt hw (a : Nat) (b : Nat) with e | ⟨h1, h2, _⟩
  · rw [e]; show (0 : Int) ≤ 4611686018427387906 ∧ (4611686018427387906 : Int) ≤ 4611686018427387906; omega
  · omega
theorem Gr.bst_is (G : Gr) (a b : Nat) : G.bst a b = 4611686018427387906 ∨ ∃ k : Nat, k < 64 ∧ G.tk k = true ∧ (G.arc k).t = (a : Nat) ∧ (G.arc k).h = (b : Nat) ∧ (G.arc k).c = false ∧ G.bst a b = (G.arc k).w := by
  rcases G.best_is (a : Nat) (b : Nat) with e | ⟨k, h1, h2, h3, h4, h5, _, e⟩
  · left; unfold Gr.bst; rw [e]
  · right; exact ⟨k, h1, h2, h3, h4, h5, by unfold Gr.bst; rw [e]⟩
theorem none_tw {a : Int} : tw a 4611686018427387906 = 4611686018427387906 := by unfold tw; rw [if_pos (.inr rfl)]
theorem tw_none {a : Int} : tw 4611686018427387906 a = 4611686018427387906 := by unfold tw; rw [if_pos (.inl rfl)]

end Go.Proofs.YtoepbhacpidcbaaGreatDoor

/- build.Between: its closure; walked. -/
set_option linter.unusedVariables false
set_option linter.unusedSimpArgs false
namespace Go.Proofs.YtoepbhacpidcbaaGreatDoor
open Go.RowKit Go.Shelf Go.Deep

attribute [local go_sem] Oper.semAt_some

end Go.Proofs.YtoepbhacpidcbaaGreatDoor
/- The document's sum of two; walked. -/
set_option linter.unusedVariables false
set_option linter.unusedSimpArgs false
namespace Go.Proofs.YtoepbhacpidcbaaGreatDoor
open Go.RowKit

theorem add1_tw {a b : Int} (ha : Bd a) (hb : Bd b) : add1 a b = tw a b := by
  rw [← ad_tw ha hb]; unfold ad; rw [add1_0 ha]
theorem Ix.Ok.sum2_tw {x : Ix} (h : x.Ok) (u v : Int) (k : Nat) : x.sum2 u v k = Go.Proofs.YtoepbhacpidcbaaGreatDoor.tw (x.at_ u (x.by_ k : Nat)).w (x.at_ (x.by_ k : Nat) v).w := by
  have ha := h.at_b u (x.by_ k : Nat)
  have hb := h.at_b (x.by_ k : Nat) v
  have ha' : Bd (x.at_ u (x.by_ k : Nat)).w := ⟨by omega, ha.2⟩
  have hb' : Bd (x.at_ (x.by_ k : Nat) v).w := ⟨by omega, hb.2⟩
  unfold Ix.sum2
  rw [add1_0 ha', add1_tw ha' hb']

end Go.Proofs.YtoepbhacpidcbaaGreatDoor

/- The law of BuildSets: the shortcuts are the pairs between which it is shorter by way of lower ones: plain. -/
set_option linter.unusedVariables false
set_option linter.unusedSimpArgs false
namespace Go.Proofs.YtoepbhacpidcbaaGreatDoor
open Go.RowKit Go.Deep

section
variable {G : Gr} {L : Nat → Bool} {D : Mat}
end

end Go.Proofs.YtoepbhacpidcbaaGreatDoor
/- How far it is as the document says; up from one end and up from the other comes to it: plain. -/
set_option linter.unusedVariables false
set_option linter.unusedSimpArgs false
namespace Go.Proofs.YtoepbhacpidcbaaGreatDoor
open Go.RowKit Go.Deep

def sat (z : Int) : Int := if z ≤ 4611686018427387904 then z else 4611686018427387905
theorem sat_b {z : Int} (h : 0 ≤ z) : Bd (sat z) := by unfold sat Bd; split <;> omega
theorem sat_mono {a b : Int} (h : a ≤ b) : sat a ≤ sat b := by
  unfold sat; (repeat' split) <;> omega
theorem sat_tw {a b : Int} (ha : 0 ≤ a) (hb : 0 ≤ b) : tw (sat a) (sat b) = sat (a + b) := by
  unfold tw sat; (repeat' split) <;> omega
theorem sat_id {a : Int} (h : a ≤ 4611686018427387904) : sat a = a := if_pos h
theorem tw_self0 {a : Int} (ha : Bd a) : tw 0 a = a := by rw [tw_comm, tw_zero' ha]
/-- How far it is from vertex to vertex, ahead of any vertex in between. -/
def Gr.d0 (G : Gr) : Mat := fun a b => if a = b then 0 else G.bst a b
def Gr.far (G : Gr) : Mat := fwM (fun _ => true) G.n G.d0 G.n
theorem Gr.d0_b {G : Gr} (hw : G.Wt) : MB G.n G.d0 := fun a b _ _ => by
  unfold Gr.d0; split
  · unfold Bd; omega
  · exact G.bst_b hw a b
theorem Gr.far_inv {G : Gr} (hw : G.Wt) : FwI (fun _ => true) G.n G.d0 G.far G.n := fwM_inv (G.d0_b hw) G.n (Nat.le_refl _)
theorem Gr.far_b {G : Gr} (hw : G.Wt) : MB G.n G.far := (Gr.far_inv hw).b
/-- A walk that is as short as can be. -/
def Gr.Sh (G : Gr) (s : Nat) (l : List Nat) (t : Nat) : Prop := Wk G s l t ∧ ∀ l', Wk G s l' t → G.len l ≤ G.len l'
theorem Wk.len0 {G : Gr} (hw : G.Wt) {l : List Nat} {s t : Nat} (h : Wk G s l t) : 0 ≤ G.len l := by have := Wk.pos hw h; omega
theorem Gr.Sh.min {G : Gr} (hw : G.Wt) {s t : Nat} : ∀ (N : Nat) (l : List Nat), (G.len l).toNat ≤ N → Wk G s l t → ∃ l', G.Sh s l' t := by
  intro N
  induction N with
  | zero =>
    intro l hN h
    refine ⟨l, h, fun l' h' => ?_⟩
    have := h.len0 hw; have := h'.len0 hw; omega
  | succ N ih =>
    intro l hN h
    by_cases hc : ∃ l', Wk G s l' t ∧ G.len l' < G.len l
    · obtain ⟨l', h', hlt⟩ := hc
      have := h'.len0 hw
      exact ih l' (by omega) h'
    · refine ⟨l, h, fun l' h' => ?_⟩
      rcases Int.lt_or_le (G.len l') (G.len l) with hh | hh
      · exact absurd ⟨l', h', hh⟩ hc
      · exact hh
theorem Gr.Sh.cut {G : Gr} {s m t : Nat} {a b : List Nat} (h : G.Sh s (a ++ b) t) (ha : Wk G s a m) (hb : Wk G m b t) : G.Sh s a m ∧ G.Sh m b t := by
  refine ⟨⟨ha, fun l' h' => ?_⟩, ⟨hb, fun l' h' => ?_⟩⟩
  · have := h.2 (l' ++ b) (h'.app hb)
    rw [Gr.len_app, Gr.len_app] at this; omega
  · have := h.2 (a ++ l') (ha.app h')
    rw [Gr.len_app, Gr.len_app] at this; omega
open Classical in
/-- How long a walk is that is as short as can be. -/
noncomputable def Gr.rl (G : Gr) (s t : Nat) : Int := if h : ∃ l, G.Sh s l t then sat (G.len (Classical.choose h)) else 4611686018427387906
theorem Gr.rl_sh {G : Gr} {s t : Nat} {l : List Nat} (h : G.Sh s l t) : G.rl s t = sat (G.len l) := by
  have he : ∃ l, G.Sh s l t := ⟨l, h⟩
  unfold Gr.rl
  rw [dif_pos he]
  have h1 := (Classical.choose_spec he).2 l h.1
  have h2 := h.2 _ (Classical.choose_spec he).1
  rw [show G.len (Classical.choose he) = G.len l by omega]
theorem Gr.rl_no {G : Gr} {s t : Nat} (h : ¬ ∃ l, G.Sh s l t) : G.rl s t = 4611686018427387906 := dif_neg h
theorem Gr.rl_b {G : Gr} (hw : G.Wt) (s t : Nat) : Bd (G.rl s t) := by
  by_cases h : ∃ l, G.Sh s l t
  · obtain ⟨l, h⟩ := h
    rw [Gr.rl_sh h]; exact sat_b (h.1.len0 hw)
  · rw [Gr.rl_no h]; unfold Bd; omega
/-- No distance is less than a walk that is as short as can be. -/
theorem Gr.rl_far {G : Gr} (hw : G.Wt) {s t : Nat} (hs : s < G.n) (ht : t < G.n) : G.rl s t ≤ G.far s t := by
  have hc := (Gr.far_inv hw).sound (G.rl s) (fun i _ _ => Gr.rl_b hw s i) (fun i j hi hj _ _ => by
    by_cases h1 : ∃ l, G.Sh s l i
    · obtain ⟨l, h1⟩ := h1
      unfold Gr.d0
      by_cases e : i = j
      · subst e; rw [if_pos rfl, tw_zero' (Gr.rl_b hw s i)]; exact Int.le_refl _
      · rw [if_neg e]
        rcases G.bst_is i j with e1 | ⟨k, k1, k2, k3, k4, k5, e1⟩
        · rw [e1, none_tw]; exact (Gr.rl_b hw s j).2
        · have hk : Wk G i [k] j := ⟨k1, k2, k5, k3, by show (G.arc k).h.toNat = j; rw [k4]; exact Int.toNat_natCast j⟩
          have hl := h1.1.app hk
          obtain ⟨l', hl'⟩ := Gr.Sh.min hw _ _ (Nat.le_refl _) hl
          have hle := hl'.2 _ hl
          have hwk := hw k k1 k2
          rw [e1, Gr.rl_sh h1, Gr.rl_sh hl', ← sat_id hwk.2, sat_tw (h1.1.len0 hw) (by omega)]
          refine sat_mono (Int.le_trans hle ?_)
          rw [Gr.len_app, Gr.len_cons, Gr.len_nil]; omega
    · rw [Gr.rl_no h1, tw_none]; exact (Gr.rl_b hw s j).2) s t hs ht rfl rfl
  have h0 : G.rl s s = 0 := by
    have : G.Sh s [] s := ⟨rfl, fun l' h' => h'.len0 hw⟩
    rw [Gr.rl_sh this]; rfl
  rw [h0, tw_self0 (Gr.far_b hw s t hs ht)] at hc
  exact hc
theorem Gr.Sh.far {G : Gr} (hw : G.Wt) {s t : Nat} {l : List Nat} (hs : s < G.n) (ht : t < G.n) (h : G.Sh s l t) : sat (G.len l) ≤ G.far s t := by
  rw [← Gr.rl_sh h]; exact Gr.rl_far hw hs ht

/-- A walk by way of lower vertices bounds an entry, however long it is. -/
theorem Whole.least' {G : Gr} {x : Ix} (h : Whole G x) (hok : x.Ok) (ho : G.Ok) (hw : G.Wt) (hn : G.n = x.n) : ∀ (N : Nat) (l : List Nat) (u v : Nat), l.length ≤ N → u < x.n → v < x.n → u ≠ v → Wk G u l v →
    (∀ z ∈ G.mds l, z = u ∨ z = v ∨ x.rk z < min (x.rk u) (x.rk v)) → (x.ent u v).w ≤ sat (G.len l) := by
  intro N
  induction N with
  | zero =>
    intro l u v hl _ _ hne hk
    have : l = [] := List.length_eq_zero_iff.1 (by omega)
    subst this
    exact absurd hk hne
  | succ N ih =>
    intro l u v hl hu hv hne hk hz
    by_cases h0 : G.mds l = []
    · match l, hk with
      | [], hk => exact absurd hk hne
      | [k], hk =>
        have hkk := (hw k hk.1 hk.2.1).2
        have hlen : G.len [k] ≤ 4611686018427387904 := by rw [Gr.len_cons, Gr.len_nil]; omega
        have := h.least hok ho hw hn 1 [k] u v (Nat.le_refl _) hu hv hne hk (fun z hz' => by rw [h0] at hz'; cases hz') hlen
        rw [sat_id hlen]; exact this
      | k :: k' :: l', hk => simp [Gr.mds] at h0
    · obtain ⟨m, hm, htop⟩ := top_of x.rk (G.mds l) h0
      by_cases hmu : u ∈ G.mds l
      · obtain ⟨a, b, e, ha, hb, h1, h2, h3, h4⟩ := hk.at hmu
        have hla : 0 < a.length := List.length_pos_iff.2 ha
        have hlb : a.length + b.length = l.length := by rw [e, List.length_append]
        have hpa := Wk.pos hw h1
        have hla2 : G.len l = G.len a + G.len b := by rw [e, Gr.len_app]
        have := ih b u v (by omega) hu hv hne h2 (fun z hz' => hz z (h4 z hz'))
        exact Int.le_trans this (sat_mono (by omega))
      · by_cases hmv : v ∈ G.mds l
        · obtain ⟨a, b, e, ha, hb, h1, h2, h3, h4⟩ := hk.at hmv
          have hlb0 : 0 < b.length := List.length_pos_iff.2 hb
          have hlb : a.length + b.length = l.length := by rw [e, List.length_append]
          have hpb := Wk.pos hw h2
          have hla2 : G.len l = G.len a + G.len b := by rw [e, Gr.len_app]
          have := ih a u v (by omega) hu hv hne h1 (fun z hz' => hz z (h3 z hz'))
          exact Int.le_trans this (sat_mono (by omega))
        · have hlow : ∀ z ∈ G.mds l, x.rk z < min (x.rk u) (x.rk v) := fun z hz' => by
            rcases hz z hz' with rfl | rfl | h'
            · exact absurd hz' hmu
            · exact absurd hz' hmv
            · exact h'
          have hmlow := hlow m hm
          obtain ⟨a, b, e, ha, hb, h1, h2, h3, h4⟩ := hk.at hm
          have hin : ∀ z, z ∈ G.mds l → z < x.n := fun z hz' => by
            rw [← hn]
            refine Wk.hds ho hk z ?_
            unfold Gr.mds at hz'
            obtain ⟨k, hk', rfl⟩ := List.mem_map.1 hz'
            exact List.mem_map.2 ⟨k, List.dropLast_subset l hk', rfl⟩
          have hmn := hin m hm
          have hum : u ≠ m := fun e => by subst e; omega
          have hmv' : m ≠ v := fun e => by subst e; omega
          have hla0 : 0 < a.length := List.length_pos_iff.2 ha
          have hlb0 : 0 < b.length := List.length_pos_iff.2 hb
          have hlb : a.length + b.length = l.length := by rw [e, List.length_append]
          have hpa := h1.len0 hw
          have hpb := h2.len0 hw
          have hla2 : G.len l = G.len a + G.len b := by rw [e, Gr.len_app]
          have hlt : ∀ z, z ∈ G.mds l → z = m ∨ x.rk z < x.rk m := fun z hz' => by
            by_cases e : z = m
            · exact .inl e
            · right
              have h5 := htop z hz'
              have h6 : x.rk z ≠ x.rk m := fun e2 => e (hok.inj (hin z hz') hmn e2)
              omega
          have i1 := ih a u m (by omega) hu hmn hum h1 (fun z hz' => by
            rcases hlt z (h3 z hz') with h5 | h5
            · exact .inr (.inl h5)
            · exact .inr (.inr (by omega)))
          have i2 := ih b m v (by omega) hmn hv hmv' h2 (fun z hz' => by
            rcases hlt z (h4 z hz') with h5 | h5
            · exact .inl h5
            · exact .inr (.inr (by omega)))
          have hs := hok.sum2_tw (u : Nat) (v : Nat) (x.rk m)
          rw [(hok.rk m hmn).2, at_nat (two_nat hu hmn hum), at_nat (two_nat hmn hv hmv')] at hs
          have hle : (x.ent u v).w ≤ x.sum2 (u : Nat) (v : Nat) (x.rk m) := by
            rcases h.cases hu hv hne with ⟨e1, _, e2⟩ | ⟨e1, _, e2⟩ | ⟨j, hc, _⟩
            · have := e2 _ hmlow
              rw [e1]; show (4611686018427387906 : Int) ≤ _; omega
            · rw [e1]; exact e2 _ hmlow
            · rw [hc.w]; exact hc.le _ hmlow
          rw [hs] at hle
          have b1 := hok.ent_b u m
          have b2 := hok.ent_b m v
          rw [hla2, ← sat_tw hpa hpb]
          exact Int.le_trans hle (tw_mono (by omega) (by omega) i1 i2 (sat_b hpa).2 (sat_b hpb).2)

/-- What is told of ways up from s: K bounds it from below; where it is K, it goes on. -/
structure Clm (x : Ix) (ew : Mat) (s : Nat) (K U : Nat → Int) : Prop where
  b : ∀ v, v < x.n → Bd (U v)
  s0 : U s = 0
  low : ∀ v, v < x.n → K v ≤ U v
  tri : ∀ z v, z < x.n → v < x.n → x.rk z < x.rk v → U z ≤ K z → U v ≤ tw (U z) (ew z v)
def Ix.ew (x : Ix) (back : Bool) : Mat := fun z v => if back then (x.ent v z).w else (x.ent z v).w

/-- In a walk that is as short as can be no vertex comes again at the end. -/
theorem Gr.Sh.end_new {G : Gr} (hw : G.Wt) {s h : Nat} {l : List Nat} (hs : G.Sh s l h) : ¬ h ∈ G.mds l := fun hm => by
  obtain ⟨a, b, e, ha, hb, h1, h2, _, _⟩ := hs.1.at hm
  have := hs.2 a h1
  have hp := Wk.pos hw h2
  have : 0 < b.length := List.length_pos_iff.2 hb
  rw [e, Gr.len_app] at *
  omega
theorem Gr.Sh.ends {G : Gr} (hw : G.Wt) {s : Nat} {l : List Nat} (hs : G.Sh s l s) : l = [] := by
  have h1 := hs.2 [] rfl
  have hp := Wk.pos hw hs.1
  rw [Gr.len_nil] at h1
  exact List.length_eq_zero_iff.1 (by omega)

theorem Wk.mds_lt {G : Gr} (ho : G.Ok) {l : List Nat} {u v z : Nat} (h : Wk G u l v) (hz : z ∈ G.mds l) : z < G.n := by
  refine Wk.hds ho h z ?_
  unfold Gr.mds at hz
  obtain ⟨k, hk', rfl⟩ := List.mem_map.1 hz
  exact List.mem_map.2 ⟨k, List.dropLast_subset l hk', rfl⟩

/-- Up a walk that is as short as can be, to its highest vertex. -/
theorem Clm.up {G : Gr} {x : Ix} (h : Whole G x) (hok : x.Ok) (ho : G.Ok) (hw : G.Wt) (hn : G.n = x.n) {s : Nat} {U : Nat → Int} (hU : Clm x (x.ew false) s (fun v => G.far s v) U) : ∀ (N : Nat) (l : List Nat) (t : Nat), l.length ≤ N → s < x.n → t < x.n →
    G.Sh s l t → x.rk s ≤ x.rk t → (∀ z ∈ G.mds l, x.rk z ≤ x.rk t) → U t ≤ sat (G.len l) := by
  intro N
  induction N with
  | zero =>
    intro l t hl _ _ hS _ _
    have : l = [] := List.length_eq_zero_iff.1 (by omega)
    subst this
    obtain rfl : s = t := hS.1
    rw [hU.s0]; rw [Gr.len_nil]; decide
  | succ N ih =>
    intro l t hl hs ht hS hst hall
    by_cases est : s = t
    · subst est
      have := hS.ends hw
      subst this
      rw [hU.s0]; rw [Gr.len_nil]; decide
    · obtain ⟨m, hm, htop⟩ := top_of x.rk (s :: G.mds l) (by simp)
      have hmn : m < x.n := by
        rcases List.mem_cons.1 hm with rfl | hm
        · exact hs
        · rw [← hn]; exact hS.1.mds_lt ho hm
      have hmt : m ≠ t := fun e => by
        subst e
        rcases List.mem_cons.1 hm with e | hm
        · exact est e.symm
        · exact hS.end_new hw hm
      have hrm : x.rk m < x.rk t := by
        have h1 : x.rk m ≤ x.rk t := by
          rcases List.mem_cons.1 hm with rfl | hm
          · exact hst
          · exact hall m hm
        have h2 : x.rk m ≠ x.rk t := fun e => hmt (hok.inj hmn ht e)
        omega
      have key : ∃ a b, l = a ++ b ∧ a.length < l.length ∧ Wk G s a m ∧ Wk G m b t ∧ (∀ y ∈ G.mds a, y ∈ G.mds l) ∧ (∀ y ∈ G.mds b, y ∈ G.mds l) := by
        by_cases ems : m = s
        · subst ems
          have hl0 : l ≠ [] := fun e => by subst e; exact est hS.1
          exact ⟨[], l, rfl, List.length_pos_iff.2 hl0, rfl, hS.1, fun y hy => (by cases hy), fun y hy => hy⟩
        · rcases List.mem_cons.1 hm with e | hm
          · exact absurd e ems
          · obtain ⟨a, b, e, ha, hb, h1, h2, h3, h4⟩ := hS.1.at hm
            have hb0 : 0 < b.length := List.length_pos_iff.2 hb
            exact ⟨a, b, e, by rw [e, List.length_append]; omega, h1, h2, h3, h4⟩
      obtain ⟨a, b, e, hal, h1, h2, h3, h4⟩ := key
      rw [e] at hS
      obtain ⟨sa, sb⟩ := hS.cut h1 h2
      have i1 := ih a m (by omega) hs hmn sa (htop s (by simp)) (fun z hz => htop z (List.mem_cons_of_mem _ (h3 z hz)))
      have hfar : sat (G.len a) ≤ G.far s m := sa.far hw (by omega) (by omega)
      have i2 := h.least' hok ho hw hn b.length b m t (Nat.le_refl _) hmn ht hmt h2 (fun z hz => by
        have hzl := h4 z hz
        have h5 := htop z (List.mem_cons_of_mem _ hzl)
        by_cases ez : z = m
        · exact .inl ez
        · have hzn : z < x.n := by rw [← hn]; exact h2.mds_lt ho hz
          have h6 : x.rk z ≠ x.rk m := fun e2 => ez (hok.inj hzn hmn e2)
          exact .inr (.inr (by omega)))
      have ht1 := hU.tri m t hmn ht hrm (Int.le_trans i1 hfar)
      have pa := h1.len0 hw
      have pb := h2.len0 hw
      have eb := hok.ent_b m t
      rw [e, Gr.len_app, ← sat_tw pa pb]
      refine Int.le_trans ht1 ?_
      show tw (U m) (x.ent m t).w ≤ _
      exact tw_mono (hU.b m hmn).1 (by omega) i1 i2 (sat_b pa).2 (sat_b pb).2
/-- The least sums of ways up (or, back, down to it), as they are defined. -/
structure UpS (x : Ix) (ew : Mat) (s : Nat) (U : Nat → Int) : Prop where
  b : ∀ v, v < x.n → Bd (U v)
  s0 : U s = 0
  tri : ∀ z v, z < x.n → v < x.n → x.rk z < x.rk v → U v ≤ tw (U z) (ew z v)
  low : ∀ K : Nat → Int, (∀ v, v < x.n → Bd (K v)) → K s = 0 → (∀ z v, z < x.n → v < x.n → x.rk z < x.rk v → K v ≤ tw (K z) (ew z v)) → ∀ v, v < x.n → K v ≤ U v
theorem UpS.uniq {x : Ix} {ew : Mat} {s : Nat} {U W : Nat → Int} (hU : UpS x ew s U) (hW : UpS x ew s W) {v : Nat} (hv : v < x.n) : U v = W v := by
  have h1 := hU.low W hW.b hW.s0 hW.tri v hv
  have h2 := hW.low U hU.b hU.s0 hU.tri v hv
  omega
/-- While the document makes ways: those from lower ranks are made, and of rank r the first ones. -/
structure WI (x : Ix) (ew : Mat) (s r : Nat) (pre : List Int) (U : Nat → Int) : Prop where
  b : ∀ v, v < x.n → Bd (U v)
  s0 : U s = 0
  low : ∀ K : Nat → Int, (∀ v, v < x.n → Bd (K v)) → K s = 0 → (∀ z v, z < x.n → v < x.n → x.rk z < x.rk v → K v ≤ tw (K z) (ew z v)) → ∀ v, v < x.n → K v ≤ U v
  tri : ∀ z v, z < x.n → v < x.n → x.rk z < x.rk v → x.rk z < r → U v ≤ tw (U z) (ew z v)
  cur : ∀ w, w < x.n → (w : Int) ∈ pre → U w ≤ tw (U (x.by_ r)) (ew (x.by_ r) w)
theorem Ix.Ok.ew_b {x : Ix} (h : x.Ok) (back : Bool) (i j : Nat) : Bd (x.ew back i j) := by
  have h1 := h.ent_b i j
  have h2 := h.ent_b j i
  unfold Ix.ew Bd
  cases back <;> simp <;> omega
theorem WI.first {x : Ix} {ew : Mat} {s : Nat} (hok : x.Ok) (hs : s < x.n) : WI x ew s (x.rk s) [] (fun v => if v = s then 0 else 4611686018427387906) := by
  refine ⟨fun v _ => ?_, if_pos rfl, fun K hK h0 _ v hv => ?_, fun z v hz hv _ hlt => ?_, fun w _ h => by cases h⟩
  · show Bd (if v = s then 0 else 4611686018427387906)
    unfold Bd; split <;> omega
  · show K v ≤ if v = s then 0 else 4611686018427387906
    split
    · next e => subst e; omega
    · exact (hK v hv).2
  · have hzs : z ≠ s := fun e => by subst e; omega
    show (if v = s then 0 else 4611686018427387906 : Int) ≤ tw (if z = s then 0 else 4611686018427387906) (ew z v)
    rw [if_neg hzs, tw_none]
    split <;> omega
theorem WI.step {x : Ix} {ew : Mat} {s r : Nat} {pre : List Int} {U : Nat → Int} (h : WI x ew s r pre U) (hok : x.Ok) (hsr : x.rk s ≤ r) (hr : r < x.n) (he : ∀ i j, Bd (ew i j)) {w : Nat} (hw : w < x.n) (hrw : r < x.rk w) :
    WI x ew s r (pre ++ [(w : Int)]) (if tw (U (x.by_ r)) (ew (x.by_ r) w) < U w then updI U w (tw (U (x.by_ r)) (ew (x.by_ r) w)) else U) := by
  have hb := hok.by_ r hr
  have hbw : x.by_ r ≠ w := fun e => by rw [e] at hb; omega
  have hsw : s ≠ w := fun e => by subst e; omega
  by_cases hc : tw (U (x.by_ r)) (ew (x.by_ r) w) < U w
  · rw [if_pos hc]
    have hle : ∀ v, updI U w (tw (U (x.by_ r)) (ew (x.by_ r) w)) v ≤ U v := fun v => by
      unfold updI; split
      · next e => rw [e]; omega
      · exact Int.le_refl _
    refine ⟨fun v hv => ?_, ?_, fun K hK h0 hcl v hv => ?_, fun z v hz hv hlt hzr => ?_, fun v hv hm => ?_⟩
    · unfold updI; split
      · exact tw_b (h.b _ hb.1) (he _ _)
      · exact h.b v hv
    · rw [updI_ne _ _ hsw]; exact h.s0
    · unfold updI; split
      · next e =>
        subst e
        exact Int.le_trans (hcl _ _ hb.1 hv (by rw [hb.2]; exact hrw)) (tw_mono (hK _ hb.1).1 (he _ _).1 (h.low K hK h0 hcl _ hb.1) (Int.le_refl _) (h.b _ hb.1).2 (he _ _).2)
      · exact h.low K hK h0 hcl v hv
    · have hzw : z ≠ w := fun e => by subst e; omega
      rw [updI_ne U _ hzw]
      exact Int.le_trans (hle v) (h.tri z v hz hv hlt hzr)
    · rw [updI_ne U _ hbw]
      rcases List.mem_append.1 hm with hm | hm
      · exact Int.le_trans (hle v) (h.cur v hv hm)
      · have : v = w := by have := List.mem_singleton.1 hm; omega
        subst this
        rw [updI_eq]; exact Int.le_refl _
  · rw [if_neg hc]
    refine ⟨h.b, h.s0, h.low, h.tri, fun v hv hm => ?_⟩
    rcases List.mem_append.1 hm with hm | hm
    · exact h.cur v hv hm
    · have : v = w := by have := List.mem_singleton.1 hm; omega
      subst this
      omega
theorem WI.last {x : Ix} {ew : Mat} {s : Nat} {U : Nat → Int} (hok : x.Ok) (h : WI x ew s x.n [] U) : UpS x ew s U :=
  ⟨h.b, h.s0, fun z v hz hv hlt => h.tri z v hz hv hlt (hok.rk z hz).1, h.low⟩
theorem Ix.upsTo_mem (x : Ix) (v : Int) (back : Bool) (z : Int) : ∀ k, z ∈ x.upsTo v back k ↔ ∃ r : Nat, r < k ∧ x.rank v < r ∧ x.dirE v back (x.by_ r : Nat) ≠ En.none ∧ z = (x.by_ r : Nat)
  | 0 => by simp [Ix.upsTo]
  | k + 1 => by
    have ih := x.upsTo_mem v back z k
    unfold Ix.upsTo
    by_cases hc : x.rank v < k ∧ x.dirE v back (x.by_ k : Nat) ≠ En.none
    · rw [if_pos hc, List.mem_append, ih, List.mem_singleton]
      constructor
      · rintro (⟨r, h1, h2⟩ | h)
        · exact ⟨r, by omega, h2⟩
        · exact ⟨k, by omega, hc.1, hc.2, h⟩
      · rintro ⟨r, h1, h2, h3, h4⟩
        by_cases e : r = k
        · subst e; exact .inr h4
        · exact .inl ⟨r, by omega, h2, h3, h4⟩
    · rw [if_neg hc, ih]
      constructor
      · rintro ⟨r, h1, h2⟩; exact ⟨r, by omega, h2⟩
      · rintro ⟨r, h1, h2, h3, h4⟩
        by_cases e : r = k
        · subst e; exact absurd ⟨h2, h3⟩ hc
        · exact ⟨r, by omega, h2, h3, h4⟩
theorem Ix.Ok.dir_ew {x : Ix} (hok : x.Ok) (back : Bool) {v w : Nat} (hv : v < x.n) (hw : w < x.n) (hne : v ≠ w) : (x.dirE (v : Nat) back (w : Nat)).w = x.ew back v w := by
  unfold Ix.dirE Ix.ew
  cases back
  · simp [at_nat (two_nat hv hw hne)]
  · simp [at_nat (two_nat hw hv (fun e => hne e.symm))]
theorem Ix.Ok.ups_mem {x : Ix} (hok : x.Ok) (back : Bool) {v : Nat} (hv : v < x.n) (z : Int) : z ∈ x.ups (v : Nat) back ↔ ∃ w : Nat, z = w ∧ w < x.n ∧ x.rk v < x.rk w ∧ x.dirE (v : Nat) back (w : Nat) ≠ En.none := by
  have hra : x.rank (v : Nat) = x.rk v := by unfold Ix.rank; rw [if_pos ⟨by omega, by omega⟩]; simp
  unfold Ix.ups Ix.vertex
  rw [if_pos (by simp; omega), x.upsTo_mem, hra]
  constructor
  · rintro ⟨r, h1, h2, h3, h4⟩
    have hb := hok.by_ r h1
    exact ⟨x.by_ r, h4, hb.1, by omega, h3⟩
  · rintro ⟨w, h1, h2, h3, h4⟩
    have hr := hok.rk w h2
    exact ⟨x.rk w, hr.1, by omega, by rw [hr.2]; exact h4, by rw [hr.2]; exact h1⟩
/-- Whoever is higher is in the row, or its entry is none. -/
theorem Ix.Ok.ups_or {x : Ix} (hok : x.Ok) (back : Bool) {v : Nat} (hv : v < x.n) : ∀ w, w < x.n → x.rk v < x.rk w → (w : Int) ∈ x.ups (v : Nat) back ∨ x.ew back v w = 4611686018427387906 := fun w hw hlt => by
  by_cases h : x.dirE (v : Nat) back (w : Nat) = En.none
  · right
    rw [← hok.dir_ew back hv hw (fun e => by subst e; omega), h]; rfl
  · left
    exact (hok.ups_mem back hv _).2 ⟨w, rfl, hw, hlt, h⟩

end Go.Proofs.YtoepbhacpidcbaaGreatDoor

/- How far it is along a row's entries, corrected vertex by vertex in whatever order, where a vertex may be stopped at: plain. -/
set_option linter.unusedVariables false
set_option linter.unusedSimpArgs false
namespace Go.Proofs.YtoepbhacpidcbaaGreatDoor
open Go.RowKit Go.Deep

structure SInvX (n : Nat) (E : Edges) (I : List (Nat × Int)) (T : Nat → Int → Prop) (x : Option Nat) (s : SpS) : Prop where
  sb : SB n E I s
  out : ∀ v, v < n → s.S v = false → some v ≠ x → (∀ e ∈ E v, s.far e.1 ≤ ad (s.far v) e.2) ∨ T v (s.far v)
  ini : ∀ e ∈ I, s.far e.1 ≤ e.2
structure SFarT (n : Nat) (E : Edges) (I : List (Nat × Int)) (T : Nat → Int → Prop) (far : Nat → Int) : Prop where
  rng : ∀ v, v < n → 0 ≤ far v ∧ far v ≤ 4611686018427387906
  ini : ∀ e ∈ I, far e.1 ≤ e.2
  out : ∀ v, v < n → (∀ e ∈ E v, far e.1 ≤ ad (far v) e.2) ∨ T v (far v)
  low : ∀ X, SGood n E I X → ∀ v, v < n → X v ≤ far v
theorem SInvX.last {n : Nat} {E : Edges} {I : List (Nat × Int)} {T : Nat → Int → Prop} {s : SpS} (h : SInvX n E I T none s) (h0 : ∀ v, v < n → s.S v = false) : SFarT n E I T s.far :=
  ⟨h.sb.rng, h.ini, fun v hv => h.out v hv (h0 v hv) (fun h => by cases h), h.sb.low⟩
/-- The first: all is None but s, which is 0 and in. -/
theorem SInvX.first {n : Nat} {E : Edges} {T : Nat → Int → Prop} {u : Nat} (hu : u < n) (hE : ∀ v, v < n → EOk n (E v)) (s : SpS) (hf : ∀ v, v < n → s.far v = if v = u then 0 else 4611686018427387906) (hS : ∀ v, v < n → s.S v = decide (v = u)) (hp : s.pr u = 0) :
    SInvX n E [(u, 0)] T none s := by
  refine ⟨⟨fun v hv => ?_, fun v hv h => ?_, fun X hX v hv => ?_⟩, fun v hv hSv _ => ?_, fun e he => ?_⟩
  · rw [hf v hv]; split <;> omega
  · rw [hS v hv, decide_eq_true_eq] at h
    subst h
    rw [hp, hf v hv, if_pos rfl]
  · rw [hf v hv]; split
    · next e => subst e; exact hX.2.1 (v, 0) (by simp)
    · exact hX.1 v
  · rw [hS v hv, decide_eq_false_iff_not] at hSv
    left
    intro e he
    have h1 := (hE v hv e he)
    rw [hf v hv, if_neg hSv, ad_none h1.2, hf _ h1.1]
    split <;> omega
  · rw [List.mem_singleton] at he
    subst he
    show s.far u ≤ 0
    rw [hf u hu, if_pos rfl]; exact Int.le_refl _

/-- The entries that a vertex goes on by. -/
def Ix.edE (x : Ix) (v : Nat) (back : Bool) (el : x.RowEl v back) : Nat × Int := (x.by_ el.1, (x.rowE v back el.1).w)
def Ix.ued (x : Ix) (back : Bool) : Edges := fun v => (x.rowTo v back 24).map (x.edE v back)
theorem Ix.Ok.edE_eq {x : Ix} (hok : x.Ok) {v : Nat} {back : Bool} (hv : v < x.n) (el : x.RowEl v back) : (x.edE v back el).1 < x.n ∧ x.rk v < x.rk (x.edE v back el).1 ∧ (x.edE v back el).2 = x.ew back v (x.edE v back el).1 := by
  obtain ⟨r, h1, h2, h3⟩ := el
  have hb := hok.by_ r h2
  refine ⟨hb.1, by show x.rk v < x.rk (x.by_ r); omega, ?_⟩
  show (x.rowE v back r).w = x.ew back v (x.by_ r)
  rw [hok.rowE_dir back hv h1 h2, hok.dir_ew back hv hb.1 (fun e => by rw [← e] at hb; omega)]
theorem Ix.Ok.ued_mem {x : Ix} (hok : x.Ok) {v : Nat} {back : Bool} (hv : v < x.n) {e : Nat × Int} (he : e ∈ x.ued back v) : e.1 < x.n ∧ x.rk v < x.rk e.1 ∧ e.2 = x.ew back v e.1 := by
  unfold Ix.ued at he
  obtain ⟨el, _, rfl⟩ := List.mem_map.1 he
  exact hok.edE_eq hv el
theorem Ix.Ok.ued_or {x : Ix} (hok : x.Ok) (back : Bool) {v w : Nat} (hv : v < x.n) (hw : w < x.n) (hlt : x.rk v < x.rk w) : (w, x.ew back v w) ∈ x.ued back v ∨ x.ew back v w = 4611686018427387906 := by
  rcases hok.ups_or back hv w hw hlt with h | h
  · left
    rw [← hok.row_all back hv] at h
    obtain ⟨el, h1, h2⟩ := List.mem_map.1 h
    refine List.mem_map.2 ⟨el, h1, ?_⟩
    have h3 := hok.edE_eq hv el
    have h4 : (x.edE v back el).1 = w := by have : ((x.by_ el.1 : Nat) : Int) = (w : Int) := h2; show x.by_ el.1 = w; omega
    rw [h4] at h3
    exact Prod.ext h4 h3.2.2
  · exact .inr h
theorem sgood_of {x : Ix} (hok : x.Ok) {back : Bool} {s : Nat} (hs : s < x.n) {K : Nat → Int} (hK : ∀ v, v < x.n → Bd (K v)) (h0 : K s = 0) (hcl : ∀ z v, z < x.n → v < x.n → x.rk z < x.rk v → K v ≤ tw (K z) (x.ew back z v)) :
    SGood x.n (x.ued back) [(s, 0)] (fun v => if v < x.n then K v else 0) := by
  refine ⟨fun v => ?_, fun e he => ?_, fun v hv e he d h1 h2 h3 => ?_⟩
  · show (if v < x.n then K v else 0) ≤ _
    split
    · next h => exact (hK v h).2
    · omega
  · rw [List.mem_singleton] at he
    subst he
    show (if s < x.n then K s else 0) ≤ 0
    rw [if_pos hs, h0]; exact Int.le_refl _
  · obtain ⟨e1, e2, e3⟩ := hok.ued_mem hv he
    have h1 : (if v < x.n then K v else 0) ≤ d := h1
    rw [if_pos hv] at h1
    show (if e.1 < x.n then K e.1 else 0) ≤ ad d e.2
    have be := hok.ew_b back v e.1
    rw [if_pos e1, e3, ad_tw ⟨h2, h3⟩ be]
    exact Int.le_trans (hcl v e.1 hv e1 e2) (tw_mono (hK v hv).1 be.1 h1 (Int.le_refl _) h3 be.2)
theorem SFarT.tri {x : Ix} (hok : x.Ok) {back : Bool} {I : List (Nat × Int)} {T : Nat → Int → Prop} {U : Nat → Int} (h : SFarT x.n (x.ued back) I T U) {z v : Nat} (hz : z < x.n) (hv : v < x.n) (hlt : x.rk z < x.rk v) (hn : ¬ T z (U z)) : U v ≤ tw (U z) (x.ew back z v) := by
  rcases hok.ued_or back hz hv hlt with h1 | h1
  · rcases h.out z hz with h2 | h2
    · have := h2 _ h1
      rw [ad_tw (h.rng z hz) (hok.ew_b back z v)] at this
      exact this
    · exact absurd h2 hn
  · rw [h1, none_tw]; exact (h.rng v hv).2
theorem SFarT.ups {x : Ix} (hok : x.Ok) {back : Bool} {s : Nat} (hs : s < x.n) {U : Nat → Int} (h : SFarT x.n (x.ued back) [(s, 0)] (fun _ _ => False) U) : UpS x (x.ew back) s U := by
  refine ⟨h.rng, ?_, fun z v hz hv hlt => h.tri hok hz hv hlt (fun h => h), fun K hK h0 hcl v hv => ?_⟩
  · have h1 := h.ini (s, 0) (by simp)
    have h2 := (h.rng s hs).1
    have h1 : U s ≤ 0 := h1
    omega
  · have := h.low _ (sgood_of hok hs hK h0 hcl) v hv
    simp only [if_pos hv] at this
    exact this
end Go.Proofs.YtoepbhacpidcbaaGreatDoor

/- climb.spread: how far it is along a row's entries, stopped at where it is said; walked. -/
set_option linter.unusedVariables false
set_option linter.unusedSimpArgs false
namespace Go.Proofs.YtoepbhacpidcbaaGreatDoor
open Go.RowKit Go.Shelf Go.Deep

attribute [local go_sem] Oper.semAt_some

/-- One box more. -/
theorem ThM.add {w : World} {bx : List (Nat × Value)} {Lh : HLoc} {Bf n : Nat} {s : SpS} {t : Value} {W : World} (h : ThM w bx Lh Bf n s t W) {b : Nat} {v : Value} (hb : W.cell? ⟨b, 0, none⟩ = some v) (hn : ∀ j, (Lh.at t).own j → j ≠ b) (hf : Bf ≠ b) : ThM w ((b, v) :: bx) Lh Bf n s t W :=
  ⟨fun x hx => by
    rcases List.mem_cons.1 hx with rfl | hx
    · exact hb
    · exact h.box x hx, h.bag, h.far, h.fr, fun j hj => ⟨(h.own j hj).1, (h.own j hj).2.1, fun x hx => by
      rcases List.mem_cons.1 hx with rfl | hx
      · exact hn j hj
      · exact (h.own j hj).2.2 x hx⟩, ⟨h.sep.1, fun x hx => by
      rcases List.mem_cons.1 hx with rfl | hx
      · exact hf
      · exact h.sep.2 x hx⟩⟩
theorem ThM.drop {w : World} {bx : List (Nat × Value)} {Lh : HLoc} {Bf n : Nat} {s : SpS} {t : Value} {W : World} {b : Nat × Value} (h : ThM w (b :: bx) Lh Bf n s t W) : ThM w bx Lh Bf n s t W :=
  ⟨fun x hx => h.box x (List.mem_cons_of_mem _ hx), h.bag, h.far, h.fr, fun j hj => ⟨(h.own j hj).1, (h.own j hj).2.1, fun x hx => (h.own j hj).2.2 x (List.mem_cons_of_mem _ hx)⟩, ⟨h.sep.1, fun x hx => h.sep.2 x (List.mem_cons_of_mem _ hx)⟩⟩

end Go.Proofs.YtoepbhacpidcbaaGreatDoor
/- ringroadref16.Ways and Dist: the least sums of ways up, and of ways up and then down, as the document says; walked. -/
set_option linter.unusedVariables false
set_option linter.unusedSimpArgs false
namespace Go.Proofs.YtoepbhacpidcbaaGreatDoor
open Go.RowKit Go.Deep

/-- A row of one's own: its first n places hold U. -/
def RwI (W : World) (g c n : Nat) (U : Nat → Int) : Prop := n ≤ c ∧ ∃ V : Nat → Value, Blk W g c 3 V ∧ ∀ i, i < n → V i = .int .i64 (U i)
theorem RwI.fr {W W' : World} {g c n : Nat} {U : Nat → Int} (h : RwI W g c n U) {F : Nat → Prop} (hf : Fr F W W') (hF : ¬ F g) : RwI W' g c n U := by
  obtain ⟨h0, V, h1, h2⟩ := h
  exact ⟨h0, V, h1.fr hf hF, h2⟩
theorem RwI.cell {W : World} {g c n : Nat} {U : Nat → Int} (h : RwI W g c n U) {i : Nat} (hi : i < n) : W.cell? ⟨g, i, none⟩ = some (.int .i64 (U i)) := by
  obtain ⟨h0, V, h1, h2⟩ := h
  rw [h1.cell (show i < c by omega), h2 i hi]
theorem RwI.frozen {W : World} {g c n : Nat} {U : Nat → Int} (h : RwI W g c n U) (i : Nat) : W.frozen? ⟨g, i, none⟩ = false := by
  obtain ⟨h0, V, h1, h2⟩ := h
  exact h1.frozen i
theorem RwI.lt {W : World} {g c n : Nat} {U : Nat → Int} (h : RwI W g c n U) : g < W.heap.size := by
  obtain ⟨h0, V, h1, h2⟩ := h
  exact h1.lt
theorem RwI.set {W : World} {g c n : Nat} {U : Nat → Int} (h : RwI W g c n U) (i : Nat) (z : Int) : RwI (W.setCell ⟨g, i, none⟩ (.int .i64 z)) g c n (updI U i z) := by
  obtain ⟨h0, V, h1, h2⟩ := h
  refine ⟨h0, _, h1.setCell i (.int .i64 z), fun k hk => ?_⟩
  show (if k = i then Value.int .i64 z else V k) = Value.int .i64 (if k = i then z else U k)
  split
  · rfl
  · exact h2 k hk
theorem RwI.congr {W : World} {g c n : Nat} {U U' : Nat → Int} (h : RwI W g c n U) (e : ∀ i, i < n → U i = U' i) : RwI W g c n U' := by
  obtain ⟨h0, V, h1, h2⟩ := h
  exact ⟨h0, V, h1, fun i hi => (h2 i hi).trans (by rw [e i hi])⟩
end Go.Proofs.YtoepbhacpidcbaaGreatDoor
/- ringroadref16.Between: how far it is by way of lower ones, as the document says; walked. -/
set_option linter.unusedVariables false
set_option linter.unusedSimpArgs false
namespace Go.Proofs.YtoepbhacpidcbaaGreatDoor
open Go.RowKit Go.Deep

/-- A square of 24 lies at B: its first n rows and places hold D. -/
def Sq (W : World) (B n : Nat) (D : Mat) : Prop := ∃ M : Nat → Int, Blk W B 576 103 (fun i => .int .i64 (M i)) ∧ ∀ i j, i < n → j < n → M (i * 24 + j) = D i j
theorem Sq.fr {W W' : World} {B n : Nat} {D : Mat} (h : Sq W B n D) {F : Nat → Prop} (hf : Fr F W W') (hF : ¬ F B) : Sq W' B n D := by
  obtain ⟨M, h1, h2⟩ := h
  exact ⟨M, h1.fr hf hF, h2⟩
theorem Sq.cell {W : World} {B n : Nat} {D : Mat} (h : Sq W B n D) (hn : n ≤ 24) {i j : Nat} (hi : i < n) (hj : j < n) : W.cell? ⟨B, i * 24 + j, none⟩ = some (.int .i64 (D i j)) := by
  obtain ⟨M, h1, h2⟩ := h
  rw [h1.cell (show i * 24 + j < 576 by omega), h2 i j hi hj]
theorem Sq.frozen {W : World} {B n : Nat} {D : Mat} (h : Sq W B n D) (i : Nat) : W.frozen? ⟨B, i, none⟩ = false := by
  obtain ⟨M, h1, _⟩ := h
  exact h1.frozen i
theorem Sq.lt {W : World} {B n : Nat} {D : Mat} (h : Sq W B n D) : B < W.heap.size := by
  obtain ⟨M, h1, _⟩ := h
  exact h1.lt
theorem Sq.set {W : World} {B n : Nat} {D : Mat} (h : Sq W B n D) (hn : n ≤ 24) {a b : Nat} (ha : a < n) (hb : b < n) (z : Int) : Sq (W.setCell ⟨B, a * 24 + b, none⟩ (.int .i64 z)) B n (upd2 D a b z) := by
  obtain ⟨M, h1, h2⟩ := h
  refine ⟨fun k => if k = a * 24 + b then z else M k, (h1.setCell (a * 24 + b) (.int .i64 z)).congr (fun k hk => ?_), fun i j hi hj => ?_⟩
  · show (if k = a * 24 + b then Value.int .i64 z else Value.int .i64 (M k)) = Value.int .i64 (if k = a * 24 + b then z else M k)
    split <;> rfl
  · show (if i * 24 + j = a * 24 + b then z else M (i * 24 + j)) = if i = a ∧ j = b then z else D i j
    by_cases e : i = a ∧ j = b
    · rw [if_pos e, if_pos (by omega)]
    · rw [if_neg e, if_neg (by omega)]; exact h2 i j hi hj
theorem Sq.congr {W : World} {B n : Nat} {D D' : Mat} (h : Sq W B n D) (e : ∀ i j, i < n → j < n → D i j = D' i j) : Sq W B n D' := by
  obtain ⟨M, h1, h2⟩ := h
  exact ⟨M, h1, fun i j hi hj => (h2 i j hi hj).trans (e i j hi hj)⟩
end Go.Proofs.YtoepbhacpidcbaaGreatDoor
