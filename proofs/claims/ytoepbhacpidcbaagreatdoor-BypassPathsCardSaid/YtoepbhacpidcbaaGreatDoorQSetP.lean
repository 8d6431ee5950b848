/- How far it is by way of chosen vertices, made nearer vertex by vertex in place; and as it is corrected: the same. Plain. -/

import Derived.Test.YtoepbhacpidcbaaGreatDoorQBase
import Derived.Test.YtoepbhacpidcbaaGreatDoorQIdx
import Derived.Test.YtoepbhacpidcbaaGreatDoorQIdxB
import Derived.Test.YtoepbhacpidcbaaGreatDoorQPerm
import Derived.Test.YtoepbhacpidcbaaGreatDoorQRef
import Derived.Test.YtoepbhacpidcbaaGreatDoorQBig
import Derived.Test.YtoepbhacpidcbaaGreatDoorQUnref
import Derived.Test.YtoepbhacpidcbaaGreatDoorQUnE
import Derived.Test.YtoepbhacpidcbaaGreatDoorQItr
import Derived.Test.YtoepbhacpidcbaaGreatDoorQDst
import Derived.Test.YtoepbhacpidcbaaGreatDoorQLnk
import Derived.Test.YtoepbhacpidcbaaGreatDoorQRow2
import Derived.Test.YtoepbhacpidcbaaGreatDoorQGr
import Derived.Test.YtoepbhacpidcbaaGreatDoorQGOps
import Derived.Test.YtoepbhacpidcbaaGreatDoorQBld
import Derived.Test.YtoepbhacpidcbaaGreatDoorQBW
import Derived.Test.YtoepbhacpidcbaaGreatDoorQHpK
import Derived.Test.YtoepbhacpidcbaaGreatDoorQG8
import Derived.Test.YtoepbhacpidcbaaGreatDoorQSqO
import Derived.Test.YtoepbhacpidcbaaGreatDoorQGoes
import Derived.Test.YtoepbhacpidcbaaGreatDoorQUp

set_option linter.unusedVariables false
set_option linter.unusedSimpArgs false
namespace Go.Proofs.YtoepbhacpidcbaaGreatDoor
open Go.RowKit Go.Deep

def tw (a b : Int) : Int := if a = 4611686018427387906 ∨ b = 4611686018427387906 then 4611686018427387906 else if 4611686018427387904 < a + b then 4611686018427387905 else a + b
abbrev Bd (a : Int) : Prop := 0 ≤ a ∧ a ≤ 4611686018427387906
theorem add1_0 {d : Int} (hd : Bd d) : add1 0 d = d := by rw [add1_zero, norm_id hd]
theorem ad_tw {d w : Int} (hd : Bd d) (hw : Bd w) : ad d w = tw d w := by
  unfold ad tw
  rw [add1_0 hd]
  unfold add1
  rw [norm_id hw]
  have := hd.1
  have := hd.2
  have := hw.1
  have := hw.2
  (repeat' split) <;> omega
theorem tw_b {a b : Int} (ha : Bd a) (hb : Bd b) : Bd (tw a b) := by
  have := ha.1; have := ha.2; have := hb.1; have := hb.2
  unfold tw Bd
  (repeat' split) <;> omega
theorem tw_comm (a b : Int) : tw a b = tw b a := by
  unfold tw
  (repeat' split) <;> omega
theorem tw_assoc {a b c : Int} (ha : Bd a) (hb : Bd b) (hc : Bd c) : tw (tw a b) c = tw a (tw b c) := by
  have := ha.1; have := ha.2; have := hb.1; have := hb.2; have := hc.1; have := hc.2
  unfold tw
  (repeat' split) <;> omega
theorem tw_mono {a b c d : Int} (ha : 0 ≤ a) (hc : 0 ≤ c) (h1 : a ≤ b) (h2 : c ≤ d) (hb : b ≤ 4611686018427387906) (hd : d ≤ 4611686018427387906) : tw a c ≤ tw b d := by
  unfold tw
  (repeat' split) <;> omega
theorem tw_le {a b : Int} (ha : Bd a) (hb : Bd b) : a ≤ tw a b := by
  have := ha.1; have := ha.2; have := hb.1; have := hb.2
  unfold tw
  (repeat' split) <;> omega
theorem tw_zero' {a : Int} (ha : Bd a) : tw a 0 = a := by
  have := ha.1; have := ha.2
  unfold tw
  (repeat' split) <;> omega

/-- The least of those that are chosen, or None. -/
def mn (p : Nat → Bool) (f : Nat → Int) : Nat → Int
  | 0 => 4611686018427387906
  | k + 1 => if p k = true ∧ f k < mn p f k then f k else mn p f k
theorem mn_none {p : Nat → Bool} {f : Nat → Int} : ∀ k, mn p f k ≤ 4611686018427387906
  | 0 => by unfold mn; omega
  | k + 1 => by
    have := mn_none (p := p) (f := f) k
    unfold mn; split <;> omega
theorem mn_le {p : Nat → Bool} {f : Nat → Int} : ∀ k i, i < k → p i = true → mn p f k ≤ f i
  | 0, i, h, _ => absurd h (by omega)
  | k + 1, i, h, hp => by
    unfold mn
    by_cases e : i = k
    · subst e
      split
      · omega
      · next hc => have : ¬ (f i < mn p f i) := fun hh => hc ⟨hp, hh⟩
                   omega
    · have := mn_le (p := p) (f := f) k i (by omega) hp
      split <;> omega
theorem mn_is {p : Nat → Bool} {f : Nat → Int} : ∀ k, mn p f k = 4611686018427387906 ∨ ∃ i, i < k ∧ p i = true ∧ mn p f k = f i
  | 0 => .inl rfl
  | k + 1 => by
    unfold mn
    split
    · next hc => exact .inr ⟨k, Nat.lt_succ_self k, hc.1, rfl⟩
    · rcases mn_is (p := p) (f := f) k with e | ⟨i, hi, h1, h2⟩
      · exact .inl e
      · exact .inr ⟨i, by omega, h1, h2⟩

abbrev Mat := Nat → Nat → Int
def upd2 (D : Mat) (a b : Nat) (z : Int) : Mat := fun i j => if i = a ∧ j = b then z else D i j
def fw1 (L : Nat → Bool) (m a b : Nat) (D : Mat) : Mat := if (L m = true ∧ L a = true ∧ L b = true) ∧ tw (D a m) (D m b) < D a b then upd2 D a b (tw (D a m) (D m b)) else D
def fwB (L : Nat → Bool) (m a : Nat) (D : Mat) : Nat → Mat
  | 0 => D
  | b + 1 => fw1 L m a b (fwB L m a D b)
def fwA (L : Nat → Bool) (n m : Nat) (D : Mat) : Nat → Mat
  | 0 => D
  | a + 1 => fwB L m a (fwA L n m D a) n
def fwM (L : Nat → Bool) (n : Nat) (D : Mat) : Nat → Mat
  | 0 => D
  | m + 1 => fwA L n m (fwM L n D m) n
def par (L : Nat → Bool) (m : Nat) (D : Mat) : Mat := fun i j => if (L m = true ∧ L i = true ∧ L j = true) ∧ tw (D i m) (D m j) < D i j then tw (D i m) (D m j) else D i j
def MB (n : Nat) (D : Mat) : Prop := ∀ i j, i < n → j < n → Bd (D i j)
theorem par_col {L : Nat → Bool} {n m : Nat} {D : Mat} (hD : MB n D) (hm : m < n) {i : Nat} (hi : i < n) : par L m D i m = D i m := by
  unfold par
  rw [if_neg (fun h => by have := tw_le (hD i m hi hm) (hD m m hm hm); omega)]
theorem par_row {L : Nat → Bool} {n m : Nat} {D : Mat} (hD : MB n D) (hm : m < n) {j : Nat} (hj : j < n) : par L m D m j = D m j := by
  unfold par
  rw [if_neg (fun h => by have := tw_le (hD m j hm hj) (hD m m hm hm); rw [tw_comm] at this; omega)]
theorem fwB_eq {L : Nat → Bool} {n m a : Nat} {D : Mat} (hD : MB n D) (hm : m < n) (ha : a < n) : ∀ k, k ≤ n → ∀ i j, i < n → j < n → fwB L m a D k i j = if i = a ∧ j < k then par L m D i j else D i j
  | 0, _, i, j, _, _ => by rw [if_neg (by omega)]; rfl
  | k + 1, hk, i, j, hi, hj => by
    have ih := fwB_eq (L := L) hD hm ha k (by omega)
    have e1 : fwB L m a D k a m = D a m := by
      rw [ih a m ha hm]; split
      · exact par_col hD hm ha
      · rfl
    have e2 : fwB L m a D k m k = D m k := by rw [ih m k hm (by omega), if_neg (by omega)]
    have e3 : fwB L m a D k a k = D a k := by rw [ih a k ha (by omega), if_neg (by omega)]
    show fw1 L m a k (fwB L m a D k) i j = _
    unfold fw1
    rw [e1, e2, e3]
    by_cases hc : (L m = true ∧ L a = true ∧ L k = true) ∧ tw (D a m) (D m k) < D a k
    · rw [if_pos hc]
      unfold upd2
      by_cases e : i = a ∧ j = k
      · obtain ⟨rfl, rfl⟩ := e
        rw [if_pos ⟨rfl, rfl⟩, if_pos ⟨rfl, Nat.lt_succ_self _⟩]
        unfold par; rw [if_pos hc]
      · rw [if_neg e, ih i j hi hj]
        by_cases e' : i = a ∧ j < k
        · rw [if_pos e', if_pos (by omega)]
        · rw [if_neg e', if_neg (by omega)]
    · rw [if_neg hc, ih i j hi hj]
      by_cases e : i = a ∧ j = k
      · obtain ⟨rfl, rfl⟩ := e
        rw [if_neg (by omega), if_pos ⟨rfl, Nat.lt_succ_self _⟩]
        unfold par; rw [if_neg hc]
      · by_cases e' : i = a ∧ j < k
        · rw [if_pos e', if_pos (by omega)]
        · rw [if_neg e', if_neg (by omega)]
theorem par_b {L : Nat → Bool} {n m : Nat} {D : Mat} (hD : MB n D) (hm : m < n) : MB n (par L m D) := fun i j hi hj => by
  unfold par
  split
  · exact tw_b (hD i m hi hm) (hD m j hm hj)
  · exact hD i j hi hj
theorem fwA_eq {L : Nat → Bool} {n m : Nat} {D : Mat} (hD : MB n D) (hm : m < n) : ∀ k, k ≤ n → ∀ i j, i < n → j < n → fwA L n m D k i j = if i < k then par L m D i j else D i j
  | 0, _, i, j, _, _ => by rw [if_neg (by omega)]; rfl
  | k + 1, hk, i, j, hi, hj => by
    have ih := fwA_eq (L := L) hD hm k (by omega)
    have hB : MB n (fwA L n m D k) := fun x y hx hy => by
      rw [ih x y hx hy]; split
      · exact par_b hD hm x y hx hy
      · exact hD x y hx hy
    have e := fwB_eq (L := L) hB hm (show k < n by omega) n (Nat.le_refl n) i j hi hj
    show fwB L m k (fwA L n m D k) n i j = _
    rw [e]
    by_cases hik : i = k
    · subst hik
      rw [if_pos ⟨rfl, hj⟩, if_pos (Nat.lt_succ_self _)]
      have q1 : fwA L n m D i i m = D i m := by rw [ih i m hi hm, if_neg (Nat.lt_irrefl _)]
      have q2 : fwA L n m D i i j = D i j := by rw [ih i j hi hj, if_neg (Nat.lt_irrefl _)]
      have q3 : fwA L n m D i m j = D m j := by
        rw [ih m j hm hj]; split
        · exact par_row hD hm hj
        · rfl
      unfold par
      rw [q1, q2, q3]
    · rw [if_neg (by omega), ih i j hi hj]
      by_cases h2 : i < k
      · rw [if_pos h2, if_pos (by omega)]
      · rw [if_neg h2, if_neg (by omega)]

/-- What holds behind k rounds. -/
structure FwI (L : Nat → Bool) (n : Nat) (D0 D : Mat) (k : Nat) : Prop where
  b : MB n D
  le : ∀ i j, i < n → j < n → D i j ≤ D0 i j
  tri : ∀ m, m < k → m < n → L m = true → ∀ i j, i < n → j < n → L i = true → L j = true → D i j ≤ tw (D i m) (D m j)
  sound : ∀ X : Nat → Int, (∀ i, i < n → L i = true → Bd (X i)) → (∀ i j, i < n → j < n → L i = true → L j = true → X j ≤ tw (X i) (D0 i j)) → ∀ i j, i < n → j < n → L i = true → L j = true → X j ≤ tw (X i) (D i j)
theorem FwI.step {L : Nat → Bool} {n : Nat} {D0 D D' : Mat} {k : Nat} (h : FwI L n D0 D k) (hk : k < n) (he : ∀ i j, i < n → j < n → D' i j = par L k D i j) : FwI L n D0 D' (k + 1) := by
  have pb := par_b (L := L) h.b hk
  have ple : ∀ i j, i < n → j < n → par L k D i j ≤ D i j := fun i j hi hj => by unfold par; split <;> omega
  refine ⟨fun i j hi hj => by rw [he i j hi hj]; exact pb i j hi hj, fun i j hi hj => by rw [he i j hi hj]; exact Int.le_trans (ple i j hi hj) (h.le i j hi hj), fun m hm hmn hLm i j hi hj hLi hLj => ?_, fun X hX hXs i j hi hj hLi hLj => ?_⟩
  · rw [he i j hi hj, he i m hi hmn, he m j hmn hj]
    by_cases hLk : L k = true
    · have up : par L k D i j ≤ tw (D i k) (D k j) := by
        unfold par
        by_cases hc : tw (D i k) (D k j) < D i j
        · rw [if_pos ⟨⟨hLk, hLi, hLj⟩, hc⟩]; exact Int.le_refl _
        · rw [if_neg (fun hh => hc hh.2)]; omega
      by_cases emk : m = k
      · subst emk
        rw [par_col h.b hk hi, par_row h.b hk hj]
        exact up
      · have hmk : m < k := by omega
        have t1 := h.tri m hmk hmn hLm
        have b := h.b
        have bik := b i k hi hk
        have bkj := b k j hk hj
        have bim := b i m hi hmn
        have bmj := b m j hmn hj
        have bkm := b k m hk hmn
        have bmk := b m k hmn hk
        have pp : ∀ x y, L x = true → L y = true → (par L k D x y = tw (D x k) (D k y)) ∨ par L k D x y = D x y := fun x y hx hy => by
          unfold par; split
          · exact .inl rfl
          · exact .inr rfl
        rcases pp i m hLi hLm with c1 | c1
        · rw [c1]
          rcases pp m j hLm hLj with c2 | c2
          · rw [c2]
            refine Int.le_trans up ?_
            have q1 := tw_le bik bkm
            have q2 : D k j ≤ tw (D m k) (D k j) := by rw [tw_comm]; exact tw_le bkj bmk
            exact tw_mono bik.1 bkj.1 q1 q2 (tw_b bik bkm).2 (tw_b bmk bkj).2
          · rw [c2]
            refine Int.le_trans up ?_
            rw [tw_assoc bik bkm bmj]
            exact tw_mono bik.1 bkj.1 (Int.le_refl _) (t1 k j hk hj hLk hLj) bik.2 (tw_b bkm bmj).2
        · rw [c1]
          rcases pp m j hLm hLj with c2 | c2
          · rw [c2]
            refine Int.le_trans up ?_
            rw [← tw_assoc bim bmk bkj]
            exact tw_mono bik.1 bkj.1 (t1 i k hi hk hLi hLk) (Int.le_refl _) (tw_b bim bmk).2 bkj.2
          · rw [c2]
            refine Int.le_trans ?_ (t1 i j hi hj hLi hLj)
            exact ple i j hi hj
    · have e : ∀ x y, par L k D x y = D x y := fun x y => by unfold par; rw [if_neg (fun hh => hLk hh.1.1)]
      have hmk : m < k := by
        rcases Nat.lt_or_ge m k with h' | h'
        · exact h'
        · have : m = k := by omega
          subst this
          exact absurd hLm hLk
      rw [e, e, e]
      exact h.tri m hmk hmn hLm i j hi hj hLi hLj
  · rw [he i j hi hj]
    unfold par
    split
    · next hc =>
      have s1 := h.sound X hX hXs i k hi hk hLi hc.1.1
      have s2 := h.sound X hX hXs k j hk hj hc.1.1 hLj
      have xk := hX k hk hc.1.1
      have xi := hX i hi hLi
      have bik := h.b i k hi hk
      have bkj := h.b k j hk hj
      refine Int.le_trans s2 ?_
      rw [← tw_assoc xi bik bkj]
      exact tw_mono xk.1 bkj.1 s1 (Int.le_refl _) (tw_b xi bik).2 bkj.2
    · exact h.sound X hX hXs i j hi hj hLi hLj
theorem FwI.first {L : Nat → Bool} {n : Nat} {D : Mat} (hD : MB n D) : FwI L n D D 0 :=
  ⟨hD, fun _ _ _ _ => Int.le_refl _, fun m hm => absurd hm (by omega), fun X _ h => h⟩
theorem fwM_inv {L : Nat → Bool} {n : Nat} {D : Mat} (hD : MB n D) : ∀ k, k ≤ n → FwI L n D (fwM L n D k) k
  | 0, _ => FwI.first hD
  | k + 1, hk => by
    have ih := fwM_inv (L := L) hD k (by omega)
    exact ih.step (by omega) (fun i j hi hj => by
      show fwA L n k (fwM L n D k) n i j = _
      rw [fwA_eq ih.b (by omega) n (Nat.le_refl n) i j hi hj, if_pos hi])

end Go.Proofs.YtoepbhacpidcbaaGreatDoor

/- The law of BuildBetween: how far it is by way of lower ones, corrected or made nearer vertex by vertex. Plain. -/
set_option linter.unusedVariables false
set_option linter.unusedSimpArgs false
namespace Go.Proofs.YtoepbhacpidcbaaGreatDoor
open Go.RowKit Go.Deep

def lsB (p : Nat → Nat → Bool) (f : Mat) (a : Nat) (acc : Int) : Nat → Int
  | 0 => acc
  | b + 1 => if p a b = true ∧ f a b < lsB p f a acc b then f a b else lsB p f a acc b
def lsA (p : Nat → Nat → Bool) (f : Mat) (n : Nat) : Nat → Int
  | 0 => 4611686018427387906
  | a + 1 => lsB p f a (lsA p f n a) n
theorem lsB_le {p : Nat → Nat → Bool} {f : Mat} {a : Nat} {acc : Int} : ∀ k, lsB p f a acc k ≤ acc ∧ (∀ b, b < k → p a b = true → lsB p f a acc k ≤ f a b) ∧ (lsB p f a acc k = acc ∨ ∃ b, b < k ∧ p a b = true ∧ lsB p f a acc k = f a b)
  | 0 => ⟨Int.le_refl _, fun b h => absurd h (by omega), .inl rfl⟩
  | k + 1 => by
    obtain ⟨h1, h2, h3⟩ := lsB_le (p := p) (f := f) (a := a) (acc := acc) k
    unfold lsB
    split
    · next hc =>
      refine ⟨by omega, fun b hb hp => ?_, .inr ⟨k, Nat.lt_succ_self k, hc.1, rfl⟩⟩
      by_cases e : b = k
      · rw [e]; exact Int.le_refl _
      · have := h2 b (by omega) hp; omega
    · next hc =>
      refine ⟨h1, fun b hb hp => ?_, ?_⟩
      · by_cases e : b = k
        · subst e
          have : ¬ (f a b < lsB p f a acc b) := fun hh => hc ⟨hp, hh⟩
          omega
        · exact h2 b (by omega) hp
      · rcases h3 with e | ⟨b, hb, e⟩
        · exact .inl e
        · exact .inr ⟨b, by omega, e⟩
theorem lsA_le {p : Nat → Nat → Bool} {f : Mat} {n : Nat} : ∀ k, lsA p f n k ≤ 4611686018427387906 ∧ (∀ a b, a < k → b < n → p a b = true → lsA p f n k ≤ f a b) ∧ (lsA p f n k = 4611686018427387906 ∨ ∃ a b, a < k ∧ b < n ∧ p a b = true ∧ lsA p f n k = f a b)
  | 0 => ⟨Int.le_refl _, fun a b h => absurd h (by omega), .inl rfl⟩
  | k + 1 => by
    obtain ⟨h1, h2, h3⟩ := lsA_le (p := p) (f := f) (n := n) k
    obtain ⟨g1, g2, g3⟩ := lsB_le (p := p) (f := f) (a := k) (acc := lsA p f n k) n
    refine ⟨Int.le_trans g1 h1, fun a b ha hb hp => ?_, ?_⟩
    · by_cases e : a = k
      · rw [e]; rw [e] at hp; exact g2 b hb hp
      · exact Int.le_trans g1 (h2 a b (by omega) hb hp)
    · rcases g3 with e | ⟨b, hb, hp, e⟩
      · rcases h3 with e' | ⟨a, b, ha, hb, hp, e'⟩
        · exact .inl (e.trans e')
        · exact .inr ⟨a, b, by omega, hb, hp, e.trans e'⟩
      · exact .inr ⟨k, b, Nat.lt_succ_self k, hb, hp, e⟩

def Gr.bst (G : Gr) : Mat := fun a b => (G.best (a : Nat) (b : Nat)).1
theorem Gr.bst_b {G : Gr} (hw : G.Wt) (a b : Nat) : Bd (G.bst a b) := by
  unfold Gr.bst Bd
  rcases G.best_wt hw (a : Nat) (b : Nat) with e | ⟨h1, h2, _⟩
  · rw [e]; show (0 : Int) ≤ 4611686018427387906 ∧ (4611686018427387906 : Int) ≤ 4611686018427387906; omega
  · omega
theorem Gr.bst_arc {G : Gr} {k a b : Nat} (hk : k < 64) (htk : G.tk k = true) (hc : (G.arc k).c = false) (ht : (G.arc k).t = (a : Nat)) (hh : (G.arc k).h = (b : Nat)) : G.bst a b ≤ (G.arc k).w := by
  have := G.best_least hk htk hc
  rw [ht, hh] at this
  exact this
theorem Gr.bst_is (G : Gr) (a b : Nat) : G.bst a b = 4611686018427387906 ∨ ∃ k : Nat, k < 64 ∧ G.tk k = true ∧ (G.arc k).t = (a : Nat) ∧ (G.arc k).h = (b : Nat) ∧ (G.arc k).c = false ∧ G.bst a b = (G.arc k).w := by
  rcases G.best_is (a : Nat) (b : Nat) with e | ⟨k, h1, h2, h3, h4, h5, _, e⟩
  · left; unfold Gr.bst; rw [e]
  · right; exact ⟨k, h1, h2, h3, h4, h5, by unfold Gr.bst; rw [e]⟩
theorem none_tw {a : Int} : tw a 4611686018427387906 = 4611686018427387906 := by unfold tw; rw [if_pos (.inr rfl)]
theorem tw_none {a : Int} : tw 4611686018427387906 a = 4611686018427387906 := by unfold tw; rw [if_pos (.inl rfl)]

def midD (D : Mat) (a b : Nat) : Int := if a = b then 0 else D a b
def viaD (G : Gr) (D : Mat) (u w a b : Nat) : Int := tw (tw (G.bst u a) (midD D a b)) (G.bst b w)
def pL (L : Nat → Bool) (a b : Nat) : Bool := L a && L b
/-- The document's answer. -/
def Gr.btw (G : Gr) (L : Nat → Bool) (u w : Nat) : Int := lsA (pL L) (viaD G (fwM L G.n G.bst G.n) u w) G.n G.n

end Go.Proofs.YtoepbhacpidcbaaGreatDoor

/- build.Between: its closure; walked. -/
set_option linter.unusedVariables false
set_option linter.unusedSimpArgs false
namespace Go.Proofs.YtoepbhacpidcbaaGreatDoor
open Go.RowKit Go.Shelf Go.Deep

attribute [local go_sem] Oper.semAt_some

end Go.Proofs.YtoepbhacpidcbaaGreatDoor
/- The document's sum of two; walked. -/
set_option linter.unusedVariables false
set_option linter.unusedSimpArgs false
namespace Go.Proofs.YtoepbhacpidcbaaGreatDoor
open Go.RowKit

theorem add1_tw {a b : Int} (ha : Bd a) (hb : Bd b) : add1 a b = tw a b := by
  rw [← ad_tw ha hb]; unfold ad; rw [add1_0 ha]
/-- ringroadref01.Two at two that are distances. -/
theorem tw_calls {a b : Int} (ha : Bd a) (hb : Bd b) (w : World) : Calls Tryz.prog 69 #[.int .i64 a, .int .i64 b] w fun e w' => e = .returned (.int .i64 (tw a b)) ∧ Fr No w w' := by
  refine (rsum_calls a b w).mono ?_
  rintro e w' ⟨rfl, hf⟩
  exact ⟨by rw [norm_id ha, add1_tw ha hb], hf⟩
theorem Ix.Ok.sum2_tw {x : Ix} (h : x.Ok) (u v : Int) (k : Nat) : x.sum2 u v k = Go.Proofs.YtoepbhacpidcbaaGreatDoor.tw (x.at_ u (x.by_ k : Nat)).w (x.at_ (x.by_ k : Nat) v).w := by
  have ha := h.at_b u (x.by_ k : Nat)
  have hb := h.at_b (x.by_ k : Nat) v
  have ha' : Bd (x.at_ u (x.by_ k : Nat)).w := ⟨by omega, ha.2⟩
  have hb' : Bd (x.at_ (x.by_ k : Nat) v).w := ⟨by omega, hb.2⟩
  unfold Ix.sum2
  rw [add1_0 ha', add1_tw ha' hb']

end Go.Proofs.YtoepbhacpidcbaaGreatDoor

/- The law of BuildSets: the shortcuts are the pairs between which it is shorter by way of lower ones: plain. -/
set_option linter.unusedVariables false
set_option linter.unusedSimpArgs false
namespace Go.Proofs.YtoepbhacpidcbaaGreatDoor
open Go.RowKit Go.Deep

/-- Made nearer by rank. -/
def rkw (bf : Nat → Nat) (D0 : Mat) : Nat → Mat
  | 0 => D0
  | r + 1 => fun a b => if tw (rkw bf D0 r a (bf r)) (rkw bf D0 r (bf r) b) < rkw bf D0 r a b then tw (rkw bf D0 r a (bf r)) (rkw bf D0 r (bf r) b) else rkw bf D0 r a b
/-- The least by way of the lower ones. -/
def lsr (bf : Nat → Nat) (D0 : Mat) (a b : Nat) : Nat → Int
  | 0 => 4611686018427387906
  | r + 1 => if tw (rkw bf D0 r a (bf r)) (rkw bf D0 r (bf r) b) < lsr bf D0 a b r then tw (rkw bf D0 r a (bf r)) (rkw bf D0 r (bf r) b) else lsr bf D0 a b r
theorem rkw_b {bf : Nat → Nat} {n : Nat} (hbf : ∀ r, r < n → bf r < n) {D0 : Mat} (h : MB n D0) : ∀ r, r ≤ n → MB n (rkw bf D0 r)
  | 0, _ => h
  | r + 1, hr => fun a b ha hb => by
    have ih := rkw_b hbf h r (by omega)
    have hv := hbf r (by omega)
    show Bd (if _ then _ else _)
    split
    · exact tw_b (ih a _ ha hv) (ih _ b hv hb)
    · exact ih a b ha hb
theorem rkw_le {bf : Nat → Nat} {D0 : Mat} (a b : Nat) : ∀ r, rkw bf D0 r a b ≤ D0 a b
  | 0 => Int.le_refl _
  | r + 1 => by
    have ih := rkw_le (bf := bf) (D0 := D0) a b r
    show (if _ then _ else _ : Int) ≤ _
    split <;> omega
theorem lsr_none {bf : Nat → Nat} {D0 : Mat} (a b : Nat) : ∀ r, lsr bf D0 a b r ≤ 4611686018427387906
  | 0 => Int.le_refl _
  | r + 1 => by
    have ih := lsr_none (bf := bf) (D0 := D0) a b r
    unfold lsr; split <;> omega
theorem rkw_min {bf : Nat → Nat} {D0 : Mat} {a b : Nat} (h : D0 a b ≤ 4611686018427387906) : ∀ r, rkw bf D0 r a b = min (D0 a b) (lsr bf D0 a b r)
  | 0 => by show D0 a b = min (D0 a b) 4611686018427387906; omega
  | r + 1 => by
    have ih := rkw_min (bf := bf) h r
    show (if tw (rkw bf D0 r a (bf r)) (rkw bf D0 r (bf r) b) < rkw bf D0 r a b then tw (rkw bf D0 r a (bf r)) (rkw bf D0 r (bf r) b) else rkw bf D0 r a b) = min (D0 a b) (if tw (rkw bf D0 r a (bf r)) (rkw bf D0 r (bf r) b) < lsr bf D0 a b r then tw (rkw bf D0 r a (bf r)) (rkw bf D0 r (bf r) b) else lsr bf D0 a b r)
    rw [ih]
    generalize tw (rkw bf D0 r a (bf r)) (rkw bf D0 r (bf r) b) = t
    generalize lsr bf D0 a b r = l
    generalize D0 a b = d
    (repeat' split) <;> omega
theorem lsr_le {bf : Nat → Nat} {D0 : Mat} (a b : Nat) : ∀ r i, i < r → lsr bf D0 a b r ≤ tw (rkw bf D0 i a (bf i)) (rkw bf D0 i (bf i) b)
  | 0, i, h => absurd h (by omega)
  | r + 1, i, h => by
    unfold lsr
    by_cases e : i = r
    · subst e; split <;> omega
    · have := lsr_le (bf := bf) (D0 := D0) a b r i (by omega)
      split <;> omega
theorem lsr_is {bf : Nat → Nat} {D0 : Mat} (a b : Nat) : ∀ r, lsr bf D0 a b r = 4611686018427387906 ∨ ∃ i, i < r ∧ lsr bf D0 a b r = tw (rkw bf D0 i a (bf i)) (rkw bf D0 i (bf i) b)
  | 0 => .inl rfl
  | r + 1 => by
    unfold lsr
    split
    · exact .inr ⟨r, Nat.lt_succ_self r, rfl⟩
    · rcases lsr_is (bf := bf) (D0 := D0) a b r with e | ⟨i, hi, e⟩
      · exact .inl e
      · exact .inr ⟨i, by omega, e⟩

/-- An entry is what is made nearer by rank, as far as its lower end. -/
theorem Whole.rkw {G : Gr} {x : Ix} (h : Whole G x) (hok : x.Ok) (hw : G.Wt) : ∀ (N r u v : Nat), r < N → u < x.n → v < x.n → u ≠ v → min (x.rk u) (x.rk v) = r →
    (x.ent u v).w = Go.Proofs.YtoepbhacpidcbaaGreatDoor.rkw x.by_ G.bst r u v ∧ ∀ i, i < r → x.sum2 (u : Nat) (v : Nat) i = tw (Go.Proofs.YtoepbhacpidcbaaGreatDoor.rkw x.by_ G.bst i u (x.by_ i)) (Go.Proofs.YtoepbhacpidcbaaGreatDoor.rkw x.by_ G.bst i (x.by_ i) v)
  | 0, r, u, v, hr, _, _, _, _ => absurd hr (by omega)
  | N + 1, r, u, v, hr, hu, hv, hne, hmin => by
    have hs : ∀ i, i < r → x.sum2 (u : Nat) (v : Nat) i = tw (Go.Proofs.YtoepbhacpidcbaaGreatDoor.rkw x.by_ G.bst i u (x.by_ i)) (Go.Proofs.YtoepbhacpidcbaaGreatDoor.rkw x.by_ G.bst i (x.by_ i) v) := fun i hi => by
      have hru := (hok.rk u hu).1
      have hb := hok.by_ i (by omega)
      have n1 : u ≠ x.by_ i := fun e => by rw [e] at hmin; rw [hb.2] at hmin; omega
      have n2 : x.by_ i ≠ v := fun e => by rw [← e] at hmin; rw [hb.2] at hmin; omega
      rw [hok.sum2_tw, at_nat (two_nat hu hb.1 n1), at_nat (two_nat hb.1 hv n2)]
      rw [(Whole.rkw h hok hw N i u (x.by_ i) (by omega) hu hb.1 n1 (by rw [hb.2]; omega)).1, (Whole.rkw h hok hw N i (x.by_ i) v (by omega) hb.1 hv n2 (by rw [hb.2]; omega)).1]
    refine ⟨?_, hs⟩
    rw [rkw_min (G.bst_b hw u v).2]
    have hle := fun i hi => lsr_le (bf := x.by_) (D0 := G.bst) u v r i hi
    have his := lsr_is (bf := x.by_) (D0 := G.bst) u v r
    have hnn := lsr_none (bf := x.by_) (D0 := G.bst) u v r
    have hbe : G.bst u v = (G.best (u : Nat) (v : Nat)).1 := rfl
    rcases h.cases hu hv hne with ⟨e, eb, hall⟩ | ⟨e, _, hall⟩ | ⟨j, hc, hlt⟩
    · rw [e, hbe, eb]
      show (4611686018427387906 : Int) = min 4611686018427387906 _
      rcases his with e' | ⟨i, hi, e'⟩
      · rw [e']; omega
      · have := hall i (by omega)
        rw [hs i hi, ← e'] at this
        omega
    · rw [e, hbe]
      show (G.best (u : Nat) (v : Nat)).1 = min (G.best (u : Nat) (v : Nat)).1 _
      have hb2 := (G.bst_b hw u v).2
      rw [hbe] at hb2
      rcases his with e' | ⟨i, hi, e'⟩
      · rw [e']; omega
      · have := hall i (by omega)
        rw [hs i hi, ← e'] at this
        omega
    · have hj : j < r := by have := hc.lo; omega
      have h1 := hle j hj
      rw [← hs j hj] at h1
      rw [hc.w, hbe]
      rcases his with e' | ⟨i, hi, e'⟩
      · have := hc.lt; omega
      · have h2 := hc.le i (by omega)
        rw [hs i hi, ← e'] at h2
        omega

/-- Rank-wise nearness is closed: by way of a vertex that is lower it is no nearer. -/
theorem rkw_tri {bf : Nat → Nat} {n : Nat} (hbf : ∀ r, r < n → bf r < n) {D0 : Mat} (h : MB n D0) : ∀ r, r ≤ n → FwI (fun _ => true) n (fun i j => D0 (bf i) (bf j)) (fun i j => rkw bf D0 r (bf i) (bf j)) r
  | 0, _ => FwI.first (fun i j hi hj => h _ _ (hbf i hi) (hbf j hj))
  | r + 1, hr => by
    refine (rkw_tri hbf h r (by omega)).step (by omega) (fun i j hi hj => ?_)
    unfold par
    show (if tw (rkw bf D0 r (bf i) (bf r)) (rkw bf D0 r (bf r) (bf j)) < rkw bf D0 r (bf i) (bf j) then tw (rkw bf D0 r (bf i) (bf r)) (rkw bf D0 r (bf r) (bf j)) else rkw bf D0 r (bf i) (bf j)) = _
    by_cases hc : tw (rkw bf D0 r (bf i) (bf r)) (rkw bf D0 r (bf r) (bf j)) < rkw bf D0 r (bf i) (bf j)
    · rw [if_pos hc, if_pos ⟨⟨rfl, rfl, rfl⟩, hc⟩]
    · rw [if_neg hc, if_neg (fun hh => hc hh.2)]
theorem Ix.Ok.rkw_tri {x : Ix} (hok : x.Ok) {D0 : Mat} (h : MB x.n D0) {r : Nat} (hr : r ≤ x.n) {a m b : Nat} (ha : a < x.n) (hm : m < x.n) (hb : b < x.n) (hmr : x.rk m < r) :
    rkw x.by_ D0 r a b ≤ Go.Proofs.YtoepbhacpidcbaaGreatDoor.tw (rkw x.by_ D0 r a m) (rkw x.by_ D0 r m b) := by
  have ra := hok.rk a ha
  have rm := hok.rk m hm
  have rb := hok.rk b hb
  have := (Go.Proofs.YtoepbhacpidcbaaGreatDoor.rkw_tri (fun r hr => (hok.by_ r hr).1) h r hr).tri (x.rk m) hmr rm.1 rfl (x.rk a) (x.rk b) ra.1 rb.1 rfl rfl
  simp only [ra.2, rm.2, rb.2] at this
  exact this


section
variable {G : Gr} {L : Nat → Bool} {D : Mat}
theorem mid_b (hI : FwI L G.n G.bst D G.n) {a b : Nat} (ha : a < G.n) (hb : b < G.n) : Bd (midD D a b) := by
  unfold midD; split
  · unfold Bd; omega
  · exact hI.b a b ha hb
theorem mid_bst (hw : G.Wt) (hI : FwI L G.n G.bst D G.n) {a b : Nat} (ha : a < G.n) (hb : b < G.n) : midD D a b ≤ G.bst a b := by
  unfold midD; split
  · exact (G.bst_b hw a b).1
  · exact hI.le a b ha hb
theorem mid_tri (hI : FwI L G.n G.bst D G.n) {a m b : Nat} (ha : a < G.n) (hm : m < G.n) (hb : b < G.n) (la : L a = true) (lm : L m = true) (lb : L b = true) : midD D a b ≤ tw (midD D a m) (midD D m b) := by
  by_cases e : a = b
  · have : midD D a b = 0 := if_pos e
    rw [this]; exact (tw_b (mid_b hI ha hm) (mid_b hI hm hb)).1
  · have e0 : midD D a b = D a b := if_neg e
    rw [e0]
    by_cases e1 : a = m
    · have : midD D a m = 0 := if_pos e1
      rw [this, tw_comm, tw_zero' (mid_b hI hm hb)]
      have : midD D m b = D m b := if_neg (fun h => e (e1.trans h))
      rw [this, e1]; exact Int.le_refl _
    · have q1 : midD D a m = D a m := if_neg e1
      by_cases e2 : m = b
      · have : midD D m b = 0 := if_pos e2
        rw [this, tw_zero' (mid_b hI ha hm), q1, e2]; exact Int.le_refl _
      · have q2 : midD D m b = D m b := if_neg e2
        rw [q1, q2]; exact hI.tri m hm hm lm a b ha hb la lb
/-- The least sum by way of some. -/
def cD (G : Gr) (L : Nat → Bool) (D : Mat) (a b : Nat) : Int := min (G.bst a b) (lsA (pL L) (viaD G D a b) G.n G.n)
theorem via_b (hw : G.Wt) (hI : FwI L G.n G.bst D G.n) (a b : Nat) {p q : Nat} (hp : p < G.n) (hq : q < G.n) : Bd (viaD G D a b p q) := tw_b (tw_b (G.bst_b hw a p) (mid_b hI hp hq)) (G.bst_b hw q b)
theorem cD_is (a b : Nat) : cD G L D a b = G.bst a b ∨ cD G L D a b = 4611686018427387906 ∨ ∃ p q, p < G.n ∧ q < G.n ∧ L p = true ∧ L q = true ∧ cD G L D a b = viaD G D a b p q := by
  unfold cD
  rcases (lsA_le (p := pL L) (f := viaD G D a b) (n := G.n) G.n).2.2 with e | ⟨p, q, hp, hq, hpq, e⟩
  · rw [e]
    by_cases h : G.bst a b ≤ 4611686018427387906
    · left; omega
    · right; left; omega
  · rw [e]
    by_cases h : G.bst a b ≤ viaD G D a b p q
    · left; omega
    · right; right
      unfold pL at hpq
      simp only [Bool.and_eq_true] at hpq
      exact ⟨p, q, hp, hq, hpq.1, hpq.2, by omega⟩
theorem cD_two (hw : G.Wt) (hI : FwI L G.n G.bst D G.n) {a v b : Nat} (hv : v < G.n) (lv : L v = true) : lsA (pL L) (viaD G D a b) G.n G.n ≤ tw (cD G L D a v) (cD G L D v b) := by
  have hls := lsA_le (p := pL L) (f := viaD G D a b) (n := G.n) G.n
  have via_le : ∀ p q, p < G.n → q < G.n → L p = true → L q = true → lsA (pL L) (viaD G D a b) G.n G.n ≤ viaD G D a b p q := fun p q hp hq lp lq => hls.2.1 p q hp hq (by unfold pL; rw [lp, lq]; rfl)
  have hno : ∀ z : Int, lsA (pL L) (viaD G D a b) G.n G.n ≤ tw 4611686018427387906 z := fun z => by rw [tw_none]; exact hls.1
  have hno2 : ∀ z : Int, lsA (pL L) (viaD G D a b) G.n G.n ≤ tw z 4611686018427387906 := fun z => by rw [none_tw]; exact hls.1
  have bb : ∀ i j, Bd (G.bst i j) := fun i j => G.bst_b hw i j
  have mb : ∀ {i j : Nat}, i < G.n → j < G.n → Bd (midD D i j) := fun hi hj => mid_b hI hi hj
  rcases cD_is (G := G) (L := L) (D := D) a v with e1 | e1 | ⟨p, q, hp, hq, lp, lq, e1⟩
  · rcases cD_is (G := G) (L := L) (D := D) v b with e2 | e2 | ⟨p', q', hp', hq', lp', lq', e2⟩
    · rw [e1, e2]
      refine Int.le_trans (via_le v v hv hv lv lv) ?_
      unfold viaD midD
      rw [if_pos rfl, tw_zero' (bb a v)]
      exact Int.le_refl _
    · rw [e2]; exact hno2 _
    · rw [e1, e2]
      refine Int.le_trans (via_le v q' hv hq' lv lq') ?_
      unfold viaD
      have h1 : midD D v q' ≤ tw (G.bst v p') (midD D p' q') := Int.le_trans (mid_tri hI hv hp' hq' lv lp' lq') (tw_mono (mb hv hp').1 (mb hp' hq').1 (mid_bst hw hI hv hp') (Int.le_refl _) (bb v p').2 (mb hp' hq').2)
      have b1 := tw_b (bb v p') (mb hp' hq')
      refine Int.le_trans (tw_mono (tw_b (bb a v) (mb hv hq')).1 (bb q' b).1 (tw_mono (bb a v).1 (mb hv hq').1 (Int.le_refl _) h1 (bb a v).2 b1.2) (Int.le_refl _) (tw_b (bb a v) b1).2 (bb q' b).2) ?_
      rw [tw_assoc (bb a v) b1 (bb q' b)]
      exact Int.le_refl _
  · rw [e1]; exact hno _
  · rcases cD_is (G := G) (L := L) (D := D) v b with e2 | e2 | ⟨p', q', hp', hq', lp', lq', e2⟩
    · rw [e1, e2]
      refine Int.le_trans (via_le p v hp hv lp lv) ?_
      unfold viaD
      have h1 : midD D p v ≤ tw (midD D p q) (G.bst q v) := Int.le_trans (mid_tri hI hp hq hv lp lq lv) (tw_mono (mb hp hq).1 (mb hq hv).1 (Int.le_refl _) (mid_bst hw hI hq hv) (mb hp hq).2 (bb q v).2)
      have b1 := tw_b (mb hp hq) (bb q v)
      refine tw_mono (tw_b (bb a p) (mb hp hv)).1 (bb v b).1 ?_ (Int.le_refl _) (tw_b (tw_b (bb a p) (mb hp hq)) (bb q v)).2 (bb v b).2
      rw [tw_assoc (bb a p) (mb hp hq) (bb q v)]
      exact tw_mono (bb a p).1 (mb hp hv).1 (Int.le_refl _) h1 (bb a p).2 b1.2
    · rw [e2]; exact hno2 _
    · rw [e1, e2]
      refine Int.le_trans (via_le p q' hp hq' lp lq') ?_
      unfold viaD
      have h1 : midD D p v ≤ tw (midD D p q) (G.bst q v) := Int.le_trans (mid_tri hI hp hq hv lp lq lv) (tw_mono (mb hp hq).1 (mb hq hv).1 (Int.le_refl _) (mid_bst hw hI hq hv) (mb hp hq).2 (bb q v).2)
      have h2 : midD D v q' ≤ tw (G.bst v p') (midD D p' q') := Int.le_trans (mid_tri hI hv hp' hq' lv lp' lq') (tw_mono (mb hv hp').1 (mb hp' hq').1 (mid_bst hw hI hv hp') (Int.le_refl _) (bb v p').2 (mb hp' hq').2)
      have b1 := tw_b (mb hp hq) (bb q v)
      have b2 := tw_b (bb v p') (mb hp' hq')
      have h3 : midD D p q' ≤ tw (tw (midD D p q) (G.bst q v)) (tw (G.bst v p') (midD D p' q')) := Int.le_trans (mid_tri hI hp hv hq' lp lv lq') (tw_mono (mb hp hv).1 (mb hv hq').1 h1 h2 b1.2 b2.2)
      have b12 := tw_b b1 b2
      refine Int.le_trans (tw_mono (tw_b (bb a p) (mb hp hq')).1 (bb q' b).1 (tw_mono (bb a p).1 (mb hp hq').1 (Int.le_refl _) h3 (bb a p).2 b12.2) (Int.le_refl _) (tw_b (bb a p) b12).2 (bb q' b).2) ?_
      rw [tw_assoc (bb a p) b12 (bb q' b), tw_assoc b1 b2 (bb q' b), tw_assoc (tw_b (bb a p) (mb hp hq)) (bb q v) (tw_b b2 (bb q' b)), tw_assoc (bb a p) (mb hp hq) (tw_b (bb q v) (tw_b b2 (bb q' b))), tw_assoc (mb hp hq) (bb q v) (tw_b b2 (bb q' b))]
      exact Int.le_refl _
end

theorem cD_b {G : Gr} {L : Nat → Bool} {D : Mat} (hw : G.Wt) (hI : FwI L G.n G.bst D G.n) (a b : Nat) : Bd (cD G L D a b) := by
  have hb := G.bst_b hw a b
  rcases cD_is (G := G) (L := L) (D := D) a b with e | e | ⟨p, q, hp, hq, _, _, e⟩
  · rw [e]; exact hb
  · rw [e]; unfold Bd; omega
  · rw [e]; exact via_b hw hI a b hp hq
theorem cD_rkw {G : Gr} {x : Ix} (hok : x.Ok) (hn : G.n = x.n) {L : Nat → Bool} {D : Mat} (hw : G.Wt) (hI : FwI L G.n G.bst D G.n) {r : Nat} (hr : r ≤ x.n) (hL : ∀ i, i < r → L (x.by_ i) = true) : ∀ i, i ≤ r → ∀ a b, a < x.n → b < x.n → cD G L D a b ≤ rkw x.by_ G.bst i a b
  | 0, _, a, b, _, _ => by show min _ _ ≤ G.bst a b; omega
  | i + 1, hi, a, b, ha, hb => by
    have ih := cD_rkw hok hn hw hI hr hL i (by omega)
    have hv := (hok.by_ i (by omega)).1
    have hrb := rkw_b (bf := x.by_) (n := x.n) (fun r hr => (hok.by_ r hr).1) (D0 := G.bst) (fun i j _ _ => G.bst_b hw i j) i (by omega)
    show _ ≤ (if _ then _ else _ : Int)
    split
    · refine Int.le_trans (Int.min_le_right _ _) (Int.le_trans (cD_two hw hI (v := x.by_ i) (by omega) (hL i (by omega))) ?_)
      exact tw_mono (cD_b hw hI a (x.by_ i)).1 (cD_b hw hI (x.by_ i) b).1 (ih a _ ha hv) (ih _ b hv hb) (hrb a _ ha hv).2 (hrb _ b hv hb).2
    · exact ih a b ha hb
theorem rkw_but {x : Ix} (hok : x.Ok) {D0 : Mat} {u w : Nat} (hu : u < x.n) (hw : w < x.n) : ∀ i, i ≤ min (x.rk u) (x.rk w) → ∀ a b, ¬ (a = u ∧ b = w) → rkw x.by_ (upd2 D0 u w 4611686018427387906) i a b = rkw x.by_ D0 i a b
  | 0, _, a, b, h => by show (if a = u ∧ b = w then _ else D0 a b) = D0 a b; rw [if_neg h]
  | i + 1, hi, a, b, h => by
    have hrk := (hok.rk u hu).1
    have hb := hok.by_ i (by omega)
    have n1 : x.by_ i ≠ u := fun e => by have := hb.2; rw [e] at this; omega
    have n2 : x.by_ i ≠ w := fun e => by have := hb.2; rw [e] at this; omega
    have ih := rkw_but hok (D0 := D0) hu hw i (by omega)
    show (if tw (rkw x.by_ (upd2 D0 u w 4611686018427387906) i a (x.by_ i)) (rkw x.by_ (upd2 D0 u w 4611686018427387906) i (x.by_ i) b) < rkw x.by_ (upd2 D0 u w 4611686018427387906) i a b then tw (rkw x.by_ (upd2 D0 u w 4611686018427387906) i a (x.by_ i)) (rkw x.by_ (upd2 D0 u w 4611686018427387906) i (x.by_ i) b) else rkw x.by_ (upd2 D0 u w 4611686018427387906) i a b) = (if tw (rkw x.by_ D0 i a (x.by_ i)) (rkw x.by_ D0 i (x.by_ i) b) < rkw x.by_ D0 i a b then tw (rkw x.by_ D0 i a (x.by_ i)) (rkw x.by_ D0 i (x.by_ i) b) else rkw x.by_ D0 i a b)
    rw [ih a (x.by_ i) (fun e => n2 e.2), ih (x.by_ i) b (fun e => n1 e.1), ih a b h]
theorem lsr_but {x : Ix} (hok : x.Ok) {D0 : Mat} {u w : Nat} (hu : u < x.n) (hw : w < x.n) : ∀ i, i ≤ min (x.rk u) (x.rk w) → lsr x.by_ (upd2 D0 u w 4611686018427387906) u w i = lsr x.by_ D0 u w i
  | 0, _ => rfl
  | i + 1, hi => by
    have hrk := (hok.rk u hu).1
    have hb := hok.by_ i (by omega)
    have n1 : x.by_ i ≠ u := fun e => by have := hb.2; rw [e] at this; omega
    have n2 : x.by_ i ≠ w := fun e => by have := hb.2; rw [e] at this; omega
    have ih := lsr_but hok (D0 := D0) hu hw i (by omega)
    show (if tw (rkw x.by_ (upd2 D0 u w 4611686018427387906) i u (x.by_ i)) (rkw x.by_ (upd2 D0 u w 4611686018427387906) i (x.by_ i) w) < lsr x.by_ (upd2 D0 u w 4611686018427387906) u w i then tw (rkw x.by_ (upd2 D0 u w 4611686018427387906) i u (x.by_ i)) (rkw x.by_ (upd2 D0 u w 4611686018427387906) i (x.by_ i) w) else lsr x.by_ (upd2 D0 u w 4611686018427387906) u w i) = (if tw (rkw x.by_ D0 i u (x.by_ i)) (rkw x.by_ D0 i (x.by_ i) w) < lsr x.by_ D0 u w i then tw (rkw x.by_ D0 i u (x.by_ i)) (rkw x.by_ D0 i (x.by_ i) w) else lsr x.by_ D0 u w i)
    rw [rkw_but hok hu hw i (by omega) u (x.by_ i) (fun e => n2 e.2), rkw_but hok hu hw i (by omega) (x.by_ i) w (fun e => n1 e.1), ih]

/-- By way of lower ones, as the document says, and by rank: alike. -/
theorem btw_lsr {G : Gr} {x : Ix} (hok : x.Ok) (hn : G.n = x.n) (hw : G.Wt) {u w : Nat} (hu : u < x.n) (hww : w < x.n) (L : Nat → Bool) (hL : ∀ z, z < x.n → (L z = true ↔ x.rk z < min (x.rk u) (x.rk w))) :
    G.btw L u w = lsr x.by_ G.bst u w (min (x.rk u) (x.rk w)) := by
  have hB : MB G.n G.bst := fun a b _ _ => G.bst_b hw a b
  have hI := fwM_inv (L := L) hB G.n (Nat.le_refl _)
  obtain ⟨D, hD⟩ : ∃ D, fwM L G.n G.bst G.n = D := ⟨_, rfl⟩
  unfold Gr.btw
  rw [hD] at hI ⊢
  have hrk := (hok.rk u hu).1
  obtain ⟨r, hr⟩ : ∃ r, min (x.rk u) (x.rk w) = r := ⟨_, rfl⟩
  rw [hr] at hL ⊢
  have hrn : r ≤ x.n := by omega
  have hLby : ∀ i, i < r → L (x.by_ i) = true := fun i hi => by
    have hb := hok.by_ i (by omega)
    exact (hL _ hb.1).2 (by rw [hb.2]; exact hi)
  obtain ⟨hls1, _, hls3⟩ := lsA_le (p := pL L) (f := viaD G D u w) (n := G.n) G.n
  refine Int.le_antisymm ?_ ?_
  · rcases lsr_is (bf := x.by_) (D0 := G.bst) u w r with e | ⟨i, hi, e⟩
    · rw [e]; exact hls1
    · rw [e]
      have hv := (hok.by_ i (by omega)).1
      have hrb := rkw_b (bf := x.by_) (n := x.n) (fun r hr => (hok.by_ r hr).1) (D0 := G.bst) (fun i j _ _ => G.bst_b hw i j) i (by omega)
      refine Int.le_trans (cD_two hw hI (v := x.by_ i) (by omega) (hLby i hi)) ?_
      have hc := cD_rkw hok hn hw hI hrn hLby i (by omega)
      exact tw_mono (cD_b hw hI u (x.by_ i)).1 (cD_b hw hI (x.by_ i) w).1 (hc u _ hu hv) (hc _ w hv hww) (hrb u _ hu hv).2 (hrb _ w hv hww).2
  · rcases hls3 with e | ⟨p, q, hp, hq, hpq, e⟩
    · rw [e]; exact lsr_none _ _ _
    · rw [e]
      unfold pL at hpq
      simp only [Bool.and_eq_true] at hpq
      obtain ⟨D', hD'⟩ : ∃ D' : Mat, upd2 G.bst u w 4611686018427387906 = D' := ⟨_, rfl⟩
      have hDb : MB x.n D' := fun i j _ _ => by
        rw [← hD']; show Bd (if _ then _ else _); split
        · unfold Bd; omega
        · exact G.bst_b hw i j
      have hDe : ∀ a b, ¬ (a = u ∧ b = w) → D' a b = G.bst a b := fun a b h => by rw [← hD']; exact if_neg h
      have rb := rkw_b (bf := x.by_) (n := x.n) (fun r hr => (hok.by_ r hr).1) hDb r hrn
      have rlt : ∀ z, z < x.n → L z = true → x.rk z < r := fun z hz lz => (hL z hz).1 lz
      have hpu : p ≠ u := fun h => by have := rlt p (by omega) hpq.1; rw [h] at this; omega
      have hqu : q ≠ u := fun h => by have := rlt q (by omega) hpq.2; rw [h] at this; omega
      have hpw : p ≠ w := fun h => by have := rlt p (by omega) hpq.1; rw [h] at this; omega
      have s1 : rkw x.by_ D' r u p ≤ G.bst u p := by
        have := rkw_le (bf := x.by_) (D0 := D') u p r
        rw [hDe u p (fun h => hpw h.2)] at this
        exact this
      have s2 : rkw x.by_ D' r u q ≤ tw (rkw x.by_ D' r u p) (midD D p q) := by
        unfold midD
        by_cases hpq' : p = q
        · rw [if_pos hpq', tw_zero' (rb u p hu (by omega)), hpq']; exact Int.le_refl _
        · rw [if_neg hpq']
          refine hI.sound (fun z => rkw x.by_ D' r u z) (fun z hz _ => rb u z hu (by omega)) (fun a b ha hb la lb => ?_) p q hp hq hpq.1 hpq.2
          have hau : a ≠ u := fun h => by have := rlt a (by omega) la; rw [h] at this; omega
          have h1 := hok.rkw_tri hDb hrn (a := u) (m := a) (b := b) hu (by omega) (by omega) (rlt a (by omega) la)
          have h2 := rkw_le (bf := x.by_) (D0 := D') a b r
          rw [hDe a b (fun h => hau h.1)] at h2
          exact Int.le_trans h1 (tw_mono (rb u a hu (by omega)).1 (rb a b (by omega) (by omega)).1 (Int.le_refl _) h2 (rb u a hu (by omega)).2 (G.bst_b hw a b).2)
      have s3 : rkw x.by_ D' r u w ≤ tw (rkw x.by_ D' r u q) (G.bst q w) := by
        have h1 := hok.rkw_tri hDb hrn (a := u) (m := q) (b := w) hu (by omega) hww (rlt q (by omega) hpq.2)
        have h2 := rkw_le (bf := x.by_) (D0 := D') q w r
        rw [hDe q w (fun h => hqu h.1)] at h2
        exact Int.le_trans h1 (tw_mono (rb u q hu (by omega)).1 (rb q w (by omega) hww).1 (Int.le_refl _) h2 (rb u q hu (by omega)).2 (G.bst_b hw q w).2)
      have h0 : D' u w = 4611686018427387906 := by rw [← hD']; exact if_pos ⟨rfl, rfl⟩
      have s0 := rkw_min (bf := x.by_) (D0 := D') (a := u) (b := w) (by rw [h0]; omega) r
      rw [h0] at s0
      have hbut := lsr_but hok (D0 := G.bst) hu hww r (by omega)
      rw [hD'] at hbut
      have hnone := lsr_none (bf := x.by_) (D0 := G.bst) u w r
      rw [hbut] at s0
      have bm := mid_b hI hp hq
      have bq := G.bst_b hw q w
      have bp := G.bst_b hw u p
      have s4 : tw (rkw x.by_ D' r u q) (G.bst q w) ≤ viaD G D u w p q := by
        unfold viaD
        exact tw_mono (rb u q hu (by omega)).1 bq.1 (Int.le_trans s2 (tw_mono (rb u p hu (by omega)).1 bm.1 s1 (Int.le_refl _) bp.2 bm.2)) (Int.le_refl _) (tw_b bp bm).2 bq.2
      omega
theorem Whole.sets {G : Gr} {x : Ix} (h : Whole G x) (hok : x.Ok) (hn : G.n = x.n) (hw : G.Wt) {u w : Nat} (hu : u < x.n) (hww : w < x.n) (hne : u ≠ w) (L : Nat → Bool) (hL : ∀ z, z < x.n → (L z = true ↔ x.rk z < min (x.rk u) (x.rk w))) :
    (G.btw L u w < G.bst u w ∧ (x.ent u w).w = G.btw L u w ∧ (x.ent u w).a = -1 ∧ 0 ≤ (x.ent u w).m) ∨
    (¬ G.btw L u w < G.bst u w ∧ 0 ≤ (G.best (u : Nat) (w : Nat)).2 ∧ x.ent u w = ⟨(G.best (u : Nat) (w : Nat)).1, (G.best (u : Nat) (w : Nat)).2, -1⟩) ∨
    (¬ G.btw L u w < G.bst u w ∧ (G.best (u : Nat) (w : Nat)).2 = -1 ∧ x.ent u w = En.none) := by
  rw [btw_lsr hok hn hw hu hww L hL]
  obtain ⟨r, hr⟩ : ∃ r, min (x.rk u) (x.rk w) = r := ⟨_, rfl⟩
  rw [hr]
  obtain ⟨_, hs⟩ := h.rkw hok hw (r + 1) r u w (Nat.lt_succ_self r) hu hww hne hr
  have hle := fun i hi => lsr_le (bf := x.by_) (D0 := G.bst) u w r i hi
  have his := lsr_is (bf := x.by_) (D0 := G.bst) u w r
  have hnn := lsr_none (bf := x.by_) (D0 := G.bst) u w r
  have hbe : G.bst u w = (G.best (u : Nat) (w : Nat)).1 := rfl
  have hb2 := (G.bst_b hw u w).2
  rcases h.cases hu hww hne with ⟨e, eb, hall⟩ | ⟨e, h0, hall⟩ | ⟨j, hc, hlt⟩
  · refine .inr (.inr ⟨?_, by rw [eb], e⟩)
    rw [hbe, eb]
    show ¬ _ < (4611686018427387906 : Int)
    rcases his with e' | ⟨i, hi, e'⟩
    · rw [e']; omega
    · have := hall i (by omega)
      rw [hs i hi, ← e'] at this
      omega
  · refine .inr (.inl ⟨?_, h0, e⟩)
    rcases his with e' | ⟨i, hi, e'⟩
    · rw [e']; omega
    · have := hall i (by omega)
      rw [hs i hi, ← e'] at this
      omega
  · have hj : j < r := by have := hc.lo; omega
    have h1 := hle j hj
    rw [← hs j hj] at h1
    have h2 : lsr x.by_ G.bst u w r = x.sum2 (u : Nat) (w : Nat) j := by
      rcases his with e' | ⟨i, hi, e'⟩
      · have := hc.lt; omega
      · have h2 := hc.le i (by omega)
        rw [hs i hi, ← e'] at h2
        omega
    refine .inl ⟨by rw [h2, hbe]; exact hlt, by rw [h2]; exact hc.w, hc.a, by rw [hc.m]; omega⟩

end Go.Proofs.YtoepbhacpidcbaaGreatDoor
