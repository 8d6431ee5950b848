/- How far it is by way of chosen vertices, made nearer vertex by vertex in place; and as it is corrected: the same. Plain. -/
import Derived.Test.YtpkocidcfnlbiaaDoorThz
import Derived.Test.YtpkocidcfnlbiaaDoorThs
import Derived.Test.YtpkocidcfnlbiaaDoorBW
import Derived.Test.YtpkocidcfnlbiaaDoorWh
set_option linter.unusedVariables false
set_option linter.unusedSimpArgs false
namespace Go.Proofs.YtpkocidcfnlbiaaDoor
open Go.RowKit Go.Deep

def tw (a b : Int) : Int := if a = 4611686018427387906 ∨ b = 4611686018427387906 then 4611686018427387906 else if 4611686018427387904 < a + b then 4611686018427387905 else a + b
abbrev Bd (a : Int) : Prop := 0 ≤ a ∧ a ≤ 4611686018427387906
theorem add1_0 {d : Int} (hd : Bd d) : add1 0 d = d := by rw [add1_zero, norm_id hd]
theorem ad_tw {d w : Int} (hd : Bd d) (hw : Bd w) : ad d w = tw d w := by
  unfold ad tw
  rw [add1_0 hd]
  unfold add1
  rw [norm_id hw]
  have := hd.1
  have := hd.2
  have := hw.1
  have := hw.2
  (repeat' split) <;> omega
theorem tw_b {a b : Int} (ha : Bd a) (hb : Bd b) : Bd (tw a b) := by
  have := ha.1; have := ha.2; have := hb.1; have := hb.2
  unfold tw Bd
  (repeat' split) <;> omega
theorem tw_comm (a b : Int) : tw a b = tw b a := by
  unfold tw
  (repeat' split) <;> omega
theorem tw_assoc {a b c : Int} (ha : Bd a) (hb : Bd b) (hc : Bd c) : tw (tw a b) c = tw a (tw b c) := by
  have := ha.1; have := ha.2; have := hb.1; have := hb.2; have := hc.1; have := hc.2
  unfold tw
  (repeat' split) <;> omega
theorem tw_mono {a b c d : Int} (ha : 0 ≤ a) (hc : 0 ≤ c) (h1 : a ≤ b) (h2 : c ≤ d) (hb : b ≤ 4611686018427387906) (hd : d ≤ 4611686018427387906) : tw a c ≤ tw b d := by
  unfold tw
  (repeat' split) <;> omega
theorem tw_le {a b : Int} (ha : Bd a) (hb : Bd b) : a ≤ tw a b := by
  have := ha.1; have := ha.2; have := hb.1; have := hb.2
  unfold tw
  (repeat' split) <;> omega
theorem tw_zero {a : Int} (ha : Bd a) : tw a 0 = a ∨ (a = 4611686018427387905 ∧ tw a 0 = 4611686018427387905) := by
  have := ha.1; have := ha.2
  unfold tw
  (repeat' split) <;> omega
theorem tw_zero' {a : Int} (ha : Bd a) : tw a 0 = a := by
  have := ha.1; have := ha.2
  unfold tw
  (repeat' split) <;> omega

/-- The least of those that are chosen, or None. -/
def mn (p : Nat → Bool) (f : Nat → Int) : Nat → Int
  | 0 => 4611686018427387906
  | k + 1 => if p k = true ∧ f k < mn p f k then f k else mn p f k
theorem mn_b {p : Nat → Bool} {f : Nat → Int} : ∀ k, (∀ i, i < k → p i = true → Bd (f i)) → Bd (mn p f k)
  | 0, _ => by unfold mn Bd; omega
  | k + 1, h => by
    unfold mn
    split
    · next hc => exact h k (Nat.lt_succ_self k) hc.1
    · exact mn_b k (fun i hi => h i (by omega))
theorem mn_none {p : Nat → Bool} {f : Nat → Int} : ∀ k, mn p f k ≤ 4611686018427387906
  | 0 => by unfold mn; omega
  | k + 1 => by
    have := mn_none (p := p) (f := f) k
    unfold mn; split <;> omega
theorem mn_le {p : Nat → Bool} {f : Nat → Int} : ∀ k i, i < k → p i = true → mn p f k ≤ f i
  | 0, i, h, _ => absurd h (by omega)
  | k + 1, i, h, hp => by
    unfold mn
    by_cases e : i = k
    · subst e
      split
      · omega
      · next hc => have : ¬ (f i < mn p f i) := fun hh => hc ⟨hp, hh⟩
                   omega
    · have := mn_le (p := p) (f := f) k i (by omega) hp
      split <;> omega
theorem mn_is {p : Nat → Bool} {f : Nat → Int} : ∀ k, mn p f k = 4611686018427387906 ∨ ∃ i, i < k ∧ p i = true ∧ mn p f k = f i
  | 0 => .inl rfl
  | k + 1 => by
    unfold mn
    split
    · next hc => exact .inr ⟨k, Nat.lt_succ_self k, hc.1, rfl⟩
    · rcases mn_is (p := p) (f := f) k with e | ⟨i, hi, h1, h2⟩
      · exact .inl e
      · exact .inr ⟨i, by omega, h1, h2⟩

abbrev Mat := Nat → Nat → Int
def upd2 (D : Mat) (a b : Nat) (z : Int) : Mat := fun i j => if i = a ∧ j = b then z else D i j
def fw1 (L : Nat → Bool) (m a b : Nat) (D : Mat) : Mat := if (L m = true ∧ L a = true ∧ L b = true) ∧ tw (D a m) (D m b) < D a b then upd2 D a b (tw (D a m) (D m b)) else D
def fwB (L : Nat → Bool) (m a : Nat) (D : Mat) : Nat → Mat
  | 0 => D
  | b + 1 => fw1 L m a b (fwB L m a D b)
def fwA (L : Nat → Bool) (n m : Nat) (D : Mat) : Nat → Mat
  | 0 => D
  | a + 1 => fwB L m a (fwA L n m D a) n
def fwM (L : Nat → Bool) (n : Nat) (D : Mat) : Nat → Mat
  | 0 => D
  | m + 1 => fwA L n m (fwM L n D m) n
def par (L : Nat → Bool) (m : Nat) (D : Mat) : Mat := fun i j => if (L m = true ∧ L i = true ∧ L j = true) ∧ tw (D i m) (D m j) < D i j then tw (D i m) (D m j) else D i j
def MB (n : Nat) (D : Mat) : Prop := ∀ i j, i < n → j < n → Bd (D i j)
theorem par_col {L : Nat → Bool} {n m : Nat} {D : Mat} (hD : MB n D) (hm : m < n) {i : Nat} (hi : i < n) : par L m D i m = D i m := by
  unfold par
  rw [if_neg (fun h => by have := tw_le (hD i m hi hm) (hD m m hm hm); omega)]
theorem par_row {L : Nat → Bool} {n m : Nat} {D : Mat} (hD : MB n D) (hm : m < n) {j : Nat} (hj : j < n) : par L m D m j = D m j := by
  unfold par
  rw [if_neg (fun h => by have := tw_le (hD m j hm hj) (hD m m hm hm); rw [tw_comm] at this; omega)]
theorem fwB_eq {L : Nat → Bool} {n m a : Nat} {D : Mat} (hD : MB n D) (hm : m < n) (ha : a < n) : ∀ k, k ≤ n → ∀ i j, i < n → j < n → fwB L m a D k i j = if i = a ∧ j < k then par L m D i j else D i j
  | 0, _, i, j, _, _ => by rw [if_neg (by omega)]; rfl
  | k + 1, hk, i, j, hi, hj => by
    have ih := fwB_eq (L := L) hD hm ha k (by omega)
    have e1 : fwB L m a D k a m = D a m := by
      rw [ih a m ha hm]; split
      · exact par_col hD hm ha
      · rfl
    have e2 : fwB L m a D k m k = D m k := by rw [ih m k hm (by omega), if_neg (by omega)]
    have e3 : fwB L m a D k a k = D a k := by rw [ih a k ha (by omega), if_neg (by omega)]
    show fw1 L m a k (fwB L m a D k) i j = _
    unfold fw1
    rw [e1, e2, e3]
    by_cases hc : (L m = true ∧ L a = true ∧ L k = true) ∧ tw (D a m) (D m k) < D a k
    · rw [if_pos hc]
      unfold upd2
      by_cases e : i = a ∧ j = k
      · obtain ⟨rfl, rfl⟩ := e
        rw [if_pos ⟨rfl, rfl⟩, if_pos ⟨rfl, Nat.lt_succ_self _⟩]
        unfold par; rw [if_pos hc]
      · rw [if_neg e, ih i j hi hj]
        by_cases e' : i = a ∧ j < k
        · rw [if_pos e', if_pos (by omega)]
        · rw [if_neg e', if_neg (by omega)]
    · rw [if_neg hc, ih i j hi hj]
      by_cases e : i = a ∧ j = k
      · obtain ⟨rfl, rfl⟩ := e
        rw [if_neg (by omega), if_pos ⟨rfl, Nat.lt_succ_self _⟩]
        unfold par; rw [if_neg hc]
      · by_cases e' : i = a ∧ j < k
        · rw [if_pos e', if_pos (by omega)]
        · rw [if_neg e', if_neg (by omega)]
theorem par_b {L : Nat → Bool} {n m : Nat} {D : Mat} (hD : MB n D) (hm : m < n) : MB n (par L m D) := fun i j hi hj => by
  unfold par
  split
  · exact tw_b (hD i m hi hm) (hD m j hm hj)
  · exact hD i j hi hj
theorem fwA_eq {L : Nat → Bool} {n m : Nat} {D : Mat} (hD : MB n D) (hm : m < n) : ∀ k, k ≤ n → ∀ i j, i < n → j < n → fwA L n m D k i j = if i < k then par L m D i j else D i j
  | 0, _, i, j, _, _ => by rw [if_neg (by omega)]; rfl
  | k + 1, hk, i, j, hi, hj => by
    have ih := fwA_eq (L := L) hD hm k (by omega)
    have hB : MB n (fwA L n m D k) := fun x y hx hy => by
      rw [ih x y hx hy]; split
      · exact par_b hD hm x y hx hy
      · exact hD x y hx hy
    have e := fwB_eq (L := L) hB hm (show k < n by omega) n (Nat.le_refl n) i j hi hj
    show fwB L m k (fwA L n m D k) n i j = _
    rw [e]
    by_cases hik : i = k
    · subst hik
      rw [if_pos ⟨rfl, hj⟩, if_pos (Nat.lt_succ_self _)]
      have q1 : fwA L n m D i i m = D i m := by rw [ih i m hi hm, if_neg (Nat.lt_irrefl _)]
      have q2 : fwA L n m D i i j = D i j := by rw [ih i j hi hj, if_neg (Nat.lt_irrefl _)]
      have q3 : fwA L n m D i m j = D m j := by
        rw [ih m j hm hj]; split
        · exact par_row hD hm hj
        · rfl
      unfold par
      rw [q1, q2, q3]
    · rw [if_neg (by omega), ih i j hi hj]
      by_cases h2 : i < k
      · rw [if_pos h2, if_pos (by omega)]
      · rw [if_neg h2, if_neg (by omega)]

/-- What holds behind k rounds. -/
structure FwI (L : Nat → Bool) (n : Nat) (D0 D : Mat) (k : Nat) : Prop where
  b : MB n D
  le : ∀ i j, i < n → j < n → D i j ≤ D0 i j
  tri : ∀ m, m < k → m < n → L m = true → ∀ i j, i < n → j < n → L i = true → L j = true → D i j ≤ tw (D i m) (D m j)
  sound : ∀ X : Nat → Int, (∀ i, i < n → L i = true → Bd (X i)) → (∀ i j, i < n → j < n → L i = true → L j = true → X j ≤ tw (X i) (D0 i j)) → ∀ i j, i < n → j < n → L i = true → L j = true → X j ≤ tw (X i) (D i j)
theorem FwI.step {L : Nat → Bool} {n : Nat} {D0 D D' : Mat} {k : Nat} (h : FwI L n D0 D k) (hk : k < n) (he : ∀ i j, i < n → j < n → D' i j = par L k D i j) : FwI L n D0 D' (k + 1) := by
  have pb := par_b (L := L) h.b hk
  have ple : ∀ i j, i < n → j < n → par L k D i j ≤ D i j := fun i j hi hj => by unfold par; split <;> omega
  refine ⟨fun i j hi hj => by rw [he i j hi hj]; exact pb i j hi hj, fun i j hi hj => by rw [he i j hi hj]; exact Int.le_trans (ple i j hi hj) (h.le i j hi hj), fun m hm hmn hLm i j hi hj hLi hLj => ?_, fun X hX hXs i j hi hj hLi hLj => ?_⟩
  · rw [he i j hi hj, he i m hi hmn, he m j hmn hj]
    by_cases hLk : L k = true
    · have up : par L k D i j ≤ tw (D i k) (D k j) := by
        unfold par
        by_cases hc : tw (D i k) (D k j) < D i j
        · rw [if_pos ⟨⟨hLk, hLi, hLj⟩, hc⟩]; exact Int.le_refl _
        · rw [if_neg (fun hh => hc hh.2)]; omega
      by_cases emk : m = k
      · subst emk
        rw [par_col h.b hk hi, par_row h.b hk hj]
        exact up
      · have hmk : m < k := by omega
        have t1 := h.tri m hmk hmn hLm
        have b := h.b
        have bik := b i k hi hk
        have bkj := b k j hk hj
        have bim := b i m hi hmn
        have bmj := b m j hmn hj
        have bkm := b k m hk hmn
        have bmk := b m k hmn hk
        have pp : ∀ x y, L x = true → L y = true → (par L k D x y = tw (D x k) (D k y)) ∨ par L k D x y = D x y := fun x y hx hy => by
          unfold par; split
          · exact .inl rfl
          · exact .inr rfl
        rcases pp i m hLi hLm with c1 | c1
        · rw [c1]
          rcases pp m j hLm hLj with c2 | c2
          · rw [c2]
            refine Int.le_trans up ?_
            have q1 := tw_le bik bkm
            have q2 : D k j ≤ tw (D m k) (D k j) := by rw [tw_comm]; exact tw_le bkj bmk
            exact tw_mono bik.1 bkj.1 q1 q2 (tw_b bik bkm).2 (tw_b bmk bkj).2
          · rw [c2]
            refine Int.le_trans up ?_
            rw [tw_assoc bik bkm bmj]
            exact tw_mono bik.1 bkj.1 (Int.le_refl _) (t1 k j hk hj hLk hLj) bik.2 (tw_b bkm bmj).2
        · rw [c1]
          rcases pp m j hLm hLj with c2 | c2
          · rw [c2]
            refine Int.le_trans up ?_
            rw [← tw_assoc bim bmk bkj]
            exact tw_mono bik.1 bkj.1 (t1 i k hi hk hLi hLk) (Int.le_refl _) (tw_b bim bmk).2 bkj.2
          · rw [c2]
            refine Int.le_trans ?_ (t1 i j hi hj hLi hLj)
            exact ple i j hi hj
    · have e : ∀ x y, par L k D x y = D x y := fun x y => by unfold par; rw [if_neg (fun hh => hLk hh.1.1)]
      have hmk : m < k := by
        rcases Nat.lt_or_ge m k with h' | h'
        · exact h'
        · have : m = k := by omega
          subst this
          exact absurd hLm hLk
      rw [e, e, e]
      exact h.tri m hmk hmn hLm i j hi hj hLi hLj
  · rw [he i j hi hj]
    unfold par
    split
    · next hc =>
      have s1 := h.sound X hX hXs i k hi hk hLi hc.1.1
      have s2 := h.sound X hX hXs k j hk hj hc.1.1 hLj
      have xk := hX k hk hc.1.1
      have xi := hX i hi hLi
      have bik := h.b i k hi hk
      have bkj := h.b k j hk hj
      refine Int.le_trans s2 ?_
      rw [← tw_assoc xi bik bkj]
      exact tw_mono xk.1 bkj.1 s1 (Int.le_refl _) (tw_b xi bik).2 bkj.2
    · exact h.sound X hX hXs i j hi hj hLi hLj
theorem FwI.first {L : Nat → Bool} {n : Nat} {D : Mat} (hD : MB n D) : FwI L n D D 0 :=
  ⟨hD, fun _ _ _ _ => Int.le_refl _, fun m hm => absurd hm (by omega), fun X _ h => h⟩
theorem fwM_inv {L : Nat → Bool} {n : Nat} {D : Mat} (hD : MB n D) : ∀ k, k ≤ n → FwI L n D (fwM L n D k) k
  | 0, _ => FwI.first hD
  | k + 1, hk => by
    have ih := fwM_inv (L := L) hD k (by omega)
    exact ih.step (by omega) (fun i j hi hj => by
      show fwA L n k (fwM L n D k) n i j = _
      rw [fwA_eq ih.b (by omega) n (Nat.le_refl n) i j hi hj, if_pos hi])

end Go.Proofs.YtpkocidcfnlbiaaDoor

/- The law of BuildBetween: how far it is by way of lower ones, corrected or made nearer vertex by vertex. Plain. -/
set_option linter.unusedVariables false
set_option linter.unusedSimpArgs false
namespace Go.Proofs.YtpkocidcfnlbiaaDoor
open Go.RowKit Go.Deep

def lsB (p : Nat → Nat → Bool) (f : Mat) (a : Nat) (acc : Int) : Nat → Int
  | 0 => acc
  | b + 1 => if p a b = true ∧ f a b < lsB p f a acc b then f a b else lsB p f a acc b
def lsA (p : Nat → Nat → Bool) (f : Mat) (n : Nat) : Nat → Int
  | 0 => 4611686018427387906
  | a + 1 => lsB p f a (lsA p f n a) n
theorem lsB_le {p : Nat → Nat → Bool} {f : Mat} {a : Nat} {acc : Int} : ∀ k, lsB p f a acc k ≤ acc ∧ (∀ b, b < k → p a b = true → lsB p f a acc k ≤ f a b) ∧ (lsB p f a acc k = acc ∨ ∃ b, b < k ∧ p a b = true ∧ lsB p f a acc k = f a b)
  | 0 => ⟨Int.le_refl _, fun b h => absurd h (by omega), .inl rfl⟩
  | k + 1 => by
    obtain ⟨h1, h2, h3⟩ := lsB_le (p := p) (f := f) (a := a) (acc := acc) k
    unfold lsB
    split
    · next hc =>
      refine ⟨by omega, fun b hb hp => ?_, .inr ⟨k, Nat.lt_succ_self k, hc.1, rfl⟩⟩
      by_cases e : b = k
      · rw [e]; exact Int.le_refl _
      · have := h2 b (by omega) hp; omega
    · next hc =>
      refine ⟨h1, fun b hb hp => ?_, ?_⟩
      · by_cases e : b = k
        · subst e
          have : ¬ (f a b < lsB p f a acc b) := fun hh => hc ⟨hp, hh⟩
          omega
        · exact h2 b (by omega) hp
      · rcases h3 with e | ⟨b, hb, e⟩
        · exact .inl e
        · exact .inr ⟨b, by omega, e⟩
theorem lsA_le {p : Nat → Nat → Bool} {f : Mat} {n : Nat} : ∀ k, lsA p f n k ≤ 4611686018427387906 ∧ (∀ a b, a < k → b < n → p a b = true → lsA p f n k ≤ f a b) ∧ (lsA p f n k = 4611686018427387906 ∨ ∃ a b, a < k ∧ b < n ∧ p a b = true ∧ lsA p f n k = f a b)
  | 0 => ⟨Int.le_refl _, fun a b h => absurd h (by omega), .inl rfl⟩
  | k + 1 => by
    obtain ⟨h1, h2, h3⟩ := lsA_le (p := p) (f := f) (n := n) k
    obtain ⟨g1, g2, g3⟩ := lsB_le (p := p) (f := f) (a := k) (acc := lsA p f n k) n
    refine ⟨Int.le_trans g1 h1, fun a b ha hb hp => ?_, ?_⟩
    · by_cases e : a = k
      · rw [e]; rw [e] at hp; exact g2 b hb hp
      · exact Int.le_trans g1 (h2 a b (by omega) hb hp)
    · rcases g3 with e | ⟨b, hb, hp, e⟩
      · rcases h3 with e' | ⟨a, b, ha, hb, hp, e'⟩
        · exact .inl (e.trans e')
        · exact .inr ⟨a, b, by omega, hb, hp, e.trans e'⟩
      · exact .inr ⟨k, b, Nat.lt_succ_self k, hb, hp, e⟩

def Gr.bst (G : Gr) : Mat := fun a b => (G.best (a : Nat) (b : Nat)).1
theorem Gr.bst_b {G : Gr} (hw : G.Wt) (a b : Nat) : Bd (G.bst a b) := by
  unfold Gr.bst Bd
  rcases G.best_wt hw (a : Nat) (b : Nat) with e | ⟨h1, h2, _⟩
  · rw [e]; show (0 : Int) ≤ 4611686018427387906 ∧ (4611686018427387906 : Int) ≤ 4611686018427387906; omega
  · omega
theorem Gr.bst_arc {G : Gr} {k a b : Nat} (hk : k < 64) (htk : G.tk k = true) (hc : (G.arc k).c = false) (ht : (G.arc k).t = (a : Nat)) (hh : (G.arc k).h = (b : Nat)) : G.bst a b ≤ (G.arc k).w := by
  have := G.best_least hk htk hc
  rw [ht, hh] at this
  exact this
theorem Gr.bst_is (G : Gr) (a b : Nat) : G.bst a b = 4611686018427387906 ∨ ∃ k : Nat, k < 64 ∧ G.tk k = true ∧ (G.arc k).t = (a : Nat) ∧ (G.arc k).h = (b : Nat) ∧ (G.arc k).c = false ∧ G.bst a b = (G.arc k).w := by
  rcases G.best_is (a : Nat) (b : Nat) with e | ⟨k, h1, h2, h3, h4, h5, _, e⟩
  · left; unfold Gr.bst; rw [e]
  · right; exact ⟨k, h1, h2, h3, h4, h5, by unfold Gr.bst; rw [e]⟩
theorem none_tw {a : Int} : tw a 4611686018427387906 = 4611686018427387906 := by unfold tw; rw [if_pos (.inr rfl)]
theorem tw_none {a : Int} : tw 4611686018427387906 a = 4611686018427387906 := by unfold tw; rw [if_pos (.inl rfl)]

def midD (D : Mat) (a b : Nat) : Int := if a = b then 0 else D a b
def viaD (G : Gr) (D : Mat) (u w a b : Nat) : Int := tw (tw (G.bst u a) (midD D a b)) (G.bst b w)
def pL (L : Nat → Bool) (a b : Nat) : Bool := L a && L b
/-- The document's answer. -/
def Gr.btw (G : Gr) (L : Nat → Bool) (u w : Nat) : Int := lsA (pL L) (viaD G (fwM L G.n G.bst G.n) u w) G.n G.n

theorem btw_law {G : Gr} (ho : G.Ok) (hw : G.Wt) {L : Nat → Bool} {u w : Nat} (hu : u < G.n) (hww : w < G.n) {far : Nat → Int} (hf : SFar G.n (edges G L) ((edges G L u).map fun e => (e.1, ad 0 e.2)) far) {M : Int}
    (h0 : M ≤ 4611686018427387906) (h1 : ∀ v k, v < G.n → L v = true → k < 64 → G.tk k = true → (G.arc k).c = false → (G.arc k).t = (v : Nat) → (G.arc k).h = (w : Nat) → M ≤ ad (far v) (G.arc k).w)
    (h2 : M = 4611686018427387906 ∨ ∃ v k, v < G.n ∧ L v = true ∧ k < 64 ∧ G.tk k = true ∧ (G.arc k).c = false ∧ (G.arc k).t = (v : Nat) ∧ (G.arc k).h = (w : Nat) ∧ M = ad (far v) (G.arc k).w) : M = G.btw L u w := by
  have hB : MB G.n G.bst := fun a b _ _ => G.bst_b hw a b
  have hI := fwM_inv (L := L) hB G.n (Nat.le_refl _)
  obtain ⟨D, hD⟩ : ∃ D, fwM L G.n G.bst G.n = D := ⟨_, rfl⟩
  unfold Gr.btw
  rw [hD] at hI ⊢
  obtain ⟨l1, l2, l3⟩ := lsA_le (p := pL L) (f := viaD G D u w) (n := G.n) G.n
  have hmid : ∀ a b, a < G.n → b < G.n → Bd (midD D a b) := fun a b ha hb => by
    unfold midD; split
    · unfold Bd; omega
    · exact hI.b a b ha hb
  have hwk : ∀ k, k < 64 → G.tk k = true → Bd (G.arc k).w := fun k hk htk => by have := hw k hk htk; unfold Bd; omega
  have had : ∀ v k, v < G.n → k < 64 → G.tk k = true → ad (far v) (G.arc k).w = tw (far v) (G.arc k).w := fun v k hv hk htk => ad_tw (hf.rng v hv) (hwk k hk htk)
  have had0 : ∀ k, k < 64 → G.tk k = true → ad 0 (G.arc k).w = (G.arc k).w := fun k hk htk => by rw [ad_tw (by unfold Bd; omega) (hwk k hk htk), tw_comm, tw_zero' (hwk k hk htk)]
  refine Int.le_antisymm ?_ ?_
  · -- what is corrected is no farther
    rcases l3 with e | ⟨a, b, ha, hb, hp, e⟩
    · rw [e]; exact h0
    · rw [e]
      have hLa : L a = true := by unfold pL at hp; simp at hp; exact hp.1
      have hLb : L b = true := by unfold pL at hp; simp at hp; exact hp.2
      have f1 : far a ≤ G.bst u a := by
        rcases G.bst_is u a with e | ⟨k, q1, q2, q3, q4, q5, e⟩
        · rw [e]; exact (hf.rng a ha).2
        · have hm : (a, (G.arc k).w) ∈ edges G L u := (edges_mem _ _ _ _).2 ⟨k, q1, q2, q3, q5, by rw [q4]; simpa using hLa, by rw [q4]; rfl⟩
          have := hf.ini _ (List.mem_map.2 ⟨_, hm, rfl⟩)
          rw [e]
          simp only at this
          rw [had0 k q1 q2] at this
          exact this
      have f2 : far b ≤ tw (far a) (midD D a b) := by
        unfold midD
        by_cases hab : a = b
        · rw [if_pos hab, tw_zero' (hf.rng a ha), hab]; exact Int.le_refl _
        · rw [if_neg hab]
          refine hI.sound far (fun i hi _ => hf.rng i hi) (fun i j hi hj hLi hLj => ?_) a b ha hb hLa hLb
          rcases G.bst_is i j with e | ⟨k, q1, q2, q3, q4, q5, e⟩
          · rw [e, none_tw]; exact (hf.rng j hj).2
          · have hm : (j, (G.arc k).w) ∈ edges G L i := (edges_mem _ _ _ _).2 ⟨k, q1, q2, q3, q5, by rw [q4]; simpa using hLj, by rw [q4]; rfl⟩
            have := hf.out i hi _ hm
            simp only at this
            rw [had i k hi q1 q2] at this
            rw [e]; exact this
      have f3 : M ≤ tw (far b) (G.bst b w) := by
        rcases G.bst_is b w with e | ⟨k, q1, q2, q3, q4, q5, e⟩
        · rw [e, none_tw]; exact h0
        · have := h1 b k hb hLb q1 q2 q5 q3 q4
          rw [had b k hb q1 q2] at this
          rw [e]; exact this
      have ra := hf.rng a ha
      have rb := hf.rng b hb
      have b1 := G.bst_b hw u a
      have b2 := G.bst_b hw b w
      have b3 := hmid a b ha hb
      refine Int.le_trans f3 ?_
      unfold viaD
      refine tw_mono rb.1 b2.1 (Int.le_trans f2 (tw_mono ra.1 b3.1 f1 (Int.le_refl _) b1.2 b3.2)) (Int.le_refl _) (tw_b b1 b3).2 b2.2
  · -- what is made nearer is no farther
    rcases h2 with e | ⟨v, k, hv, hLv, hk, htk, hc, ht, hh, e⟩
    · rw [e]; exact l1
    · rw [e]
      obtain ⟨F, hF⟩ : ∃ F : Nat → Int, F = fun x => if L x = true then mn L (fun a => tw (G.bst u a) (midD D a x)) G.n else 4611686018427387906 := ⟨_, rfl⟩
      have hFb : ∀ x, x < G.n → Bd (F x) := fun x hx => by
        rw [hF]; show Bd (if L x = true then _ else _)
        split
        · exact mn_b _ (fun a ha _ => tw_b (G.bst_b hw u a) (hmid a x ha hx))
        · unfold Bd; omega
      have hgood : SGood G.n (edges G L) ((edges G L u).map fun e => (e.1, ad 0 e.2)) F := by
        refine ⟨fun x => ?_, fun e he => ?_, fun x hx e he d hd1 hd2 hd3 => ?_⟩
        · rw [hF]; show (if L x = true then _ else _) ≤ (4611686018427387906 : Int)
          split
          · exact mn_none _
          · exact Int.le_refl _
        · obtain ⟨e', he', rfl⟩ := List.mem_map.1 he
          obtain ⟨i, q1, q2, q3, q4, q5, rfl⟩ := (edges_mem _ _ _ _).1 he'
          show F (G.arc i).h.toNat ≤ ad 0 (G.arc i).w
          obtain ⟨_, _, a, b⟩ := ho.arc i q1 q2
          rw [had0 i q1 q2, hF]
          show (if L (G.arc i).h.toNat = true then _ else _) ≤ (G.arc i).w
          rw [if_pos q5]
          refine Int.le_trans (mn_le G.n (G.arc i).h.toNat (by omega) q5) ?_
          show tw (G.bst u (G.arc i).h.toNat) (midD D _ _) ≤ _
          unfold midD
          rw [if_pos rfl, tw_zero' (G.bst_b hw _ _)]
          exact G.bst_arc q1 q2 q4 q3 (by omega)
        · obtain ⟨i, q1, q2, q3, q4, q5, rfl⟩ := (edges_mem _ _ _ _).1 he
          show F (G.arc i).h.toNat ≤ ad d (G.arc i).w
          obtain ⟨_, _, a, b⟩ := ho.arc i q1 q2
          have hwi := hwk i q1 q2
          rw [ad_tw ⟨hd2, hd3⟩ hwi]
          have hFh : F (G.arc i).h.toNat = mn L (fun a => tw (G.bst u a) (midD D a (G.arc i).h.toNat)) G.n := by rw [hF]; exact if_pos q5
          by_cases hLx : L x = true
          · have hFx : F x = mn L (fun a => tw (G.bst u a) (midD D a x)) G.n := by rw [hF]; exact if_pos hLx
            rcases mn_is (p := L) (f := fun a => tw (G.bst u a) (midD D a x)) G.n with e | ⟨a', ha', hLa', e⟩
            · have : d = 4611686018427387906 := by rw [hFx, e] at hd1; omega
              rw [this, tw_none, hFh]; exact mn_none _
            · rw [hFh]
              refine Int.le_trans (mn_le G.n a' ha' hLa') ?_
              rw [hFx, e] at hd1
              have bm := hmid a' x ha' hx
              have bh := hmid a' (G.arc i).h.toNat ha' (by omega)
              have bu := G.bst_b hw u a'
              have key : midD D a' (G.arc i).h.toNat ≤ tw (midD D a' x) (G.arc i).w := by
                by_cases e1 : a' = (G.arc i).h.toNat
                · have : midD D a' (G.arc i).h.toNat = 0 := if_pos e1
                  rw [this]; exact (tw_b bm hwi).1
                · have m1 : midD D a' (G.arc i).h.toNat = D a' (G.arc i).h.toNat := if_neg e1
                  have arc1 : D x (G.arc i).h.toNat ≤ (G.arc i).w := Int.le_trans (hI.le x _ hx (by omega)) (G.bst_arc q1 q2 q4 q3 (by omega))
                  rw [m1]
                  by_cases e2 : a' = x
                  · have m2 : midD D a' x = 0 := if_pos e2
                    rw [m2, tw_comm, tw_zero' hwi, e2]; exact arc1
                  · have m2 : midD D a' x = D a' x := if_neg e2
                    rw [m2]
                    have bb := hI.b a' x ha' hx
                    have bc := hI.b x (G.arc i).h.toNat hx (by omega)
                    exact Int.le_trans (hI.tri x hx hx hLx a' _ ha' (by omega) hLa' q5) (tw_mono bb.1 bc.1 (Int.le_refl _) arc1 bb.2 hwi.2)
              show tw (G.bst u a') (midD D a' (G.arc i).h.toNat) ≤ tw d (G.arc i).w
              refine Int.le_trans (tw_mono bu.1 bh.1 (Int.le_refl _) key bu.2 (tw_b bm hwi).2) ?_
              rw [← tw_assoc bu bm hwi]
              exact tw_mono (tw_b bu bm).1 hwi.1 hd1 (Int.le_refl _) hd3 hwi.2
          · have hFx : F x = 4611686018427387906 := by rw [hF]; exact if_neg hLx
            have : d = 4611686018427387906 := by omega
            rw [this, tw_none, hFh]; exact mn_none _
      have hlow := hf.low F hgood v hv
      have hFv : F v = mn L (fun a => tw (G.bst u a) (midD D a v)) G.n := by rw [hF]; exact if_pos hLv
      have hwi := hwk k hk htk
      have rv := hf.rng v hv
      rw [had v k hv hk htk]
      rcases mn_is (p := L) (f := fun a => tw (G.bst u a) (midD D a v)) G.n with e | ⟨a, ha, hLa, e⟩
      · have : far v = 4611686018427387906 := by rw [hFv, e] at hlow; omega
        rw [this, tw_none]; exact l1
      · rw [hFv, e] at hlow
        refine Int.le_trans (l2 a v ha hv (by unfold pL; rw [hLa, hLv]; rfl)) ?_
        unfold viaD
        have b1 := tw_b (G.bst_b hw u a) (hmid a v ha hv)
        exact tw_mono b1.1 (G.bst_b hw v w).1 hlow (G.bst_arc hk htk hc ht hh) rv.2 hwi.2

end Go.Proofs.YtpkocidcfnlbiaaDoor

/- build.Between: its closure; walked. -/
set_option linter.unusedVariables false
set_option linter.unusedSimpArgs false
namespace Go.Proofs.YtpkocidcfnlbiaaDoor
open Go.RowKit Go.Shelf Go.Deep

attribute [local go_sem] Oper.semAt_some

def lstep (G : Gr) (L : Nat → Bool) (far : Nat → Int) (w v : Nat) (acc : Int) (z : Id64) : Int :=
  if (G.arc z.1.toNat).h = (w : Nat) ∧ (G.arc z.1.toNat).c = false ∧ L v = true then mi2 acc (ad (far v) (G.arc z.1.toNat).w) else acc
def lrow (G : Gr) (L : Nat → Bool) (far : Nat → Int) (w v : Nat) (acc : Int) (pre : List Id64) : Int := pre.foldl (lstep G L far w v) acc
theorem lrow_snoc (G : Gr) (L : Nat → Bool) (far : Nat → Int) (w v : Nat) (acc : Int) (pre : List Id64) (z : Id64) : lrow G L far w v acc (pre ++ [z]) = lstep G L far w v (lrow G L far w v acc pre) z := by simp [lrow]
def lall (G : Gr) (L : Nat → Bool) (far : Nat → Int) (w : Nat) : Nat → Int
  | 0 => 4611686018427387906
  | v + 1 => lrow G L far w v (lall G L far w v) (selI (G.outs (v : Nat)))
theorem lrow_spec {G : Gr} {L : Nat → Bool} {far : Nat → Int} {w v : Nat} (hf : Bd (far v)) (hb : ∀ z : Id64, G.tk z.1.toNat = true → Bd (G.arc z.1.toNat).w) : ∀ (l : List Id64) (acc : Int), (∀ z ∈ l, G.tk z.1.toNat = true) → Bd acc →
    Bd (lrow G L far w v acc l) ∧ lrow G L far w v acc l ≤ acc ∧
    (∀ z ∈ l, (G.arc z.1.toNat).h = (w : Nat) → (G.arc z.1.toNat).c = false → L v = true → lrow G L far w v acc l ≤ ad (far v) (G.arc z.1.toNat).w) ∧
    (lrow G L far w v acc l = acc ∨ ∃ z ∈ l, (G.arc z.1.toNat).h = (w : Nat) ∧ (G.arc z.1.toNat).c = false ∧ L v = true ∧ lrow G L far w v acc l = ad (far v) (G.arc z.1.toNat).w)
  | [], acc, _, hacc => ⟨hacc, Int.le_refl _, fun z hz => absurd hz (by simp), .inl rfl⟩
  | y :: l, acc, hl, hacc => by
    have hy := hb y (hl y (by simp))
    have hadb : Bd (ad (far v) (G.arc y.1.toNat).w) := by rw [ad_tw hf hy]; exact tw_b hf hy
    have hst : Bd (lstep G L far w v acc y) ∧ lstep G L far w v acc y ≤ acc ∧
        ((G.arc y.1.toNat).h = (w : Nat) → (G.arc y.1.toNat).c = false → L v = true → lstep G L far w v acc y ≤ ad (far v) (G.arc y.1.toNat).w) ∧
        (lstep G L far w v acc y = acc ∨ ((G.arc y.1.toNat).h = (w : Nat) ∧ (G.arc y.1.toNat).c = false ∧ L v = true ∧ lstep G L far w v acc y = ad (far v) (G.arc y.1.toNat).w)) := by
      unfold lstep
      split
      · next hc =>
        rw [mi2_id hacc hadb]
        have h1 := hacc.1; have h2 := hacc.2; have h3 := hadb.1; have h4 := hadb.2
        refine ⟨⟨by omega, by omega⟩, by omega, fun _ _ _ => by omega, ?_⟩
        by_cases hle : acc ≤ ad (far v) (G.arc y.1.toNat).w
        · left; omega
        · right; exact ⟨hc.1, hc.2.1, hc.2.2, by omega⟩
      · next hc => exact ⟨hacc, Int.le_refl _, fun a b c => absurd ⟨a, b, c⟩ hc, .inl rfl⟩
    obtain ⟨s1, s2, s3, s4⟩ := hst
    obtain ⟨r1, r2, r3, r4⟩ := lrow_spec hf hb l (lstep G L far w v acc y) (fun z hz => hl z (by simp [hz])) s1
    have e : lrow G L far w v acc (y :: l) = lrow G L far w v (lstep G L far w v acc y) l := rfl
    rw [e]
    refine ⟨r1, Int.le_trans r2 s2, fun z hz a b c => ?_, ?_⟩
    · rcases List.mem_cons.1 hz with rfl | hz
      · exact Int.le_trans r2 (s3 a b c)
      · exact r3 z hz a b c
    · rcases r4 with e4 | ⟨z, hz, h4⟩
      · rcases s4 with e5 | ⟨a, b, c, e5⟩
        · exact .inl (e4.trans e5)
        · exact .inr ⟨y, by simp, a, b, c, e4.trans e5⟩
      · exact .inr ⟨z, by simp [hz], h4⟩
theorem selI_mem {p : Nat → Bool} {z : Id64} : z ∈ selI p ↔ p z.1.toNat = true := by
  unfold selI
  rw [List.mem_map]
  constructor
  · rintro ⟨i, hi, rfl⟩
    obtain ⟨h1, h2⟩ := List.mem_filter.1 hi
    rw [toId_val (by simpa using h1), Int.toNat_natCast]; exact h2
  · intro h
    have hz := z.2
    refine ⟨z.1.toNat, List.mem_filter.2 ⟨by simp; omega, h⟩, ?_⟩
    apply Subtype.ext
    rw [toId_val (by omega)]
    omega
theorem lall_btw {G : Gr} (ho : G.Ok) (hw : G.Wt) {L : Nat → Bool} {u w : Nat} (hu : u < G.n) (hww : w < G.n) {far : Nat → Int} (hf : SFar G.n (edges G L) ((edges G L u).map fun e => (e.1, ad 0 e.2)) far) : lall G L far w G.n = G.btw L u w := by
  have hwb : ∀ z : Id64, G.tk z.1.toNat = true → Bd (G.arc z.1.toNat).w := fun z hz => by have := hw z.1.toNat (by have := z.2; omega) hz; unfold Bd; omega
  have hsel : ∀ v : Nat, ∀ z ∈ selI (G.outs (v : Nat)), G.tk z.1.toNat = true ∧ (G.arc z.1.toNat).t = (v : Nat) := fun v z hz => by
    have := selI_mem.1 hz
    unfold Gr.outs at this
    simpa using this
  have key : ∀ k, k ≤ G.n → Bd (lall G L far w k) ∧
      (∀ v i, v < k → L v = true → i < 64 → G.tk i = true → (G.arc i).c = false → (G.arc i).t = (v : Nat) → (G.arc i).h = (w : Nat) → lall G L far w k ≤ ad (far v) (G.arc i).w) ∧
      (lall G L far w k = 4611686018427387906 ∨ ∃ v i, v < k ∧ L v = true ∧ i < 64 ∧ G.tk i = true ∧ (G.arc i).c = false ∧ (G.arc i).t = (v : Nat) ∧ (G.arc i).h = (w : Nat) ∧ lall G L far w k = ad (far v) (G.arc i).w) := by
    intro k
    induction k with
    | zero => intro _; exact ⟨by unfold lall Bd; omega, fun v i h => absurd h (by omega), .inl rfl⟩
    | succ k ih =>
      intro hk
      obtain ⟨i1, i2, i3⟩ := ih (by omega)
      obtain ⟨r1, r2, r3, r4⟩ := lrow_spec (L := L) (w := w) (hf.rng k (by omega)) hwb (selI (G.outs (k : Nat))) (lall G L far w k) (fun z hz => (hsel k z hz).1) i1
      have e : lall G L far w (k + 1) = lrow G L far w k (lall G L far w k) (selI (G.outs (k : Nat))) := rfl
      rw [e]
      refine ⟨r1, fun v i hv hLv hi htk hc ht hh => ?_, ?_⟩
      · by_cases ev : v = k
        · subst ev
          have hz : toId i ∈ selI (G.outs (v : Nat)) := selI_mem.2 (by rw [toId_val hi, Int.toNat_natCast]; unfold Gr.outs; simp [htk, ht])
          have := r3 (toId i) hz
          rw [toId_val hi, Int.toNat_natCast] at this
          exact this hh hc hLv
        · exact Int.le_trans r2 (i2 v i (by omega) hLv hi htk hc ht hh)
      · rcases r4 with e4 | ⟨z, hz, a, b, c, e4⟩
        · rcases i3 with e5 | ⟨v, i, hv, hr⟩
          · exact .inl (e4.trans e5)
          · obtain ⟨q1, q2, q3, q4, q5, q6, q7⟩ := hr
            exact .inr ⟨v, i, by omega, q1, q2, q3, q4, q5, q6, e4.trans q7⟩
        · obtain ⟨s1, s2⟩ := hsel k z hz
          exact .inr ⟨k, z.1.toNat, Nat.lt_succ_self k, c, by have := z.2; omega, s1, b, s2, a, e4⟩
  obtain ⟨k1, k2, k3⟩ := key G.n (Nat.le_refl _)
  exact btw_law ho hw hu hww hf k1.2 (fun v i hv hLv hi htk hc ht hh => k2 v i hv hLv hi htk hc ht hh) k3

end Go.Proofs.YtpkocidcfnlbiaaDoor
