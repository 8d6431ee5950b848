/- Unpacking, the document's 'Arcs' and the program's stack; walked. -/
import Derived.Test.YtpkocidcfnlbiaaDoorUnref
import Derived.Deep.LoopGhost
set_option linter.unusedVariables false
set_option linter.unusedSimpArgs false
namespace Go.Proofs.YtpkocidcfnlbiaaDoor
open Go.RowKit Go.Deep
attribute [local go_sem ↓] Go.wp_at_zero Go.wp_at_succ
attribute [local go_sem high] run_eql_en run_neq_en

/-- The arcs of an entry and the code (1: no two vertices). -/
def Ix.arcs (x : Ix) (u v : Int) : List Int × Int := if x.two u v = true then x.add 25 u v [] else ([], 1)

end Go.Proofs.YtpkocidcfnlbiaaDoor

/- The program's unpacking as plain mathematics: a stack of what is still to be unpacked. -/
set_option linter.unusedVariables false
set_option linter.unusedSimpArgs false
namespace Go.Proofs.YtpkocidcfnlbiaaDoor
open Go.RowKit Go.Deep

/-- What is left of n pairs, the last one first, behind arcs that are there. -/
def Ix.unw (x : Ix) (st : Nat → Int × Int) : Nat → List Int → List Int × Int
  | 0, l => (l, 0)
  | n + 1, l => if (x.add 25 (st n).1 (st n).2 l).2 ≠ 0 then ([], (x.add 25 (st n).1 (st n).2 l).2) else x.unw st n (x.add 25 (st n).1 (st n).2 l).1

theorem Ix.unw_congr (x : Ix) (st st' : Nat → Int × Int) : ∀ (n : Nat) (l : List Int), (∀ j, j < n → st j = st' j) → x.unw st n l = x.unw st' n l := by
  intro n
  induction n with
  | zero => intro l _; rfl
  | succ n ih =>
    intro l h
    simp only [Ix.unw]
    rw [h n (by omega), ih _ (fun j hj => h j (by omega))]

def pushed (st : Nat → Int × Int) (n : Nat) (p q : Int × Int) : Nat → Int × Int := fun j => if j = n then p else if j = n + 1 then q else st j

def Ix.meas (x : Ix) (st : Nat → Int × Int) : Nat → Nat
  | 0 => 0
  | n + 1 => (2 ^ x.dep (st n).1 (st n).2 - 1) + x.meas st n
theorem Ix.meas_congr (x : Ix) (st st' : Nat → Int × Int) : ∀ (n : Nat), (∀ j, j < n → st j = st' j) → x.meas st n = x.meas st' n := by
  intro n
  induction n with
  | zero => intro _; rfl
  | succ n ih =>
    intro h
    simp only [Ix.meas]
    rw [h n (by omega), ih (fun j hj => h j (by omega))]
theorem Ix.meas_pos (x : Ix) (u v : Int) : 1 ≤ 2 ^ x.dep u v - 1 := by
  have : 2 ^ 1 ≤ 2 ^ x.dep u v := Nat.pow_le_pow_right (by omega) (by unfold Ix.dep; omega)
  omega

theorem Ix.meas_ge (x : Ix) (st : Nat → Int × Int) : ∀ n, n ≤ x.meas st n := by
  intro n
  induction n with
  | zero => exact Nat.zero_le _
  | succ n ih =>
    have := x.meas_pos (st n).1 (st n).2
    simp only [Ix.meas]; omega
theorem Ix.unw_none {x : Ix} {st : Nat → Int × Int} {n : Nat} {l : List Int} (h0 : x.at_ (st n).1 (st n).2 = En.none) : x.unw st (n + 1) l = ([], 3) := by
  have e : x.add 25 (st n).1 (st n).2 l = ([], 3) := by rw [Ix.add, if_pos h0]
  simp only [Ix.unw, e]; rfl
theorem Ix.unw_long {x : Ix} {st : Nat → Int × Int} {n : Nat} {l : List Int} (h0 : x.at_ (st n).1 (st n).2 ≠ En.none) (hm : (x.at_ (st n).1 (st n).2).m < 0) (hl : 23 ≤ l.length) : x.unw st (n + 1) l = ([], 9) := by
  have e : x.add 25 (st n).1 (st n).2 l = ([], 9) := by rw [Ix.add, if_neg h0, if_pos hm, if_pos hl]
  simp only [Ix.unw, e]; rfl
theorem Ix.unw_arc {x : Ix} {st : Nat → Int × Int} {n : Nat} {l : List Int} (h0 : x.at_ (st n).1 (st n).2 ≠ En.none) (hm : (x.at_ (st n).1 (st n).2).m < 0) (hl : ¬ 23 ≤ l.length) : x.unw st (n + 1) l = x.unw st n (l ++ [(x.at_ (st n).1 (st n).2).a]) := by
  have e : x.add 25 (st n).1 (st n).2 l = (l ++ [(x.at_ (st n).1 (st n).2).a], 0) := by rw [Ix.add, if_neg h0, if_pos hm, if_neg hl]
  simp only [Ix.unw, e]; simp
theorem Ix.unw_mid {x : Ix} (hfit : x.Fit) (hok : x.Ok) {st : Nat → Int × Int} {n : Nat} {l : List Int} (h0 : x.at_ (st n).1 (st n).2 ≠ En.none) (hm : 0 ≤ (x.at_ (st n).1 (st n).2).m) :
    x.unw st (n + 1) l = x.unw (pushed st n ((x.at_ (st n).1 (st n).2).m, (st n).2) ((st n).1, (x.at_ (st n).1 (st n).2).m)) (n + 2) l ∧
    x.meas (pushed st n ((x.at_ (st n).1 (st n).2).m, (st n).2) ((st n).1, (x.at_ (st n).1 (st n).2).m)) (n + 2) < x.meas st (n + 1) := by
  have hc := hfit.cases hok (st n).1 (st n).2
  rw [or_iff_right h0] at hc
  obtain ⟨hw1, hw2, htw, hc⟩ := hc
  have hc : x.rk (x.at_ (st n).1 (st n).2).m.toNat < x.rk (st n).1.toNat ∧ x.rk (x.at_ (st n).1 (st n).2).m.toNat < x.rk (st n).2.toNat := by
    rcases hc with ⟨a, b, c⟩ | ⟨a, b, c, d, e⟩
    · omega
    · exact ⟨d, e⟩
  have hd := Ix.dep_mid hc.1 hc.2
  have h24 := Ix.dep_le hok htw
  obtain ⟨m, hM⟩ : ∃ m, (x.at_ (st n).1 (st n).2).m = m := ⟨_, rfl⟩
  rw [hM] at hd hm ⊢
  have p1 : pushed st n (m, (st n).2) ((st n).1, m) (n + 1) = ((st n).1, m) := by simp [pushed]
  have p0 : pushed st n (m, (st n).2) ((st n).1, m) n = (m, (st n).2) := by simp [pushed]
  have pj : ∀ j, j < n → pushed st n (m, (st n).2) ((st n).1, m) j = st j := fun j hj => by
    unfold pushed; rw [if_neg (by omega), if_neg (by omega)]
  constructor
  · have ea : x.add 25 (st n).1 (st n).2 l = if (x.add 25 (st n).1 m l).2 ≠ 0 then ([], (x.add 25 (st n).1 m l).2) else x.add 25 m (st n).2 (x.add 25 (st n).1 m l).1 := by
      rw [Ix.add, if_neg h0, hM, if_neg (show ¬ m < 0 by omega), Ix.add_fuel hfit hok 24 24 25 (st n).1 m l (by omega) (by omega) (by omega)]
      split
      · rfl
      · exact Ix.add_fuel hfit hok 24 24 25 m (st n).2 _ (by omega) (by omega) (by omega)
    have er : x.unw (pushed st n (m, (st n).2) ((st n).1, m)) (n + 2) l = if (x.add 25 (st n).1 m l).2 ≠ 0 then ([], (x.add 25 (st n).1 m l).2) else
        if (x.add 25 m (st n).2 (x.add 25 (st n).1 m l).1).2 ≠ 0 then ([], (x.add 25 m (st n).2 (x.add 25 (st n).1 m l).1).2) else x.unw st n (x.add 25 m (st n).2 (x.add 25 (st n).1 m l).1).1 := by
      simp only [Ix.unw, p1, p0]
      rw [Ix.unw_congr x _ st n _ pj]
    rw [er]
    simp only [Ix.unw]
    rw [ea]
    by_cases h1 : (x.add 25 (st n).1 m l).2 = 0
    · have h1' : ¬ (x.add 25 (st n).1 m l).2 ≠ 0 := by simpa using h1
      simp only [if_neg h1']
    · have h1' : (x.add 25 (st n).1 m l).2 ≠ 0 := h1
      simp only [if_pos h1']
  · simp only [Ix.meas, p1, p0]
    rw [Ix.meas_congr x _ st n pj]
    have a1 : 2 ^ x.dep (st n).1 m ≤ 2 ^ (x.dep (st n).1 (st n).2 - 1) := Nat.pow_le_pow_right (by omega) (by omega)
    have a2 : 2 ^ x.dep m (st n).2 ≤ 2 ^ (x.dep (st n).1 (st n).2 - 1) := Nat.pow_le_pow_right (by omega) (by omega)
    have a3 : 2 ^ x.dep (st n).1 (st n).2 = 2 * 2 ^ (x.dep (st n).1 (st n).2 - 1) := by
      have e : x.dep (st n).1 (st n).2 = x.dep (st n).1 (st n).2 - 1 + 1 := by omega
      rw [← Nat.pow_succ']; exact congrArg (2 ^ ·) e
    have a4 := Ix.meas_pos x (st n).1 m
    have a5 := Ix.meas_pos x m (st n).2
    omega

end Go.Proofs.YtpkocidcfnlbiaaDoor

/- The program's unpacking of an entry; walked. -/
set_option linter.unusedVariables false
set_option linter.unusedSimpArgs false
namespace Go.Proofs.YtpkocidcfnlbiaaDoor
open Go.RowKit Go.Deep
attribute [local go_sem ↓] Go.wp_at_zero Go.wp_at_succ
attribute [local go_sem high] run_eql_en run_neq_en

/-- Pairs in a row. -/
def PairsAt (w : World) (b n : Nat) (st : Nat → Int × Int) : Prop :=
  ∀ j, j < n → w.cell? ⟨b, j * 2, none⟩ = some (.int .i64 (st j).1) ∧ w.cell? ⟨b, j * 2 + 1, none⟩ = some (.int .i64 (st j).2)
theorem PairsAt.fr {w w' : World} {b n : Nat} {st : Nat → Int × Int} (h : PairsAt w b n st) (hf : Fr No w w') : PairsAt w' b n st :=
  fun j hj => ⟨hf.cell_some (h j hj).1 (fun h => h), hf.cell_some (h j hj).2 (fun h => h)⟩

def pairCells (st : Nat → Int × Int) (n : Nat) : List Value := (List.range n).flatMap fun j => [.int .i64 (st j).1, .int .i64 (st j).2]
theorem pairCells_len (st : Nat → Int × Int) : ∀ n, (pairCells st n).length = n * 2 := by
  intro n
  induction n with
  | zero => rfl
  | succ n ih =>
    simp only [pairCells, List.range_succ, List.flatMap_append, List.length_append] at ih ⊢
    rw [ih]; simp; omega
theorem pairCells_succ (st : Nat → Int × Int) (n : Nat) : pairCells st (n + 1) = pairCells st n ++ [.int .i64 (st n).1, .int .i64 (st n).2] := by
  simp [pairCells, List.range_succ, List.flatMap_append]
theorem pairCells_get (st : Nat → Int × Int) : ∀ n j, j < n → (pairCells st n)[j * 2]? = some (.int .i64 (st j).1) ∧ (pairCells st n)[j * 2 + 1]? = some (.int .i64 (st j).2) := by
  intro n
  induction n with
  | zero => intro j hj; omega
  | succ n ih =>
    intro j hj
    rw [pairCells_succ]
    have hl := pairCells_len st n
    by_cases e : j = n
    · subst e
      rw [List.getElem?_append_right (by omega), List.getElem?_append_right (by omega)]
      rw [show j * 2 - (pairCells st j).length = 0 by omega, show j * 2 + 1 - (pairCells st j).length = 1 by omega]
      exact ⟨rfl, rfl⟩
    · rw [List.getElem?_append_left (by omega), List.getElem?_append_left (by omega)]
      exact ih j (by omega)
theorem PairsAt.olds {w : World} {b n : Nat} {st : Nat → Int × Int} (h : PairsAt w b n st) : ∀ j u, (pairCells st n)[j]? = some u → w.cell? ((⟨b, 0, none⟩ : Addr).add j) = some u := by
  intro j u hu
  have hl := pairCells_len st n
  have hj : j < n * 2 := by rw [← hl]; exact (List.getElem?_eq_some_iff.1 hu).1
  have hg := pairCells_get st n (j / 2) (by omega)
  rw [Addr.add_mid, Nat.zero_add]
  rcases Nat.mod_two_eq_zero_or_one j with e | e
  · have ej : j = j / 2 * 2 := by omega
    rw [ej] at hu ⊢
    rw [hg.1] at hu; cases hu
    exact (h (j / 2) (by omega)).1
  · have ej : j = j / 2 * 2 + 1 := by omega
    rw [ej] at hu ⊢
    rw [hg.2] at hu; cases hu
    exact (h (j / 2) (by omega)).2
theorem own_fr {w w' : World} {base n size : Nat} {e : TypeId} {v : Value} {xs : List Value} (h : w.ownsRow base e size v n xs) {F : Nat → Prop} (hf : Fr F w w') (hF : ∀ k, base ≤ k → ¬ F k) : w'.ownsRow base e size v n xs := by
  obtain ⟨h1, h2⟩ := h
  refine ⟨h1, ?_⟩
  rcases h2 with h2 | ⟨g, cap, cur, hv, hb, hg, hr⟩
  · exact .inl h2
  · exact .inr ⟨g, cap, cur, hv, hb, (hf.block g (some_lt hg) (hF g hb)).trans hg, hr⟩

end Go.Proofs.YtpkocidcfnlbiaaDoor

/- The program's and the document's unpacking come to the same; equal lists of numbers; walked. -/
set_option linter.unusedVariables false
set_option linter.unusedSimpArgs false
namespace Go.Proofs.YtpkocidcfnlbiaaDoor
open Go.RowKit Go.Deep

theorem Ix.unw_one (x : Ix) (u v : Int) : x.unw (fun _ => (u, v)) 1 [] = x.add 25 u v [] := by
  have h := x.add_len 25 u v [] (by simp)
  simp only [Ix.unw]
  generalize x.add 25 u v [] = r at h ⊢
  obtain ⟨r1, r2⟩ := r
  by_cases e : r2 = 0
  · subst e; rfl
  · have := (h.2.2 e).1
    simp only at this e ⊢
    rw [if_pos e, this]

/-- A slice that reads as a list. -/
theorem SlL.intsF {w : World} {v : Value} {l : List Int} (h : SlL w v l) : ∃ A c, v = .slice A l.length c ∧ IntsF w A l.length (fun j => l.getD j 0) := by
  rcases h with ⟨rfl, rfl⟩ | ⟨b, off, c, h0, rfl, hc⟩
  · exact ⟨none, 0, rfl, fun h => by simp at h⟩
  · exact ⟨_, c, rfl, fun _ => ⟨b, off, rfl, hc⟩⟩

set_option maxHeartbeats 1000000 in
theorem ints_calls (A B : Option Addr) (n m c d : Nat) (f g : Nat → Int) (w : World) (ha : IntsF w A n f) (hb : IntsF w B m g) (hn : n ≤ 140737488351232) (hm : m ≤ 140737488351232) (r : Bool) (hr : r = true ↔ (n = m ∧ ∀ j, j < n → f j = g j)) :
    Calls Tryd.prog 9 #[.slice A n c, .slice B m d] w fun e w' => e = .returned (.bool r) ∧ Fr No w w' := by
  have HR := hid hr
  clear hr
  by_cases hnm : n = m
  · subst hnm
    go_enter Tryd.func9, Tryd.ntmps9
    go_wp2
    go_loopg [5] n (fun k p wr => ∃ i : Nat, i ≤ n ∧ p = .int .i64 i ∧ k = n - i ∧ Fr No w wr ∧ ∀ j, j < i → f j = g j)
    case atStart => exact ⟨0, Nat.zero_le _, rfl, rfl, Fr.refl _ _, fun j hj => by omega⟩
    case round =>
      obtain ⟨i, hi, rfl, hk, hf, he⟩ := hrel
      by_cases hlt : i < n
      · obtain ⟨b1, o1, rfl, hc1⟩ := ha (by omega)
        obtain ⟨b2, o2, rfl, hc2⟩ := hb (by omega)
        have q1 := hf.cell_some (hc1 i hlt) (fun h => h)
        have q2 := hf.cell_some (hc2 i hlt) (fun h => h)
        have HF := hid hf
        have HE := hid he
        have HK := hid hk
        have HA := hid ha
        have HB := hid hb
        clear hf he hk hc1 hc2 ha hb
        by_cases hx : f i = g i
        · have HX := hid hx
          have hx' : (f i != g i) = false := by simpa using hx
          clear hx
          go_wp2
          go_quiet (fail)
          go_wp2
          go_roundg (n - (i + 1))
          case measure => have := HK.out; omega
          case rel =>
            refine ⟨i + 1, by omega, by go_num, rfl, HF.out.drewN _, fun j hj => ?_⟩
            rcases Nat.lt_succ_iff_lt_or_eq.1 hj with hj | rfl
            · exact HE.out j hj
            · exact HX.out
        · have HX := hid hx
          have hx' : (f i != g i) = true := by simpa using hx
          clear hx
          go_wp2
          go_quiet (fail)
          go_wp2
          go_ret
          refine ⟨ret_bool ?_, HF.out.drewN _⟩
          cases r with
          | false => rfl
          | true => exact absurd ((HR.out.1 rfl).2 i hlt) HX.out
      · have HF := hid hf
        have HE := hid he
        clear hf he hk
        go_wp2
        go_ret
        refine ⟨ret_bool ?_, HF.out⟩
        exact (HR.out.2 ⟨trivial, fun j hj => HE.out j (by omega)⟩).symm
  · have hnm' : ((n : Int) != (m : Int)) = true := by simp; omega
    have HN := hid hnm
    clear hnm
    go_enter Tryd.func9, Tryd.ntmps9
    go_wp2
    go_ret
    refine ⟨ret_bool ?_, Fr.refl _ _⟩
    cases r with
    | false => rfl
    | true => exact absurd (HR.out.1 rfl).1 HN.out

theorem ints_same {w : World} {a b : Value} {l : List Int} (ha : SlL w a l) (hb : SlL w b l) (hl : l.length ≤ 100000) :
    Calls Tryd.prog 9 #[a, b] w fun e w' => e = .returned (.bool true) ∧ Fr No w w' := by
  obtain ⟨A, c, rfl, h1⟩ := ha.intsF
  obtain ⟨B, d, rfl, h2⟩ := hb.intsF
  exact ints_calls A B _ _ c d _ _ w h1 h2 (by omega) (by omega) true (by simp)

end Go.Proofs.YtpkocidcfnlbiaaDoor
