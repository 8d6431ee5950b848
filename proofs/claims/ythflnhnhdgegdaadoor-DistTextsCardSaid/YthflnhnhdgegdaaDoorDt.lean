/- Numerals: what the document's reader takes is just what the library's writer writes; plain. -/
import Derived.Test.YthflnhnhdgegdaaDoorDk
set_option linter.unusedVariables false
set_option linter.unusedSimpArgs false
namespace Go.Proofs.YthflnhnhdgegdaaDoor
open Go.RowKit Go.Lib Go.Sort

theorem dec_len (k : Nat) : ∀ u : Nat, u < 10 ^ (k + 1) → (decDigits u).length ≤ k + 1 := by
  induction k with
  | zero => intro u h; rw [dec_small (by simpa using h)]; simp
  | succ k ih =>
    intro u h
    by_cases h1 : u < 10
    · rw [dec_small h1]; simp
    · rw [dec_big h1, List.length_append]
      have := ih (u / 10) (by rw [Nat.pow_succ] at h; omega)
      simp; omega
/-- No numeral of two digits or more begins with '0'. -/
theorem dec_lead : ∀ u : Nat, 10 ≤ u → ∃ c t, decDigits u = c :: t ∧ 49 ≤ c.toNat := fun u => by
  induction u using Nat.strongRecOn with
  | ind u ih =>
    intro h
    rw [dec_big (by omega)]
    by_cases h1 : u / 10 < 10
    · rw [dec_small h1]
      exact ⟨_, _, rfl, by rw [digit_nat _ h1]; omega⟩
    · obtain ⟨c, t, e, h2⟩ := ih (u / 10) (by omega) (by omega)
      rw [e]
      exact ⟨c, t ++ _, rfl, h2⟩

/-- The document's reader's loop: what it comes to; none: refused. -/
def rloop (acc : Nat) : List UInt8 → Option Nat
  | [] => some acc
  | c :: r => if c.toNat < 48 ∨ 57 < c.toNat then none else if (4611686018427387904 - (c.toNat - 48)) / 10 < acc then none else rloop (10 * acc + (c.toNat - 48)) r
/-- The document's reader, of what is no word. -/
def rnum (l : List UInt8) : Option Nat :=
  if l.length < 1 ∨ 19 < l.length ∨ (1 < l.length ∧ (l.getD 0 0).toNat = 48) then none else rloop 0 l

theorem rloop_dec (u : Nat) (hu : u ≤ 4611686018427387904) : ∀ r, rloop 0 (decDigits u ++ r) = rloop u r := by
  induction u using Nat.strongRecOn with
  | ind u ih =>
    intro r
    by_cases h : u < 10
    · rw [dec_small h]
      show rloop 0 (UInt8.ofNat (48 + u) :: r) = _
      rw [rloop, digit_nat u h, if_neg (by omega), if_neg (by omega)]
      congr 1; omega
    · rw [dec_big h, List.append_assoc, ih (u / 10) (by omega) (by omega)]
      show rloop (u / 10) (UInt8.ofNat (48 + u % 10) :: r) = _
      rw [rloop, digit_nat (u % 10) (by omega), if_neg (by omega), if_neg (by omega)]
      congr 1; omega
theorem rnum_dec (u : Nat) (hu : u ≤ 4611686018427387904) : rnum (decDigits u) = some u := by
  have hl := rloop_dec u hu []
  rw [List.append_nil] at hl
  have hn := dec_len 18 u (by omega)
  obtain ⟨c, t, e, _⟩ := dec_head u
  unfold rnum
  rw [if_neg, hl]
  · rfl
  · rintro (h | h | ⟨h1, h2⟩)
    · rw [e] at h; simp at h
    · omega
    · by_cases h3 : u < 10
      · rw [dec_small h3] at h1; simp at h1
      · obtain ⟨c, t, e, h4⟩ := dec_lead u (by omega)
        rw [e] at h2; simp at h2; omega
theorem byte_of (c : UInt8) (h : 48 ≤ c.toNat ∧ c.toNat ≤ 57) : UInt8.ofNat (48 + (c.toNat - 48)) = c := by
  rw [show 48 + (c.toNat - 48) = c.toNat by omega]; simp
theorem rloop_inv : ∀ (l : List UInt8) (acc v : Nat), 0 < acc → acc ≤ 4611686018427387904 → rloop acc l = some v → decDigits acc ++ l = decDigits v ∧ v ≤ 4611686018427387904
  | [], acc, v, h0, h1, h => by
    unfold rloop at h
    cases h
    exact ⟨by simp, h1⟩
  | c :: r, acc, v, h0, h1, h => by
    unfold rloop at h
    split at h
    · cases h
    · rename_i hc
      split at h
      · cases h
      · rename_i hd
        have hc' : 48 ≤ c.toNat ∧ c.toNat ≤ 57 := by omega
        obtain ⟨e, hv⟩ := rloop_inv r (10 * acc + (c.toNat - 48)) v (by omega) (by omega) h
        refine ⟨?_, hv⟩
        rw [← e, dec_big (u := 10 * acc + (c.toNat - 48)) (by omega), show (10 * acc + (c.toNat - 48)) / 10 = acc by omega, show (10 * acc + (c.toNat - 48)) % 10 = c.toNat - 48 by omega, byte_of c hc', List.append_assoc]
        rfl
theorem rnum_inv {l : List UInt8} {v : Nat} (h : rnum l = some v) : l = decDigits v ∧ v ≤ 4611686018427387904 := by
  unfold rnum at h
  split at h
  · cases h
  · rename_i hh
    match l, hh, h with
    | [], hh, _ => simp at hh
    | c :: r, hh, h =>
      unfold rloop at h
      split at h
      · cases h
      · rename_i hc
        have hc' : 48 ≤ c.toNat ∧ c.toNat ≤ 57 := by omega
        rw [if_neg (by omega)] at h
        have hz : decDigits (10 * 0 + (c.toNat - 48)) = [c] := by rw [dec_small (by omega), show 10 * 0 + (c.toNat - 48) = c.toNat - 48 by omega, byte_of c hc']
        by_cases h0 : c.toNat = 48
        · match r, hh, h with
          | [], _, h =>
            unfold rloop at h
            cases h
            exact ⟨hz.symm, by omega⟩
          | d :: r, hh, _ =>
            exfalso; apply hh
            exact .inr (.inr ⟨by simp, by simpa using h0⟩)
        · obtain ⟨e, hv⟩ := rloop_inv r _ v (by omega) (by omega) h
          rw [hz] at e
          exact ⟨e, hv⟩

end Go.Proofs.YthflnhnhdgegdaaDoor
