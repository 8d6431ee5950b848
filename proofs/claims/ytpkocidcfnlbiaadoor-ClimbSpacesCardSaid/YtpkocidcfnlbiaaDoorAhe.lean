/- The law of taking away: an entry that is taken away is there no more, and set again it is there; walked. -/
import Derived.Test.YtpkocidcfnlbiaaDoorAwk
import Derived.Test.YtpkocidcfnlbiaaDoorSum
import Derived.Test.YtpkocidcfnlbiaaDoorUnE
import Derived.Test.YtpkocidcfnlbiaaDoorLks
import Derived.Test.YtpkocidcfnlbiaaDoorLnk
set_option linter.unusedVariables false
set_option linter.unusedSimpArgs false
namespace Go.Proofs.YtpkocidcfnlbiaaDoor
open Go.RowKit Go.Deep
attribute [local go_sem high] run_eql_en run_neq_en eq3_self

theorem Ix.away_no {x : Ix} {u v : Int} (h : x.two u v = false) (e : En) : x.codeI u v e = 1 ∧ x.setI u v e = x := by
  unfold Ix.codeI Ix.setI
  simp [h]
theorem Ix.may_none (x : Ix) (u v : Int) : x.May u v En.none := .inl ⟨rfl, rfl, rfl⟩
theorem Ix.set_set (x : Ix) (u v : Nat) (e : En) : (x.set u v e).set u v (x.ent u v) = x := by
  cases x
  simp only [Ix.set, Ix.mk.injEq, true_and]
  funext a b
  by_cases h : a = u ∧ b = v
  · obtain ⟨rfl, rfl⟩ := h; simp
  · simp [h]
theorem Ix.away_yes {x : Ix} (hf : x.Fit) {u v : Int} (h : x.two u v = true) :
    x.codeI u v En.none = 0 ∧ (x.setI u v En.none).at_ u v = En.none ∧ (x.setI u v En.none).codeI u v (x.at_ u v) = 0 ∧ (x.setI u v En.none).setI u v (x.at_ u v) = x := by
  obtain ⟨hne, h1, h2, h3, h4⟩ := two_iff h
  obtain ⟨a, rfl⟩ := Int.eq_ofNat_of_zero_le h1
  obtain ⟨b, rfl⟩ := Int.eq_ofNat_of_zero_le h3
  have m0 := x.may_none a b
  have e1 : x.setI a b En.none = x.set a b En.none := by unfold Ix.setI; rw [if_pos ⟨h, m0⟩]; rfl
  have ht : (x.set a b En.none).two a b = true := (Ix.two_congr (x := x.set a b En.none) (y := x) rfl _ _).trans h
  have ea : x.at_ a b = x.ent a b := by unfold Ix.at_; rw [if_pos h]; rfl
  have hm : (x.set a b En.none).May a b (x.ent a b) := (Ix.May_congr (x := x.set a b En.none) (y := x) rfl rfl _ _ _).2 (hf a b h)
  refine ⟨by unfold Ix.codeI; rw [if_pos ⟨h, m0⟩], ?_, ?_, ?_⟩
  · rw [e1]; unfold Ix.at_; rw [if_pos ht]; simp [Ix.set]
  · rw [e1, ea]; unfold Ix.codeI; rw [if_pos ⟨ht, hm⟩]
  · rw [e1, ea]; unfold Ix.setI; rw [if_pos ⟨ht, hm⟩]; exact x.set_set a b _

end Go.Proofs.YtpkocidcfnlbiaaDoor

/- The law of ends: each link lies at its lower end, and at no other vertex; walked. -/
set_option linter.unusedVariables false
set_option linter.unusedSimpArgs false
namespace Go.Proofs.YtpkocidcfnlbiaaDoor
open Go.RowKit Go.Deep
attribute [local go_sem high] run_eql_en run_neq_en eq3_self

theorem Ix.ups_le (x : Ix) (v : Int) (back : Bool) : (x.ups v back).length ≤ x.n := by
  unfold Ix.ups
  split
  · exact x.upsTo_le v back x.n
  · simp
theorem Ix.seen_le (x : Ix) : ∀ k, x.seen k ≤ k * (2 * x.n)
  | 0 => by simp [Ix.seen, sumN]
  | k + 1 => by
    have := x.seen_le k
    have := x.ups_le (k : Nat) false
    have := x.ups_le (k : Nat) true
    have e : x.seen (k + 1) = x.seen k + ((x.ups (k : Nat) false).length + (x.ups (k : Nat) true).length) := rfl
    rw [e, Nat.succ_mul]; omega

end Go.Proofs.YtpkocidcfnlbiaaDoor

/- What hangs on a vertex: the shortcuts by way of it; walked. -/
set_option linter.unusedVariables false
set_option linter.unusedSimpArgs false
namespace Go.Proofs.YtpkocidcfnlbiaaDoor
open Go.RowKit Go.Deep

/-- The kept ones among the first j. -/
def pkv (v : Int) (lk : Nat → Lk) : Nat → List Lk
  | 0 => []
  | j + 1 => if (lk j).e.m = v then pkv v lk j ++ [lk j] else pkv v lk j
theorem pkv_all (v : Int) (lk : Nat → Lk) (k : Nat) : (∀ j, j < k → (lk j).e.m = v) → pkv v lk k = (List.range k).map lk := by
  intro h
  induction k with
  | zero => rfl
  | succ k ih =>
    rw [pkv, if_pos (h k (by omega)), ih (fun j hj => h j (by omega)), List.range_succ, List.map_append]; rfl
theorem pkv_none (v : Int) (lk : Nat → Lk) (k : Nat) (h : (lk k).e.m ≠ v) : pkv v lk (k + 1) = pkv v lk k := by
  rw [pkv, if_neg h]
theorem pkv_getD (v : Int) (lk : Nat → Lk) (k : Nat) (h : ∀ j, j < k → (lk j).e.m = v) (q : Nat) (hq : q < k) : (pkv v lk k).getD q Lk.zero = lk q := by
  rw [pkv_all v lk k h]; simp [List.getD, hq]
theorem pkv_filter (v : Int) (l : List Lk) : ∀ k, k ≤ l.length → pkv v (fun q => l.getD q Lk.zero) k = (l.take k).filter (fun y => decide (y.e.m = v))
  | 0, _ => rfl
  | k + 1, h => by
    have ih := pkv_filter v l k (by omega)
    have hk : k < l.length := by omega
    have e : l.getD k Lk.zero = l[k] := by simp [List.getD, hk]
    rw [pkv, ih, List.take_succ_eq_append_getElem hk, List.filter_append, e]
    by_cases hm : l[k].e.m = v
    · rw [if_pos hm]; simp [hm]
    · rw [if_neg hm]; simp [hm]

/-- What hangs on a vertex. -/
def Ix.hang (x : Ix) (v : Int) : List Lk := x.shorts.filter (fun y => decide (y.e.m = v))


end Go.Proofs.YtpkocidcfnlbiaaDoor

/- What hangs on a vertex: the document's; walked. -/
set_option linter.unusedVariables false
set_option linter.unusedSimpArgs false
namespace Go.Proofs.YtpkocidcfnlbiaaDoor
open Go.RowKit Go.Deep

end Go.Proofs.YtpkocidcfnlbiaaDoor
