/- The law of taking away: an entry that is taken away is there no more, and set again it is there; walked. -/
import Derived.Test.YtpkocidcfnlbiaaGreatDoorAwk
import Derived.Test.YtpkocidcfnlbiaaGreatDoorSum
import Derived.Test.YtpkocidcfnlbiaaGreatDoorUnE
import Derived.Test.YtpkocidcfnlbiaaGreatDoorLks
import Derived.Test.YtpkocidcfnlbiaaGreatDoorLnk
set_option linter.unusedVariables false
set_option linter.unusedSimpArgs false
namespace Go.Proofs.YtpkocidcfnlbiaaGreatDoor
open Go.RowKit Go.Deep
attribute [local go_sem high] run_eql_en run_neq_en eq3_self

theorem Ix.away_no {x : Ix} {u v : Int} (h : x.two u v = false) (e : En) : x.codeI u v e = 1 ∧ x.setI u v e = x := by
  unfold Ix.codeI Ix.setI
  simp [h]
theorem Ix.may_none (x : Ix) (u v : Int) : x.May u v En.none := .inl ⟨rfl, rfl, rfl⟩
theorem Ix.set_set (x : Ix) (u v : Nat) (e : En) : (x.set u v e).set u v (x.ent u v) = x := by
  cases x
  simp only [Ix.set, Ix.mk.injEq, true_and]
  funext a b
  by_cases h : a = u ∧ b = v
  · obtain ⟨rfl, rfl⟩ := h; simp
  · simp [h]
theorem Ix.away_yes {x : Ix} (hf : x.Fit) {u v : Int} (h : x.two u v = true) :
    x.codeI u v En.none = 0 ∧ (x.setI u v En.none).at_ u v = En.none ∧ (x.setI u v En.none).codeI u v (x.at_ u v) = 0 ∧ (x.setI u v En.none).setI u v (x.at_ u v) = x := by
  obtain ⟨hne, h1, h2, h3, h4⟩ := two_iff h
  obtain ⟨a, rfl⟩ := Int.eq_ofNat_of_zero_le h1
  obtain ⟨b, rfl⟩ := Int.eq_ofNat_of_zero_le h3
  have m0 := x.may_none a b
  have e1 : x.setI a b En.none = x.set a b En.none := by unfold Ix.setI; rw [if_pos ⟨h, m0⟩]; rfl
  have ht : (x.set a b En.none).two a b = true := (Ix.two_congr (x := x.set a b En.none) (y := x) rfl _ _).trans h
  have ea : x.at_ a b = x.ent a b := by unfold Ix.at_; rw [if_pos h]; rfl
  have hm : (x.set a b En.none).May a b (x.ent a b) := (Ix.May_congr (x := x.set a b En.none) (y := x) rfl rfl _ _ _).2 (hf a b h)
  refine ⟨by unfold Ix.codeI; rw [if_pos ⟨h, m0⟩], ?_, ?_, ?_⟩
  · rw [e1]; unfold Ix.at_; rw [if_pos ht]; simp [Ix.set]
  · rw [e1, ea]; unfold Ix.codeI; rw [if_pos ⟨ht, hm⟩]
  · rw [e1, ea]; unfold Ix.setI; rw [if_pos ⟨ht, hm⟩]; exact x.set_set a b _

end Go.Proofs.YtpkocidcfnlbiaaGreatDoor

/- The law of ends: each link lies at its lower end, and at no other vertex; walked. -/
set_option linter.unusedVariables false
set_option linter.unusedSimpArgs false
namespace Go.Proofs.YtpkocidcfnlbiaaGreatDoor
open Go.RowKit Go.Deep
attribute [local go_sem high] run_eql_en run_neq_en eq3_self

theorem Ix.ups_le (x : Ix) (v : Int) (back : Bool) : (x.ups v back).length ≤ x.n := by
  unfold Ix.ups
  split
  · exact x.upsTo_le v back x.n
  · simp
theorem Ix.seen_le (x : Ix) : ∀ k, x.seen k ≤ k * (2 * x.n)
  | 0 => by simp [Ix.seen, sumN]
  | k + 1 => by
    have := x.seen_le k
    have := x.ups_le (k : Nat) false
    have := x.ups_le (k : Nat) true
    have e : x.seen (k + 1) = x.seen k + ((x.ups (k : Nat) false).length + (x.ups (k : Nat) true).length) := rfl
    rw [e, Nat.succ_mul]; omega

end Go.Proofs.YtpkocidcfnlbiaaGreatDoor

/- What hangs on a vertex: the shortcuts by way of it; walked. -/
set_option linter.unusedVariables false
set_option linter.unusedSimpArgs false
namespace Go.Proofs.YtpkocidcfnlbiaaGreatDoor
open Go.RowKit Go.Deep

/-- The kept ones among the first j. -/
def pkv (v : Int) (lk : Nat → Lk) : Nat → List Lk
  | 0 => []
  | j + 1 => if (lk j).e.m = v then pkv v lk j ++ [lk j] else pkv v lk j
theorem pkv_all (v : Int) (lk : Nat → Lk) (k : Nat) : (∀ j, j < k → (lk j).e.m = v) → pkv v lk k = (List.range k).map lk := by
  intro h
  induction k with
  | zero => rfl
  | succ k ih =>
    rw [pkv, if_pos (h k (by omega)), ih (fun j hj => h j (by omega)), List.range_succ, List.map_append]; rfl
theorem pkv_none (v : Int) (lk : Nat → Lk) (k : Nat) (h : (lk k).e.m ≠ v) : pkv v lk (k + 1) = pkv v lk k := by
  rw [pkv, if_neg h]
theorem pkv_getD (v : Int) (lk : Nat → Lk) (k : Nat) (h : ∀ j, j < k → (lk j).e.m = v) (q : Nat) (hq : q < k) : (pkv v lk k).getD q Lk.zero = lk q := by
  rw [pkv_all v lk k h]; simp [List.getD, hq]
theorem pkv_filter (v : Int) (l : List Lk) : ∀ k, k ≤ l.length → pkv v (fun q => l.getD q Lk.zero) k = (l.take k).filter (fun y => decide (y.e.m = v))
  | 0, _ => rfl
  | k + 1, h => by
    have ih := pkv_filter v l k (by omega)
    have hk : k < l.length := by omega
    have e : l.getD k Lk.zero = l[k] := by simp [List.getD, hk]
    rw [pkv, ih, List.take_succ_eq_append_getElem hk, List.filter_append, e]
    by_cases hm : l[k].e.m = v
    · rw [if_pos hm]; simp [hm]
    · rw [if_neg hm]; simp [hm]

/-- What hangs on a vertex. -/
def Ix.hang (x : Ix) (v : Int) : List Lk := x.shorts.filter (fun y => decide (y.e.m = v))


set_option maxRecDepth 100000 in
set_option maxHeartbeats 1000000 in
theorem shortcuts_own {x : Ix} {w : World} {L : IxLoc} (h : IxMem w L x) :
    Calls Tryz.prog 52 #[.pointer (some ⟨L.b, 0, none⟩)] w fun e w' => ∃ (A : Option Addr) (c : Nat), e = .returned (.slice A x.shorts.length c) ∧ Fr No w w' ∧
      (x.shorts = [] ∨ ∃ g, A = some ⟨g, 0, none⟩ ∧ w.heap.size ≤ g ∧ RowL w' g (c * 5) (· < x.shorts.length) (fun q => x.shorts.getD q Lk.zero) ∧ x.shorts.length ≤ c ∧ c ≤ 9223372036854775807) := by
  go_enter Tryz.func52, Tryz.ntmps52
  go_wp2_with fail
  refine (links_own h).mono ?_
  rintro e w1 ⟨A, c, rfl, hf, hown, hnil⟩
  have hlen := x.lks_len x.n
  have hn2 := h.ok.n2
  have hnn : x.n * x.n ≤ 24 * 24 := Nat.mul_le_mul hn2 hn2
  obtain ⟨l, hl⟩ : ∃ l, x.lks x.n = l := ⟨_, rfl⟩
  have hsh : x.shorts = pk (fun q => l.getD q Lk.zero) l.length := by rw [Ix.shorts, hl]
  have HSH := hid hsh
  rw [hl] at hown hnil hlen ⊢
  rcases Nat.eq_zero_or_pos l.length with h0 | h0
  · have e := List.eq_nil_of_length_eq_zero h0
    obtain ⟨rfl, rfl⟩ := hnil e
    subst e
    have HF := hid hf
    clear hf hown hnil hl hsh
    go_wp2_with fail
    refine (delfunc_nil w1).mono ?_
    rintro e w2 ⟨rfl, hf2⟩
    go_wp2
    go_ret
    rw [HSH.out]
    exact ⟨none, 0, rfl, HF.out.trans hf2, .inl rfl⟩
  · obtain ⟨g, cap, e, hb, hl1, hcap, _⟩ := own_lks hown h0
    simp only [Value.slice.injEq] at e
    obtain ⟨rfl, _, rfl⟩ := e
    obtain ⟨hrow, hb', hc1, hc2⟩ := own_rowL hown
    have HF := hid hf
    have HROW := hid hrow
    have hc3 : c ≤ 9223372036854775807 := by unfold maxLen at hc2; omega
    clear hf hown hnil hl hsh hrow hc2
    go_wp2_with fail
    refine (delfunc_calls HROW.out (by omega) hc1 (by omega) hc3 h0).mono ?_
    rintro e w2 ⟨rfl, hf2, hr2⟩
    have HF2 := hid (HF.out.trans' hf2 (fun i hi hg => by have : i = g := hg; omega))
    have HR2 := hid hr2
    clear hf2 hr2
    go_wp2
    go_ret
    rw [HSH.out]
    have hpl := pk_len (fun q => l.getD q Lk.zero) l.length
    exact ⟨_, c, rfl, HF2.out, .inr ⟨g, rfl, hb, HR2.out, by omega, hc3⟩⟩

end Go.Proofs.YtpkocidcfnlbiaaGreatDoor

/- What hangs on a vertex: the document's; walked. -/
set_option linter.unusedVariables false
set_option linter.unusedSimpArgs false
namespace Go.Proofs.YtpkocidcfnlbiaaGreatDoor
open Go.RowKit Go.Deep

end Go.Proofs.YtpkocidcfnlbiaaGreatDoor
