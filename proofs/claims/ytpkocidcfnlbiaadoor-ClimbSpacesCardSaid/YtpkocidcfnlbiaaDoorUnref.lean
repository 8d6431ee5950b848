/- Unpacking as plain mathematics: an entry's arcs; how deep it goes. -/
import Derived.Test.YtpkocidcfnlbiaaDoorMade
set_option linter.unusedVariables false
set_option linter.unusedSimpArgs false
namespace Go.Proofs.YtpkocidcfnlbiaaDoor
open Go.RowKit

/-- Each entry may be there. -/
def Ix.Fit (x : Ix) : Prop := ∀ u v : Nat, x.two u v = true → x.May u v (x.ent u v)

theorem Ix.May_congr {x y : Ix} (hn : x.n = y.n) (hr : x.rk = y.rk) (u v : Int) (e : En) : x.May u v e ↔ y.May u v e := by
  have : ∀ z, x.rank z = y.rank z := fun z => by simp only [Ix.rank, hn, hr]
  simp only [Ix.May, this]
theorem Ix.two_congr {x y : Ix} (hn : x.n = y.n) (u v : Int) : x.two u v = y.two u v := by simp only [Ix.two, hn]

theorem Ix.Fit.setI {x : Ix} (h : x.Fit) (u v : Int) (e : En) : (x.setI u v e).Fit := fun a b hab => by
  have hn := Ix.setI_n x u v e
  have hr := Ix.setI_rk x u v e
  rw [Ix.May_congr hn hr]
  rw [Ix.two_congr hn] at hab
  unfold Ix.setI
  split
  · rename_i hc
    simp only [Ix.set]
    split
    · rename_i he
      obtain ⟨rfl, rfl⟩ := he
      obtain ⟨_, h1, _, h2, _⟩ := two_iff hc.1
      rw [Int.toNat_of_nonneg h1, Int.toNat_of_nonneg h2]
      exact hc.2
    · exact h a b hab
  · exact h a b hab
theorem Ix.Fit.sets {x : Ix} (h : x.Fit) (f : Nat → Lk) : ∀ k, (x.sets f k).Fit := by
  intro k
  induction k with
  | zero => exact h
  | succ k ih => exact ih.setI _ _ _
theorem Ix.Fit.new (n : Nat) (f : Nat → Int) (g : Nat → Nat) : (Ix.new n f g).Fit := fun u v _ => .inl ⟨rfl, rfl, rfl⟩
theorem Ix.Fit.start (n num : Nat) : (Ix.start n num).Fit := Ix.Fit.new _ _ _

/-- An entry from one vertex to another one: none, an arc, or by way of a lower vertex. -/
theorem Ix.Fit.cases {x : Ix} (h : x.Fit) (hok : x.Ok) (u v : Int) : x.at_ u v = En.none ∨
    ((x.at_ u v).w ≤ 4611686018427387905 ∧ 1 ≤ (x.at_ u v).w ∧ x.two u v = true ∧
      (((x.at_ u v).m = -1 ∧ 0 ≤ (x.at_ u v).a ∧ (x.at_ u v).a < 64) ∨
       ((x.at_ u v).a = -1 ∧ 0 ≤ (x.at_ u v).m ∧ (x.at_ u v).m < x.n ∧ x.rk (x.at_ u v).m.toNat < x.rk u.toNat ∧ x.rk (x.at_ u v).m.toNat < x.rk v.toNat))) := by
  cases ht : x.two u v with
  | false => exact .inl (by simp [Ix.at_, ht])
  | true =>
    have e : x.at_ u v = x.ent u.toNat v.toNat := by simp [Ix.at_, ht]
    obtain ⟨hne, h1, h2, h3, h4⟩ := two_iff ht
    have hm := h u.toNat v.toNat (by rw [Int.toNat_of_nonneg h1, Int.toNat_of_nonneg h3]; exact ht)
    rw [← e, Int.toNat_of_nonneg h1, Int.toNat_of_nonneg h3] at hm
    have ru : x.rank u = x.rk u.toNat := if_pos ⟨h1, h2⟩
    have rv : x.rank v = x.rk v.toNat := if_pos ⟨h3, h4⟩
    rcases hm with ⟨a, b, c⟩ | ⟨a, b, ⟨c, d, f⟩ | ⟨c, d, f, g, k⟩⟩
    · left; cases hx : x.at_ u v; rw [hx] at a b c; simp only at a b c; rw [a, b, c]; rfl
    · exact .inr ⟨b, a, rfl, .inl ⟨c, d, f⟩⟩
    · have hv : 0 ≤ (x.at_ u v).m ∧ (x.at_ u v).m < x.n := by
        unfold Ix.rank at f; split at f
        · assumption
        · omega
      have rm : x.rank (x.at_ u v).m = x.rk (x.at_ u v).m.toNat := if_pos hv
      refine .inr ⟨b, a, rfl, .inr ⟨d, hv.1, hv.2, ?_, ?_⟩⟩ <;> omega

/-- The arcs of an entry behind others, and the code (3: there is none, 9: too many). -/
def Ix.add (x : Ix) : Nat → Int → Int → List Int → List Int × Int
  | 0, _, _, _ => ([], 3)
  | f + 1, u, v, l =>
    if x.at_ u v = En.none then ([], 3)
    else if (x.at_ u v).m < 0 then (if 23 ≤ l.length then ([], 9) else (l ++ [(x.at_ u v).a], 0))
    else if (x.add f u (x.at_ u v).m l).2 ≠ 0 then ([], (x.add f u (x.at_ u v).m l).2)
    else x.add f (x.at_ u v).m v (x.add f u (x.at_ u v).m l).1

/-- How deep an entry goes at most. -/
def Ix.dep (x : Ix) (u v : Int) : Nat := min (x.rk u.toNat) (x.rk v.toNat) + 1

theorem Ix.dep_le {x : Ix} (h : x.Ok) {u v : Int} (ht : x.two u v = true) : x.dep u v ≤ 24 := by
  obtain ⟨hne, h1, h2, h3, h4⟩ := two_iff ht
  have := (h.rk u.toNat (by omega)).1
  have := h.n2
  unfold Ix.dep; omega

theorem Ix.dep_mid {x : Ix} {u v : Int} (h1 : x.rk (x.at_ u v).m.toNat < x.rk u.toNat) (h2 : x.rk (x.at_ u v).m.toNat < x.rk v.toNat) :
    x.dep u (x.at_ u v).m < x.dep u v ∧ x.dep (x.at_ u v).m v < x.dep u v := by unfold Ix.dep; omega

/-- More fuel than the depth changes nothing. -/
theorem Ix.add_fuel {x : Ix} (hf : x.Fit) (hok : x.Ok) : ∀ (d f g : Nat) (u v : Int) (l : List Int), x.dep u v ≤ d → d ≤ f → d ≤ g → x.add f u v l = x.add g u v l := by
  intro d
  induction d with
  | zero => intro f g u v l h; unfold Ix.dep at h; omega
  | succ d ih =>
    intro f g u v l h hfd hgd
    obtain ⟨f, rfl⟩ : ∃ k, f = k + 1 := ⟨f - 1, by omega⟩
    obtain ⟨g, rfl⟩ : ∃ k, g = k + 1 := ⟨g - 1, by omega⟩
    simp only [Ix.add]
    rcases hf.cases hok u v with h0 | ⟨h1, h2, h3, ⟨h4, h5, h6⟩ | ⟨h4, h5, h6, h7, h8⟩⟩
    · rw [if_pos h0, if_pos h0]
    · by_cases h0 : x.at_ u v = En.none
      · rw [if_pos h0, if_pos h0]
      · have hm : (x.at_ u v).m < 0 := by omega
        simp only [if_neg h0, if_pos hm]
    · by_cases h0 : x.at_ u v = En.none
      · rw [if_pos h0, if_pos h0]
      · have hd := Ix.dep_mid h7 h8
        have hm : ¬ (x.at_ u v).m < 0 := by omega
        simp only [if_neg h0, if_neg hm]
        rw [ih f g u _ l (by omega) (by omega) (by omega)]
        split
        · rfl
        · exact ih f g _ v _ (by omega) (by omega) (by omega)

/-- No list has more than 23 arcs, and none is empty behind a success. -/
theorem Ix.add_len (x : Ix) : ∀ (f : Nat) (u v : Int) (l : List Int), l.length ≤ 23 → (x.add f u v l).1.length ≤ 23 ∧ ((x.add f u v l).2 = 0 → l.length < (x.add f u v l).1.length) ∧ ((x.add f u v l).2 ≠ 0 → (x.add f u v l).1 = [] ∧ 0 ≤ (x.add f u v l).2 ∧ (x.add f u v l).2 ≤ 9) := by
  intro f
  induction f with
  | zero => intro u v l h; exact ⟨by simp [Ix.add], by simp [Ix.add], by simp [Ix.add]⟩
  | succ f ih =>
    intro u v l h
    simp only [Ix.add]
    split
    · exact ⟨by simp, by simp, by simp⟩
    · split
      · split
        · exact ⟨by simp, by simp, by simp⟩
        · exact ⟨by simp; omega, by simp, by simp⟩
      · have i1 := ih u (x.at_ u v).m l h
        split
        · rename_i hne
          exact ⟨by simp, fun e => absurd e hne, fun _ => ⟨rfl, (i1.2.2 hne).2⟩⟩
        · rename_i heq
          have heq : (x.add f u (x.at_ u v).m l).2 = 0 := by simpa using heq
          have i2 := ih (x.at_ u v).m v _ i1.1
          exact ⟨i2.1, fun e => Nat.lt_trans (i1.2.1 heq) (i2.2.1 e), i2.2.2⟩

end Go.Proofs.YtpkocidcfnlbiaaDoor

/- The document's unpacking of an entry; walked. -/
set_option linter.unusedVariables false
set_option linter.unusedSimpArgs false
namespace Go.Proofs.YtpkocidcfnlbiaaDoor
open Go.RowKit Go.Deep
attribute [local go_sem ↓] Go.wp_at_zero Go.wp_at_succ
attribute [local go_sem high] run_eql_en run_neq_en

/-- A slice value that reads as a list: nil of the empty one. -/
def SlL (w : World) (v : Value) (l : List Int) : Prop :=
  (l = [] ∧ v = .slice none 0 0) ∨ (∃ b off c, 0 < l.length ∧ v = .slice (some ⟨b, off, none⟩) l.length c ∧ ∀ j, j < l.length → w.cell? ⟨b, off + j, none⟩ = some (.int .i64 (l.getD j 0)))
theorem SlL.fr {w w' : World} {v : Value} {l : List Int} (h : SlL w v l) (hf : Fr No w w') : SlL w' v l := by
  rcases h with h | ⟨b, off, c, h0, e, hc⟩
  · exact .inl h
  · exact .inr ⟨b, off, c, h0, e, fun j hj => hf.cell_some (hc j hj) (fun h => h)⟩
theorem SlL.nil (w : World) : SlL w (.slice none 0 0) [] := .inl ⟨rfl, rfl⟩

end Go.Proofs.YtpkocidcfnlbiaaDoor

/- The document's unpacking of an entry, whole; walked. -/
set_option linter.unusedVariables false
set_option linter.unusedSimpArgs false
namespace Go.Proofs.YtpkocidcfnlbiaaDoor
open Go.RowKit Go.Deep
attribute [local go_sem ↓] Go.wp_at_zero Go.wp_at_succ
attribute [local go_sem high] run_eql_en run_neq_en

end Go.Proofs.YtpkocidcfnlbiaaDoor
