/- The best open arc is the first of the least ones; what plays no part in it: plain. -/
import Derived.Test.YtpkocidcfnlbiaaGreatDoorWh
set_option linter.unusedVariables false
set_option linter.unusedSimpArgs false
namespace Go.Proofs.YtpkocidcfnlbiaaGreatDoor
open Go.RowKit Go.Deep

def Gr.cand (G : Gr) (u v : Int) (i : Nat) : Prop := G.tk i = true ∧ (G.arc i).t = u ∧ (G.arc i).h = v ∧ (G.arc i).c = false ∧ (G.arc i).w < 4611686018427387906
def BChar (G : Gr) (u v : Int) (N : Nat) (acc : Int × Int) : Prop :=
  (acc = (4611686018427387906, -1) ∧ ∀ i, i < N → ¬ G.cand u v i) ∨
  ∃ k, k < N ∧ G.cand u v k ∧ acc = ((G.arc k).w, (k : Int)) ∧ (∀ i, i < N → G.cand u v i → (G.arc k).w ≤ (G.arc i).w) ∧ ∀ i, i < k → G.cand u v i → (G.arc k).w < (G.arc i).w
theorem bchar_fold (G : Gr) (u v : Int) : ∀ N, BChar G u v N ((((List.range N).filter G.tk).map (fun i : Nat => (i : Int))).foldl (rstep G.arc u v) (4611686018427387906, -1))
  | 0 => .inl ⟨rfl, fun i hi => absurd hi (by omega)⟩
  | N + 1 => by
    have ih := bchar_fold G u v N
    rw [List.range_succ, List.filter_append, List.map_append, List.foldl_append]
    obtain ⟨acc, hacc⟩ : ∃ acc, (((List.range N).filter G.tk).map (fun i : Nat => (i : Int))).foldl (rstep G.arc u v) (4611686018427387906, -1) = acc := ⟨_, rfl⟩
    rw [hacc] at ih ⊢
    have hle : acc.1 ≤ 4611686018427387906 := by
      rcases ih with ⟨e, _⟩ | ⟨k, _, hc, e, _⟩
      · rw [e]; exact Int.le_refl _
      · rw [e]; have := hc.2.2.2.2; show (G.arc k).w ≤ _; omega
    cases htk : G.tk N with
    | false =>
      have e : List.filter G.tk [N] = [] := by simp [htk]
      rw [e]
      show BChar G u v (N + 1) acc
      rcases ih with ⟨e, h⟩ | ⟨k, hk, hc, e, h1, h2⟩
      · refine .inl ⟨e, fun i hi hci => ?_⟩
        by_cases ei : i = N
        · rw [ei] at hci; rw [hci.1] at htk; cases htk
        · exact h i (by omega) hci
      · refine .inr ⟨k, by omega, hc, e, fun i hi hci => ?_, h2⟩
        by_cases ei : i = N
        · rw [ei] at hci; rw [hci.1] at htk; cases htk
        · exact h1 i (by omega) hci
    | true =>
      have e : List.filter G.tk [N] = [N] := by simp [htk]
      rw [e]
      show BChar G u v (N + 1) (rstep G.arc u v acc (N : Int))
      unfold rstep
      rw [Int.toNat_natCast]
      by_cases hc : (G.arc N).t = u ∧ (G.arc N).h = v ∧ (G.arc N).c = false ∧ (G.arc N).w < acc.1
      · rw [if_pos hc]
        have hcN : G.cand u v N := ⟨htk, hc.1, hc.2.1, hc.2.2.1, by omega⟩
        refine .inr ⟨N, Nat.lt_succ_self N, hcN, rfl, fun i hi hci => ?_, fun i hi hci => ?_⟩
        · by_cases ei : i = N
          · rw [ei]; exact Int.le_refl _
          · rcases ih with ⟨_, h⟩ | ⟨k, hk, hck, e, h1, h2⟩
            · exact absurd hci (h i (by omega))
            · have := h1 i (by omega) hci
              have h3 := hc.2.2.2
              rw [e] at h3
              have h3 : (G.arc N).w < (G.arc k).w := h3
              omega
        · rcases ih with ⟨_, h⟩ | ⟨k, hk, hck, e, h1, h2⟩
          · exact absurd hci (h i (by omega))
          · have := h1 i (by omega) hci
            have h3 := hc.2.2.2
            rw [e] at h3
            have h3 : (G.arc N).w < (G.arc k).w := h3
            omega
      · rw [if_neg hc]
        rcases ih with ⟨e, h⟩ | ⟨k, hk, hck, e, h1, h2⟩
        · refine .inl ⟨e, fun i hi hci => ?_⟩
          by_cases ei : i = N
          · rw [ei] at hci
            exact hc ⟨hci.2.1, hci.2.2.1, hci.2.2.2.1, by rw [e]; exact hci.2.2.2.2⟩
          · exact h i (by omega) hci
        · refine .inr ⟨k, by omega, hck, e, fun i hi hci => ?_, h2⟩
          by_cases ei : i = N
          · rw [ei] at hci ⊢
            have : ¬ ((G.arc N).w < acc.1) := fun hh => hc ⟨hci.2.1, hci.2.2.1, hci.2.2.2.1, hh⟩
            rw [e] at this
            have this : ¬ ((G.arc N).w < (G.arc k).w) := this
            omega
          · exact h1 i (by omega) hci
theorem Gr.best_char (G : Gr) (u v : Int) : BChar G u v 64 (G.best u v) := bchar_fold G u v 64
theorem best_eq_of {G G' : Gr} {u v : Int} (h1 : ∀ i, i < 64 → G'.cand u v i → G.cand u v i ∧ (G'.arc i).w = (G.arc i).w)
    (h2 : ∀ k, k < 64 → G.cand u v k → G.best u v = ((G.arc k).w, (k : Int)) → G'.cand u v k) : G'.best u v = G.best u v := by
  rcases G.best_char u v with ⟨e, h⟩ | ⟨k, hk, hc, e, hle, hlt⟩
  · rcases G'.best_char u v with ⟨e', _⟩ | ⟨k', hk', hc', _⟩
    · rw [e, e']
    · exact absurd (h1 k' hk' hc').1 (h k' hk')
  · have hck := h2 k hk hc e
    have hwk := (h1 k hk hck).2
    rcases G'.best_char u v with ⟨_, h'⟩ | ⟨k', hk', hc', e', hle', hlt'⟩
    · exact absurd hck (h' k hk)
    · obtain ⟨hc2, hw2⟩ := h1 k' hk' hc'
      have a1 := hle k' hk' hc2
      have a2 := hle' k hk hck
      rcases Nat.lt_trichotomy k' k with h | h | h
      · have := hlt k' h hc2; omega
      · subst h; rw [e, e', hw2]
      · have := hlt' k h hck; omega

/-- An index hangs on the best open arcs between unlike vertices alone. -/
theorem bld_congr {G G' : Gr} {n : Nat} (hb : ∀ u v : Nat, u ≠ v → G'.best (u : Nat) (v : Nat) = G.best (u : Nat) (v : Nat)) {bf : Nat → Nat} (hinj : ∀ a b, a < n → b < n → a ≠ b → bf a ≠ bf b) : ∀ (l : List (PrEl n)) (x : Ix), x.by_ = bf → x.bld G' l = x.bld G l
  | [], _, _ => rfl
  | p :: l, x, hx => by
    obtain ⟨h1, h2, h3⟩ := p.2
    have e : x.bstep G' p.1 = x.bstep G p.1 := by
      unfold Ix.bstep
      rw [hx, hb _ _ (hinj _ _ h1 h2 h3)]
    show (x.bstep G' p.1).bld G' l = (x.bstep G p.1).bld G l
    rw [e]
    exact bld_congr hb hinj l _ ((Ix.bstep_by _ _ _).trans hx)
theorem Ix.Ok.build_congr {x : Ix} (h : x.Ok) {G G' : Gr} (hb : ∀ u v : Nat, u ≠ v → G'.best (u : Nat) (v : Nat) = G.best (u : Nat) (v : Nat)) : x.build G' = x.build G :=
  bld_congr hb (fun a b ha hb hne e => hne (h.by_inj ha hb e)) _ x rfl

theorem tcode_0 {G : Gr} {k : Nat} (hk : k < 64) : G.tcode (k : Nat) true = 0 ↔ G.tk k = true ∧ (G.arc k).c = false := by
  have h64 : (0 : Int) ≤ (k : Nat) ∧ ((k : Nat) : Int) < 64 := by omega
  unfold Gr.tcode Gr.code
  rw [if_pos h64, Int.toNat_natCast]
  cases htk : G.tk k with
  | false => simp
  | true => cases hc : (G.arc k).c <;> simp
/-- Closed: all but the arc that was the best one is as it was. -/
theorem close_best {G : Gr} {k : Nat} (hk : k < 64) (u v : Nat) (hne : u ≠ v) (hno : ¬ (G.tk k = true ∧ (G.arc k).c = false ∧ (G.arc k).t ≠ (G.arc k).h ∧ (G.best (G.arc k).t (G.arc k).h).2 = (k : Int))) : (G.tn (k : Nat) true).best (u : Nat) (v : Nat) = G.best (u : Nat) (v : Nat) := by
  by_cases h0 : G.tcode (k : Nat) true = 0
  · have hG : G.tn (k : Nat) true = G.shut k true := by unfold Gr.tn; rw [if_pos h0, Int.toNat_natCast]
    obtain ⟨htk, hc⟩ := (tcode_0 hk).1 h0
    rw [hG]
    have ha : ∀ i, i ≠ k → (G.shut k true).arc i = G.arc i := fun i hi => if_neg hi
    have hak : ((G.shut k true).arc k).c = true := by show (if k = k then _ else _ : Arc4).c = true; rw [if_pos rfl]
    refine best_eq_of (fun i hi hci => ?_) (fun i hi hci e => ?_)
    · have hik : i ≠ k := fun e => by rw [e] at hci; rw [hci.2.2.2.1] at hak; cases hak
      obtain ⟨q1, q2⟩ := hci
      rw [ha i hik] at q2 ⊢
      exact ⟨⟨q1, q2⟩, rfl⟩
    · have hik : i ≠ k := fun ee => by
        subst ee
        refine hno ⟨htk, hc, fun e2 => ?_, ?_⟩
        · rw [hci.2.1, hci.2.2.1] at e2; exact hne (by omega)
        · rw [hci.2.1, hci.2.2.1, e]
      obtain ⟨q1, q2⟩ := hci
      refine ⟨q1, ?_⟩
      rw [ha i hik]; exact q2
  · have hG : G.tn (k : Nat) true = G := by unfold Gr.tn; rw [if_neg h0]
    rw [hG]
/-- Closed, or deleted: alike. -/
theorem delete_best {G : Gr} {k : Nat} (hk : k < 64) (u v : Nat) : ((G.tn (k : Nat) true).rm (k : Nat)).best (u : Nat) (v : Nat) = (G.tn (k : Nat) true).best (u : Nat) (v : Nat) := by
  obtain ⟨G1, h1⟩ : ∃ G1, G.tn (k : Nat) true = G1 := ⟨_, rfl⟩
  have hcl : G1.tk k = true → (G1.arc k).c = true := fun htk => by
    rw [← h1] at htk ⊢
    by_cases h0 : G.tcode (k : Nat) true = 0
    · have hG : G.tn (k : Nat) true = G.shut k true := by unfold Gr.tn; rw [if_pos h0, Int.toNat_natCast]
      rw [hG]; show (if k = k then _ else _ : Arc4).c = true; rw [if_pos rfl]
    · have hG : G.tn (k : Nat) true = G := by unfold Gr.tn; rw [if_neg h0]
      rw [hG] at htk ⊢
      cases hc : (G.arc k).c with
      | true => rfl
      | false => exact absurd ((tcode_0 hk).2 ⟨htk, hc⟩) h0
  rw [h1]
  by_cases h0 : G1.code (k : Nat) = 0
  · have hG : G1.rm (k : Nat) = G1.del k := by unfold Gr.rm; rw [if_pos h0, Int.toNat_natCast]
    rw [hG]
    have ha : ∀ i, i ≠ k → (G1.del k).arc i = G1.arc i := fun i hi => if_neg hi
    have ht : ∀ i, i ≠ k → (G1.del k).tk i = G1.tk i := fun i hi => if_neg hi
    have hk0 : (G1.del k).tk k = false := if_pos rfl
    refine best_eq_of (fun i hi hci => ?_) (fun i hi hci e => ?_)
    · have hik : i ≠ k := fun e => by rw [e] at hci; rw [hci.1] at hk0; cases hk0
      obtain ⟨q1, q2⟩ := hci
      rw [ha i hik] at q2 ⊢
      rw [ht i hik] at q1
      exact ⟨⟨q1, q2⟩, rfl⟩
    · have hik : i ≠ k := fun e => by subst e; have := hcl hci.1; rw [hci.2.2.2.1] at this; cases this
      obtain ⟨q1, q2⟩ := hci
      refine ⟨by rw [ht i hik]; exact q1, ?_⟩
      rw [ha i hik]; exact q2
  · have hG : G1.rm (k : Nat) = G1 := by unfold Gr.rm; rw [if_neg h0]
    rw [hG]
/-- Put back: the graph that was there. -/
theorem put_back {G : Gr} {k : Nat} (hk : k < 64) (hoka : G.okA (G.arc k)) (htk : G.tk k = true) (hc : (G.arc k).c = false) :
    ((G.tn (k : Nat) true).rm (k : Nat)).icode (k : Nat) (G.arc k) = 0 ∧ ((G.tn (k : Nat) true).rm (k : Nat)).put (k : Nat) (G.arc k) = G := by
  have h64 : (0 : Int) ≤ (k : Nat) ∧ ((k : Nat) : Int) < 64 := by omega
  have e1 : G.tn (k : Nat) true = G.shut k true := by unfold Gr.tn; rw [if_pos ((tcode_0 hk).2 ⟨htk, hc⟩), Int.toNat_natCast]
  have e2 : (G.shut k true).rm (k : Nat) = (G.shut k true).del k := by
    unfold Gr.rm Gr.code
    rw [if_pos h64, Int.toNat_natCast, show (G.shut k true).tk k = true from htk]
    rfl
  rw [e1, e2]
  have hi : ((G.shut k true).del k).icode (k : Nat) (G.arc k) = 0 := by
    unfold Gr.icode
    rw [if_pos ⟨h64, hoka⟩, Int.toNat_natCast, show ((G.shut k true).del k).tk k = false from if_pos rfl]
    rfl
  refine ⟨hi, ?_⟩
  unfold Gr.put
  rw [if_pos hi, Int.toNat_natCast]
  unfold Gr.ins Gr.del Gr.shut
  cases G with
  | mk n most arc tk =>
    simp only [Gr.mk.injEq, true_and]
    constructor
    · funext i
      by_cases h : i = k
      · rw [if_pos h, h]
      · simp only [if_neg h]
    · funext i
      by_cases h : i = k
      · rw [if_pos h, h]; exact htk.symm
      · simp only [if_neg h]

end Go.Proofs.YtpkocidcfnlbiaaGreatDoor
