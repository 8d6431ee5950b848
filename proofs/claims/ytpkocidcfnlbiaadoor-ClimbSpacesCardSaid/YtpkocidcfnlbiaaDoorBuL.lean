/- The law 'BuildUps' returns true, by the contracts; walked. -/
import Derived.Test.YtpkocidcfnlbiaaDoorWay
import Derived.Test.YtpkocidcfnlbiaaDoorAll
import Derived.Test.YtpkocidcfnlbiaaDoorAw6
import Derived.Test.YtpkocidcfnlbiaaDoorRbd
set_option linter.unusedVariables false
set_option linter.unusedSimpArgs false
namespace Go.Proofs.YtpkocidcfnlbiaaDoor
open Go.RowKit Go.Deep

/-- The least that two rows come to. -/
def lst2 (U W : Nat → Int) (k : Nat) : Int := mn (fun _ => true) (fun v => tw (U v) (W v)) k
theorem lst2_meet {U W : Nat → Int} {n : Nat} {d : Int} (h1 : ∀ v, v < n → d ≤ tw (U v) (W v)) (h2 : d = 4611686018427387906 ∨ ∃ v, v < n ∧ tw (U v) (W v) = d) (hd : d ≤ 4611686018427387906) : lst2 U W n = d := by
  have h3 : lst2 U W n ≤ 4611686018427387906 := mn_none (p := fun _ => true) (f := fun v => tw (U v) (W v)) n
  have h4 : lst2 U W n = 4611686018427387906 ∨ ∃ i, i < n ∧ true = true ∧ lst2 U W n = tw (U i) (W i) := mn_is (p := fun _ => true) (f := fun v => tw (U v) (W v)) n
  have h5 : ∀ i, i < n → lst2 U W n ≤ tw (U i) (W i) := fun i hi => mn_le (p := fun _ => true) (f := fun v => tw (U v) (W v)) n i hi rfl
  rcases h2 with rfl | ⟨v, hv, e2⟩
  · rcases h4 with e | ⟨i, hi, _, e⟩
    · exact e
    · have := h1 i hi
      omega
  · have h6 := h5 v hv
    have h7 := h1 v hv
    rcases h4 with e | ⟨i, hi, _, e⟩
    · omega
    · have := h1 i hi
      omega

/-- Entries that are told so far. -/
def Ix.mixd (x0 x : Ix) (u v : Nat) : Ix := ⟨x0.n, x0.rk, x0.by_, fun a b => if a < u ∨ (a = u ∧ b < v) then x.ent a b else x0.ent a b⟩
theorem RxMem.store {w : World} {L : RxLoc} {x : Ix} (h : RxMem w L x) {a b : Nat} (hu : a < 24) (hv : b < 24) {e : En} (he : e.Ok) :
    RxMem (((w.setCell ⟨L.b, 1 + a * 72 + b * 3, none⟩ (.int .i64 e.w)).setCell ⟨L.b, 1 + a * 72 + b * 3 + 1, none⟩ (.int .i64 e.a)).setCell ⟨L.b, 1 + a * 72 + b * 3 + 2, none⟩ (.int .i64 e.m)) L (x.set a b e) := by
  have F : Fr (One L.b) w (((w.setCell ⟨L.b, 1 + a * 72 + b * 3, none⟩ (.int .i64 e.w)).setCell ⟨L.b, 1 + a * 72 + b * 3 + 1, none⟩ (.int .i64 e.a)).setCell ⟨L.b, 1 + a * 72 + b * 3 + 2, none⟩ (.int .i64 e.m)) :=
    (((Fr.refl _ _).set1 _ _).set1 _ _).set1 _ _
  have ok' : (x.set a b e).Ok := ⟨h.ok.n1, h.ok.n2, h.ok.rk, h.ok.by_, fun p q => by
    show (if p = a ∧ q = b then e else x.ent p q).Ok
    split
    · exact he
    · exact h.ok.ent p q⟩
  refine ⟨ok', ?_, h.rk.of_fr F h.hr.1 h.hr.2, ⟨by simpa using h.hr.1, h.hr.2⟩⟩
  refine (((h.blk.setCell (1 + a * 72 + b * 3) _).setCell (1 + a * 72 + b * 3 + 1) _).setCell (1 + a * 72 + b * 3 + 2) _).congr fun i hi => ?_
  simp only [upd]
  by_cases h0 : i = 0
  · subst h0
    rw [if_neg (by omega), if_neg (by omega), if_neg (by omega)]; rfl
  · simp only [Ix.RV, if_neg h0, Ix.set]
    by_cases hc : (i - 1) / 72 = a ∧ (i - 1) % 72 / 3 = b
    · rw [if_pos hc]
      have hd : i = 1 + a * 72 + b * 3 + (i - 1) % 3 := by omega
      have h3 : (i - 1) % 3 < 3 := Nat.mod_lt _ (by omega)
      generalize (i - 1) % 3 = c at hd h3 ⊢
      subst hd
      match c, h3 with
      | 0, _ => rw [if_neg (by omega), if_neg (by omega), if_pos (by omega)]; rfl
      | 1, _ => rw [if_neg (by omega), if_pos (by omega)]; rfl
      | 2, _ => rw [if_pos (by omega)]; rfl
    · rw [if_neg hc, if_neg (by omega), if_neg (by omega), if_neg (by omega)]
theorem Ix.mixd_set (x0 x : Ix) (u v : Nat) : (x0.mixd x u v).set u v (x.ent u v) = x0.mixd x u (v + 1) := by
  unfold Ix.mixd Ix.set
  congr 1
  funext a b
  show (if a = u ∧ b = v then x.ent u v else if a < u ∨ (a = u ∧ b < v) then x.ent a b else x0.ent a b) = if a < u ∨ (a = u ∧ b < v + 1) then x.ent a b else x0.ent a b
  by_cases h : a = u ∧ b = v
  · obtain ⟨rfl, rfl⟩ := h
    rw [if_pos ⟨rfl, rfl⟩, if_pos (by omega)]
  · rw [if_neg h]
    by_cases h2 : a < u ∨ (a = u ∧ b < v)
    · rw [if_pos h2, if_pos (by omega)]
    · rw [if_neg h2, if_neg (by omega)]

theorem srow_fr (w : World) (g : Nat) (cs : Array Value) : Fr (One g) w (w.setRow g cs) := ⟨rfl, rfl, rfl, by simp, fun k hk hk2 => by
  have hk2 : ¬ k = g := hk2
  simp only [World.setRow, Array.getElem?_modify]
  rw [if_neg (fun e => hk2 e.symm)]⟩
end Go.Proofs.YtpkocidcfnlbiaaDoor
