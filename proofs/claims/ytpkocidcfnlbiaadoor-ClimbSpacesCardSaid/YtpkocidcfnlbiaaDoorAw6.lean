/- The build law's check that its parts are awake; walked. -/
import Derived.Test.YtpkocidcfnlbiaaDoorWhl
import Derived.Test.YtpkocidcfnlbiaaDoorBts
import Derived.Test.YtpkocidcfnlbiaaDoorLks
import Derived.Test.YtpkocidcfnlbiaaDoorAwk
set_option linter.unusedVariables false
set_option linter.unusedSimpArgs false
namespace Go.Proofs.YtpkocidcfnlbiaaDoor
open Go.RowKit Go.Shelf Go.Deep
attribute [local go_sem high] run_eql_en run_neq_en

def a6g : Gr := ((Gr.zero 3 4).ins 7 ⟨((0 : Nat) : Int), ((1 : Nat) : Int), 2, false⟩).ins 8 ⟨((1 : Nat) : Int), ((2 : Nat) : Int), 3, false⟩
def a6f (j : Nat) : Int := [0, 2, 1].getD j 0
def a6h (j : Nat) : Nat := [0, 2, 1].getD j 0
theorem a6_perm : PermF 3 a6f := ⟨by omega, by decide, by
  intro i j h1 h2
  (have : (i = 0 ∧ j = 1) ∨ (i = 0 ∧ j = 2) ∨ (i = 1 ∧ j = 2) := by omega)
  rcases this with ⟨rfl, rfl⟩ | ⟨rfl, rfl⟩ | ⟨rfl, rfl⟩ <;> decide⟩
theorem a6_g1 : ∀ i, i < 3 → a6h (a6f i).toNat = i := by decide
theorem a6_g2 : ∀ r, r < 3 → a6h r < 3 ∧ a6f (a6h r) = r := by decide
def a6x : Ix := (Ix.new 3 awf awg).build a6g
def a6y : Ix := (Ix.new 3 a6f a6h).build a6g
theorem a6_wt : a6g.Wt := by
  intro i hi h
  have : i = 7 ∨ i = 8 := by
    by_cases h8 : i = 8
    · exact .inr h8
    · by_cases h7 : i = 7
      · exact .inl h7
      · have : a6g.tk i = false := by
          show (if i = 8 then true else if i = 7 then true else false) = false
          rw [if_neg h8, if_neg h7]
        rw [this] at h; cases h
  rcases this with rfl | rfl <;> decide
theorem a6_hd : a6g.Hd a6g.n := ⟨rfl, by decide⟩
theorem a6_x : a6x.shorts.map (fun l => (l.t, l.h, l.e.w, l.e.a, l.e.m)) = [(0, 2, 5, -1, 1)] := by decide +kernel
theorem a6_x1 : a6x.shorts.length = 1 := by have := congrArg List.length a6_x; simpa using this
theorem a6_x2 : a6x.shorts.getD 0 Lk.zero = ⟨0, 2, ⟨5, -1, 1⟩⟩ := by
  have h1 := a6_x1
  have h2 := a6_x
  obtain ⟨y, hy⟩ : ∃ y, a6x.shorts = [y] := by
    match hs : a6x.shorts with
    | [] => rw [hs] at h1; cases h1
    | [y] => exact ⟨y, rfl⟩
    | _ :: _ :: _ => rw [hs] at h1; simp at h1
  rw [hy] at h2 ⊢
  obtain ⟨a, b, ⟨c, d, e⟩⟩ := y
  simp at h2
  obtain ⟨rfl, rfl, rfl, rfl, rfl⟩ := h2
  rfl
theorem a6_y : a6y.shorts.length = 0 := by decide +kernel
theorem a6_d : a6g.btw ((Ix.new 3 awf awg).below 0 2) 0 2 = 5 := by decide +kernel
theorem a6_c0 : (Gr.zero 3 4).cnt < (Gr.zero 3 4).most := by decide +kernel
theorem a6_c1 : ((Gr.zero 3 4).ins 7 ⟨((0 : Nat) : Int), ((1 : Nat) : Int), 2, false⟩).cnt < ((Gr.zero 3 4).ins 7 ⟨((0 : Nat) : Int), ((1 : Nat) : Int), 2, false⟩).most := by decide +kernel

def a6k (j : Nat) : Int := [0, 1].getD j 0

end Go.Proofs.YtpkocidcfnlbiaaDoor
