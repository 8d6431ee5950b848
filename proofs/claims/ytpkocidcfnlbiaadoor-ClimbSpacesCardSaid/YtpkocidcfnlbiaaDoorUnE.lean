/- From vertex to vertex: the program's and the document's 'Way'; walked. -/
import Derived.Test.YtpkocidcfnlbiaaDoorUnA
import Derived.Test.YtpkocidcfnlbiaaDoorMade
import Derived.StillTailTactics
set_option linter.unusedVariables false
set_option linter.unusedSimpArgs false
namespace Go.Proofs.YtpkocidcfnlbiaaDoor
open Go.RowKit Go.Deep

/-- The arcs of k ways, one behind the other; or the first code. -/
def Ix.wayTo (x : Ix) (f : Nat → Int) : Nat → List Int × Int
  | 0 => ([], 0)
  | k + 1 => if (x.wayTo f k).2 ≠ 0 then x.wayTo f k else if (x.arcs (f k) (f (k + 1))).2 ≠ 0 then ([], (x.arcs (f k) (f (k + 1))).2) else ((x.wayTo f k).1 ++ (x.arcs (f k) (f (k + 1))).1, 0)

theorem Ix.wayTo_stay (x : Ix) (f : Nat → Int) (k : Nat) (h : (x.wayTo f k).2 ≠ 0) : ∀ j, x.wayTo f (k + j) = x.wayTo f k := by
  intro j
  induction j with
  | zero => rfl
  | succ j ih =>
    have : x.wayTo f (k + (j + 1)) = x.wayTo f (k + j + 1) := rfl
    rw [this, Ix.wayTo, ih, if_pos h]
theorem Ix.arcs_len (x : Ix) (u v : Int) : (x.arcs u v).1.length ≤ 23 ∧ ((x.arcs u v).2 = 0 → 0 < (x.arcs u v).1.length) := by
  unfold Ix.arcs
  split
  · have := x.add_len 25 u v [] (by simp)
    exact ⟨this.1, fun e => by simpa using this.2.1 e⟩
  · exact ⟨by simp, by simp⟩
theorem Ix.wayTo_len (x : Ix) (f : Nat → Int) : ∀ k, (x.wayTo f k).1.length ≤ 23 * k := by
  intro k
  induction k with
  | zero => simp [Ix.wayTo]
  | succ k ih =>
    have := (x.arcs_len (f k) (f (k + 1))).1
    rw [Ix.wayTo]
    split
    · omega
    · split
      · simp
      · simp; omega
theorem Ix.wayTo_code (x : Ix) (f : Nat → Int) : ∀ k, 0 < k → (x.wayTo f k).2 = 0 → 0 < (x.wayTo f k).1.length := by
  intro k
  induction k with
  | zero => intro h; omega
  | succ k ih =>
    intro _
    rw [Ix.wayTo]
    split
    · rename_i h; intro e; exact absurd e h
    · split
      · rename_i h; intro e; exact absurd e h
      · rename_i h
        have := (x.arcs_len (f k) (f (k + 1))).2 (by simpa using h)
        intro _; simp; omega

end Go.Proofs.YtpkocidcfnlbiaaDoor

/- The law's check that its parts are awake; walked. -/
set_option linter.unusedVariables false
set_option linter.unusedSimpArgs false
namespace Go.Proofs.YtpkocidcfnlbiaaDoor
open Go.RowKit Go.Deep

def awf (j : Nat) : Int := [1, 0, 2].getD j 0
def awg (j : Nat) : Nat := [1, 0, 2].getD j 0
def aw0 : Ix := Ix.new 3 awf awg
def aw1 : Ix := aw0.setI 0 1 ⟨2, 7, -1⟩
def aw2 : Ix := aw1.setI 0 2 ⟨5, -1, 1⟩
def aw3 : Ix := aw2.setI 1 2 ⟨3, 8, -1⟩
theorem aw_fit : aw2.Fit ∧ aw3.Fit := ⟨((Ix.Fit.new _ _ _).setI _ _ _).setI _ _ _, (((Ix.Fit.new _ _ _).setI _ _ _).setI _ _ _).setI _ _ _⟩
theorem aw_perm : PermF 3 awf := ⟨by omega, by decide, by
  intro i j hi hj
  have : (i = 0 ∧ j = 1) ∨ (i = 0 ∧ j = 2) ∨ (i = 1 ∧ j = 2) := by omega
  rcases this with ⟨rfl, rfl⟩ | ⟨rfl, rfl⟩ | ⟨rfl, rfl⟩ <;> decide⟩
theorem aw_g1 : ∀ i, i < 3 → awg (awf i).toNat = i := by decide
theorem aw_g2 : ∀ r, r < 3 → awg r < 3 ∧ awf (awg r) = r := by decide
theorem aw2_arcs : aw2.arcs 0 2 = ([], 3) := by decide +kernel
theorem aw3_arcs : aw3.arcs 0 2 = ([7, 8], 0) := by decide +kernel
theorem aw3_arcs0 : aw3.arcs 0 0 = ([], 1) := by decide +kernel
theorem aw3_way : aw3.wayTo (fun j => [0, 1, 2].getD j 0) 2 = ([7, 8], 0) := by decide +kernel

theorem lit_ints {w : World} {C : Array Value} {T : TypeId} (n : Nat) (f : Nat → Int) (h : ∀ j, j < n → C[j]? = some (.int .i64 (f j))) : IntsF (w.alloc (.cells C T)) (some ⟨w.heap.size, 0, none⟩) n f := fun _ =>
  ⟨_, _, rfl, fun j hj => by rw [Nat.zero_add, (own_no (Fr.refl _ _) w.heap.size (heap_new w _)).1 j]; exact h j hj⟩
theorem lit_sl {w : World} {C : Array Value} {T : TypeId} (l : List Int) (n c : Nat) (hn : n = l.length) (h0 : 0 < l.length) (h : ∀ j, j < l.length → C[j]? = some (.int .i64 (l.getD j 0))) : SlL (w.alloc (.cells C T)) (.slice (some ⟨w.heap.size, 0, none⟩) n c) l :=
  .inr ⟨_, _, c, h0, by rw [hn], fun j hj => by rw [Nat.zero_add, (own_no (Fr.refl _ _) w.heap.size (heap_new w _)).1 j]; exact h j hj⟩
theorem fr_sub {a b c : World} (h1 : Fr No a b) {k : Nat} (h2 : Fr (One k) b c) (hk : a.heap.size ≤ k) : Fr No a c :=
  h1.trans' h2 (fun j _ hj => by have : j = k := hj; omega)

end Go.Proofs.YtpkocidcfnlbiaaDoor

/- The two laws of unpacking; walked. -/
set_option linter.unusedVariables false
set_option linter.unusedSimpArgs false
namespace Go.Proofs.YtpkocidcfnlbiaaDoor
open Go.RowKit Go.Deep

theorem LinksF.fr {w w' : World} {A : Option Addr} {n : Nat} {f : Nat → Lk} (h : LinksF w A n f) (hf : Fr No w w') : LinksF w' A n f := fun hn => by
  obtain ⟨b, off, e, hc⟩ := h hn
  exact ⟨b, off, e, fun j hj => (hc j hj).fr hf (fun h => h)⟩
theorem Ix.fit_start (n num : Nat) (lk : Nat → Lk) (k : Nat) : ((Ix.start n num).sets lk k).Fit := (Ix.Fit.start _ _).sets _ _

end Go.Proofs.YtpkocidcfnlbiaaDoor
