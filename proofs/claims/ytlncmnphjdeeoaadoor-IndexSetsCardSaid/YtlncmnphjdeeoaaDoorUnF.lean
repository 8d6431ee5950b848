/- The law's check that its parts are awake; walked. -/
import Derived.Test.YtlncmnphjdeeoaaDoorUnE
set_option linter.unusedVariables false
set_option linter.unusedSimpArgs false
namespace Go.Proofs.YtlncmnphjdeeoaaDoor
open Go.RowKit Go.Deep

def awf (j : Nat) : Int := [1, 0, 2].getD j 0
def awg (j : Nat) : Nat := [1, 0, 2].getD j 0
def aw0 : Ix := Ix.new 3 awf awg
def aw1 : Ix := aw0.setI 0 1 ⟨2, 7, -1⟩
def aw2 : Ix := aw1.setI 0 2 ⟨5, -1, 1⟩
def aw3 : Ix := aw2.setI 1 2 ⟨3, 8, -1⟩
theorem aw_fit : aw2.Fit ∧ aw3.Fit := ⟨((Ix.Fit.new _ _ _).setI _ _ _).setI _ _ _, (((Ix.Fit.new _ _ _).setI _ _ _).setI _ _ _).setI _ _ _⟩
theorem aw_perm : PermF 3 awf := ⟨by omega, by decide, by
  intro i j hi hj
  have : (i = 0 ∧ j = 1) ∨ (i = 0 ∧ j = 2) ∨ (i = 1 ∧ j = 2) := by omega
  rcases this with ⟨rfl, rfl⟩ | ⟨rfl, rfl⟩ | ⟨rfl, rfl⟩ <;> decide⟩
theorem aw_g1 : ∀ i, i < 3 → awg (awf i).toNat = i := by decide
theorem aw_g2 : ∀ r, r < 3 → awg r < 3 ∧ awf (awg r) = r := by decide
theorem aw2_arcs : aw2.arcs 0 2 = ([], 3) := by decide +kernel
theorem aw3_arcs : aw3.arcs 0 2 = ([7, 8], 0) := by decide +kernel
theorem aw3_arcs0 : aw3.arcs 0 0 = ([], 1) := by decide +kernel
theorem aw3_way : aw3.wayTo (fun j => [0, 1, 2].getD j 0) 2 = ([7, 8], 0) := by decide +kernel

theorem lit_ints {w : World} {C : Array Value} {T : TypeId} (n : Nat) (f : Nat → Int) (h : ∀ j, j < n → C[j]? = some (.int .i64 (f j))) : IntsF (w.alloc (.cells C T)) (some ⟨w.heap.size, 0, none⟩) n f := fun _ =>
  ⟨_, _, rfl, fun j hj => by rw [Nat.zero_add, (own_no (Fr.refl _ _) w.heap.size (heap_new w _)).1 j]; exact h j hj⟩
theorem lit_sl {w : World} {C : Array Value} {T : TypeId} (l : List Int) (n c : Nat) (hn : n = l.length) (h0 : 0 < l.length) (h : ∀ j, j < l.length → C[j]? = some (.int .i64 (l.getD j 0))) : SlL (w.alloc (.cells C T)) (.slice (some ⟨w.heap.size, 0, none⟩) n c) l :=
  .inr ⟨_, _, c, h0, by rw [hn], fun j hj => by rw [Nat.zero_add, (own_no (Fr.refl _ _) w.heap.size (heap_new w _)).1 j]; exact h j hj⟩
theorem fr_sub {a b c : World} (h1 : Fr No a b) {k : Nat} (h2 : Fr (One k) b c) (hk : a.heap.size ≤ k) : Fr No a c :=
  h1.trans' h2 (fun j _ hj => by have : j = k := hj; omega)

set_option maxRecDepth 100000 in
set_option maxHeartbeats 4000000 in
theorem awake_calls (w : World) (hN : NoneVar w) : Calls Tryd.prog 14 #[] w fun e w' => e = .returned (.bool true) ∧ Fr No w w' := by
  have HN := hid hN
  clear hN
  go_enter Tryd.func14, Tryd.ntmps14
  go_wp2_with fail
  refine (new_yes (some ⟨w.heap.size, 0, none⟩) 3 3 awf _ (lit_ints 3 awf (by intro j hj; (have : j = 0 ∨ j = 1 ∨ j = 2 := by omega); rcases this with rfl | rfl | rfl <;> rfl)) (by decide) aw_perm awg aw_g1 aw_g2 (HN.out.fr ((Fr.refl No _).alloc _) (fun h => h))).mono ?_
  rintro e w1 ⟨L, rfl, hf, hm, hb, _, _⟩
  have hsz : w.heap.size ≤ L.b := by simp only [World.alloc, Array.size_push] at hb; omega
  have M0 := hid (show IxMem w1 L aw0 from hm)
  have F0 := hid (((Fr.refl No w).alloc _).trans hf)
  clear hf hm hb
  go_wp2_with fail
  refine (set_calls M0.out 0 1 ⟨2, 7, -1⟩).mono ?_
  rintro e w2 ⟨rfl, hm, hf⟩
  have M1 := hid (show IxMem w2 L aw1 from hm)
  have F1 := hid (fr_sub F0.out hf hsz)
  clear hm hf
  go_wp2_with fail
  refine (set_calls M1.out 0 2 ⟨5, -1, 1⟩).mono ?_
  rintro e w3 ⟨rfl, hm, hf⟩
  have M2 := hid (show IxMem w3 L aw2 from hm)
  have F2 := hid (fr_sub F1.out hf hsz)
  clear hm hf
  go_wp2_with fail
  refine (parcs_calls aw_fit.1 M2.out 0 2).mono ?_
  rintro e w4 ⟨sv1, rfl, hf, _⟩
  rw [aw2_arcs]
  have M2b := hid (M2.out.no hf)
  have F3 := hid (F2.out.trans hf)
  clear hf
  go_wp2_with fail
  refine (set_calls M2b.out 1 2 ⟨3, 8, -1⟩).mono ?_
  rintro e w5 ⟨rfl, hm, hf⟩
  have M3 := hid (show IxMem w5 L aw3 from hm)
  have F4 := hid (fr_sub F3.out hf hsz)
  clear hm hf
  go_wp2_with fail
  refine (parcs_calls aw_fit.2 M3.out 0 2).mono ?_
  rintro e w6 ⟨sv2, rfl, hf, hs⟩
  rw [aw3_arcs] at hs ⊢
  have M4 := hid (M3.out.no hf)
  have F5 := hid (F4.out.trans hf)
  have S5 := hid hs
  clear hf hs
  go_wp2_with fail
  refine (parcs_calls aw_fit.2 M4.out 0 0).mono ?_
  rintro e w7 ⟨sv3, rfl, hf, _⟩
  rw [aw3_arcs0]
  have M5 := hid (M4.out.no hf)
  have F6 := hid (F5.out.trans hf)
  have S6 := hid (S5.out.fr hf)
  clear hf
  go_wp2_with fail
  have fa := (Fr.refl No w7).alloc (Obj.cells #[Value.int IntKind.i64 0, Value.int IntKind.i64 1, Value.int IntKind.i64 2] 3)
  refine (pway_calls aw_fit.2 M5.out.ok (M5.out.no fa) (some ⟨w7.heap.size, 0, none⟩) 3 3 (fun j => [0, 1, 2].getD j 0) (lit_ints 3 _ (by intro j hj; (have : j = 0 ∨ j = 1 ∨ j = 2 := by omega); rcases this with rfl | rfl | rfl <;> rfl)) (by decide)).mono ?_
  rintro e w8 ⟨sv4, rfl, hf, hs⟩
  rw [show 3 - 1 = 2 from rfl, aw3_way] at hs ⊢
  have F7 := hid (F6.out.trans (fa.trans hf))
  have S7 := hid (S6.out.fr (fa.trans hf))
  have S8 := hid hs
  clear hf hs fa
  go_wp2_with fail
  have fa := (Fr.refl No w8).alloc (Obj.cells #[Value.int IntKind.i64 7, Value.int IntKind.i64 8] 3)
  refine (ints_same (l := [7, 8]) (S7.out.fr fa) (lit_sl [7, 8] 2 2 rfl (by decide) (by intro j hj; (have : j = 0 ∨ j = 1 := by simp at hj; omega); rcases this with rfl | rfl <;> rfl)) (by decide)).mono ?_
  rintro e w9 ⟨rfl, hf⟩
  have F8 := hid (F7.out.trans (fa.trans hf))
  have S9 := hid (S8.out.fr (fa.trans hf))
  clear hf fa
  go_wp2_with fail
  have fa := (Fr.refl No w9).alloc (Obj.cells #[Value.int IntKind.i64 7, Value.int IntKind.i64 8] 3)
  refine (ints_same (l := [7, 8]) (S9.out.fr fa) (lit_sl [7, 8] 2 2 rfl (by decide) (by intro j hj; (have : j = 0 ∨ j = 1 := by simp at hj; omega); rcases this with rfl | rfl <;> rfl)) (by decide)).mono ?_
  rintro e w10 ⟨rfl, hf⟩
  have F9 := hid (F8.out.trans (fa.trans hf))
  clear hf fa
  go_wp2
  go_ret
  exact ⟨rfl, F9.out⟩

end Go.Proofs.YtlncmnphjdeeoaaDoor
