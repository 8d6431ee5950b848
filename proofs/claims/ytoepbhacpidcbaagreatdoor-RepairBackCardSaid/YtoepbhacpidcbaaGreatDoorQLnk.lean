/- Rows of links that are one's own: read, lengthened. -/
import Derived.Lib.SliceRun
import Derived.Test.YtoepbhacpidcbaaGreatDoorQBase
import Derived.Test.YtoepbhacpidcbaaGreatDoorQIdx
import Derived.Test.YtoepbhacpidcbaaGreatDoorQPerm
import Derived.Test.YtoepbhacpidcbaaGreatDoorQIdxB
import Derived.Test.YtoepbhacpidcbaaGreatDoorQRef
import Derived.Test.YtoepbhacpidcbaaGreatDoorQUnref
import Derived.Test.YtoepbhacpidcbaaGreatDoorQUnE

set_option linter.unusedVariables false
set_option linter.unusedSimpArgs false
namespace Go.Proofs.YtoepbhacpidcbaaGreatDoor
open Go.RowKit Go.Deep

def Lk.cl (l : Lk) : List Value := [.int .i64 l.t, .int .i64 l.h, .int .i64 l.e.w, .int .i64 l.e.a, .int .i64 l.e.m]
def Lk.zero : Lk := ⟨0, 0, ⟨0, 0, 0⟩⟩

/-- A slice of links. -/
def SlK (w : World) (v : Value) (l : List Lk) : Prop :=
  (l = [] ∧ v = .slice none 0 0) ∨ (∃ b off c, 0 < l.length ∧ v = .slice (some ⟨b, off, none⟩) l.length c ∧ ∀ j, j < l.length → LkAt w b (off + j * 5) (l.getD j Lk.zero))
theorem SlK.fr {w w' : World} {v : Value} {l : List Lk} (h : SlK w v l) (hf : Fr No w w') : SlK w' v l := by
  rcases h with h | ⟨b, off, c, h0, e, hc⟩
  · exact .inl h
  · exact .inr ⟨b, off, c, h0, e, fun j hj => (hc j hj).fr hf (fun h => h)⟩

end Go.Proofs.YtoepbhacpidcbaaGreatDoor

/- The index's links; the program's 'Links' walked. -/
set_option linter.unusedVariables false
set_option linter.unusedSimpArgs false
namespace Go.Proofs.YtoepbhacpidcbaaGreatDoor
open Go.RowKit Go.Deep
attribute [local go_sem high] run_eql_en run_neq_en

end Go.Proofs.YtoepbhacpidcbaaGreatDoor

/- slices.IndexFunc and slices.DeleteFunc at links with the shortcuts' test; walked. -/
set_option linter.unusedVariables false
set_option linter.unusedSimpArgs false
namespace Go.Proofs.YtoepbhacpidcbaaGreatDoor
open Go.RowKit Go.Deep

def Lk.val (l : Lk) : Value := .agg #[.int .i64 l.t, .int .i64 l.h, .int .i64 l.e.w, .int .i64 l.e.a, .int .i64 l.e.m]

structure LkC (w : World) (b o : Nat) (l : Lk) : Prop where
  q0 : w.cell? ⟨b, o, none⟩ = some (.int .i64 l.t)
  q1 : w.cell? ⟨b, o + 1, none⟩ = some (.int .i64 l.h)
  q2 : w.cell? ⟨b, o + 2, none⟩ = some (.int .i64 l.e.w)
  q3 : w.cell? ⟨b, o + 3, none⟩ = some (.int .i64 l.e.a)
  q4 : w.cell? ⟨b, o + 4, none⟩ = some (.int .i64 l.e.m)
theorem LkAt.c {w : World} {b o : Nat} {l : Lk} (h : LkAt w b o l) : LkC w b o l := ⟨h.t, h.h, h.w0, h.a, h.m⟩

theorem Fr.setCells {F : Nat → Prop} {a : World} {b : Nat} (hb : F b ∨ a.heap.size ≤ b) : ∀ (vs : List Value) (o : Nat) (w : World), Fr F a w → Fr F a (w.setCells b o vs) := by
  intro vs
  induction vs with
  | nil => intro o w h; exact h
  | cons v r ih => intro o w h; exact ih (o + 1) _ (h.setCell (p := ⟨b, o, none⟩) hb v)

/-- A row of links, some of whose elements are known. -/
def RowL (w : World) (g S : Nat) (ok : Nat → Prop) (f : Nat → Lk) : Prop :=
  ∃ C, w.heap[g]? = some (.cells C 120) ∧ C.size = S ∧ ∀ q, ok q → ∀ k, k < 5 → C[q * 5 + k]? = (f q).cl[k]?

section
variable {w w' : World} {g S : Nat} {ok : Nat → Prop} {f : Nat → Lk}
theorem RowL.lt (h : RowL w g S ok f) : g < w.heap.size := by obtain ⟨C, hC, _⟩ := h; exact some_lt hC
theorem RowL.fr (h : RowL w g S ok f) {F : Nat → Prop} (hf : Fr F w w') (hF : ¬ F g) : RowL w' g S ok f := by
  have hl := h.lt
  obtain ⟨C, hC, h1, h2⟩ := h
  exact ⟨C, (hf.block g hl hF).trans hC, h1, h2⟩
theorem RowL.frozen (h : RowL w g S ok f) (i : Nat) : w.frozen? ⟨g, i, none⟩ = false := by
  obtain ⟨C, hC, _⟩ := h
  exact (own_no (Fr.refl _ _) g hC).2.1 i
theorem RowL.at (h : RowL w g S ok f) (q : Nat) (hq : ok q) : LkC w g (q * 5) (f q) := by
  obtain ⟨C, hC, _, h2⟩ := h
  have key : ∀ k, k < 5 → w.cell? ⟨g, q * 5 + k, none⟩ = (f q).cl[k]? := fun k hk => by rw [cell_of hC]; exact h2 q hq k hk
  exact ⟨key 0 (by omega), key 1 (by omega), key 2 (by omega), key 3 (by omega), key 4 (by omega)⟩
theorem RowL.mono (h : RowL w g S ok f) {ok' : Nat → Prop} {f' : Nat → Lk} (hm : ∀ q, ok' q → ok q ∧ f' q = f q) : RowL w g S ok' f' := by
  obtain ⟨C, hC, h1, h2⟩ := h
  exact ⟨C, hC, h1, fun q hq k hk => by rw [(hm q hq).2]; exact h2 q (hm q hq).1 k hk⟩
theorem set5_get (C : Array Value) (a : Nat) (v0 v1 v2 v3 v4 : Value) (ha : a + 5 ≤ C.size) (p : Nat) :
    (((((C.setIfInBounds a v0).setIfInBounds (a + 1) v1).setIfInBounds (a + 2) v2).setIfInBounds (a + 3) v3).setIfInBounds (a + 4) v4)[p]? =
      if a ≤ p ∧ p < a + 5 then [v0, v1, v2, v3, v4][p - a]? else C[p]? := by
  by_cases h : a ≤ p ∧ p < a + 5
  · rw [if_pos h]
    have : p = a ∨ p = a + 1 ∨ p = a + 2 ∨ p = a + 3 ∨ p = a + 4 := by omega
    rcases this with rfl | rfl | rfl | rfl | rfl
    · simp [Array.getElem?_setIfInBounds]; omega
    · simp [Array.getElem?_setIfInBounds]; omega
    · simp [Array.getElem?_setIfInBounds]; omega
    · simp [Array.getElem?_setIfInBounds]; omega
    · simp [Array.getElem?_setIfInBounds]; omega
  · rw [if_neg h]
    simp only [Array.getElem?_setIfInBounds]
    rw [if_neg (by omega), if_neg (by omega), if_neg (by omega), if_neg (by omega), if_neg (by omega)]
theorem RowL.put (h : RowL w g S ok f) (i : Nat) (hi : i * 5 + 5 ≤ S) (y : Lk) :
    RowL (((((w.setCell ⟨g, i * 5, none⟩ (.int .i64 y.t)).setCell ⟨g, i * 5 + 1, none⟩ (.int .i64 y.h)).setCell ⟨g, i * 5 + 2, none⟩ (.int .i64 y.e.w)).setCell ⟨g, i * 5 + 3, none⟩ (.int .i64 y.e.a)).setCell ⟨g, i * 5 + 4, none⟩ (.int .i64 y.e.m))
      g S (fun q => q = i ∨ ok q) (fun q => if q = i then y else f q) := by
  obtain ⟨C, hC, h1, h2⟩ := h
  refine ⟨_, heap_set (heap_set (heap_set (heap_set (heap_set hC _ _) _ _) _ _) _ _) _ _, by simpa using h1, fun q hq k hk => ?_⟩
  rw [set5_get _ _ _ _ _ _ _ (by omega)]
  by_cases e : q = i
  · subst e
    rw [if_pos (by omega), Nat.add_sub_cancel_left]
    show _ = (if q = q then y else f q).cl[k]?
    rw [if_pos rfl]; rfl
  · rw [if_neg (by omega)]
    show _ = (if q = i then y else f q).cl[k]?
    rw [if_neg e]
    exact h2 q (hq.resolve_left e) k hk
end

end Go.Proofs.YtoepbhacpidcbaaGreatDoor

/- slices.DeleteFunc at a row of links of one's own; the program's 'Shortcuts'; walked. -/
set_option linter.unusedVariables false
set_option linter.unusedSimpArgs false
namespace Go.Proofs.YtoepbhacpidcbaaGreatDoor
open Go.RowKit Go.Deep

theorem RowL.setCells {g S : Nat} {ok : Nat → Prop} {f : Nat → Lk} : ∀ (vs : List Value) (o : Nat) {w : World}, RowL w g S ok f → (∀ q, ok q → q * 5 + 5 ≤ o) → RowL (w.setCells g o vs) g S ok f := by
  intro vs
  induction vs with
  | nil => intro o w h _; exact h
  | cons v r ih =>
    intro o w h hq
    refine ih (o + 1) ?_ (fun q h => by have := hq q h; omega)
    obtain ⟨C, hC, h1, h2⟩ := h
    refine ⟨_, heap_set hC o v, by simpa using h1, fun q hok k hk => ?_⟩
    have := hq q hok
    rw [Array.getElem?_setIfInBounds, if_neg (by omega)]
    exact h2 q hok k hk

end Go.Proofs.YtoepbhacpidcbaaGreatDoor
