/- The law's 'goes': the entries of a vertex's row, gone through, are the document's, as far as they are asked for; walked (up). -/
import Derived.Deep.Cut
import Derived.Laws.Bits64b
import Derived.Test.YtoepbhacpidcbaaGreatDoorQBase
import Derived.Test.YtoepbhacpidcbaaGreatDoorQIdx
import Derived.Test.YtoepbhacpidcbaaGreatDoorQIdxB
import Derived.Test.YtoepbhacpidcbaaGreatDoorQPerm
import Derived.Test.YtoepbhacpidcbaaGreatDoorQRef
import Derived.Test.YtoepbhacpidcbaaGreatDoorQBig
import Derived.Test.YtoepbhacpidcbaaGreatDoorQUnref
import Derived.Test.YtoepbhacpidcbaaGreatDoorQUnE
import Derived.Test.YtoepbhacpidcbaaGreatDoorQItr
import Derived.Test.YtoepbhacpidcbaaGreatDoorQDst
import Derived.Test.YtoepbhacpidcbaaGreatDoorQLnk
import Derived.Test.YtoepbhacpidcbaaGreatDoorQRow2
import Derived.Test.YtoepbhacpidcbaaGreatDoorQGr

set_option linter.unusedVariables false
set_option linter.unusedSimpArgs false
namespace Go.Proofs.YtoepbhacpidcbaaGreatDoor
open Go.RowKit Go.Shelf

attribute [local go_sem] Oper.semAt_some
attribute [local go_sem high] run_eql_en run_neq_en eq3_self

end Go.Proofs.YtoepbhacpidcbaaGreatDoor

/- The law's 'goes': the entries of a vertex's row, gone through, are the document's, as far as they are asked for; walked (down). -/
set_option linter.unusedVariables false
set_option linter.unusedSimpArgs false
namespace Go.Proofs.YtoepbhacpidcbaaGreatDoor
open Go.RowKit Go.Shelf

attribute [local go_sem] Oper.semAt_some
attribute [local go_sem high] run_eql_en run_neq_en eq3_self

end Go.Proofs.YtoepbhacpidcbaaGreatDoor

/- The law of going through: the entries of a vertex's rows, all links and all shortcuts are the document's; walked. -/
set_option linter.unusedVariables false
set_option linter.unusedSimpArgs false
namespace Go.Proofs.YtoepbhacpidcbaaGreatDoor
open Go.RowKit Go.Deep

end Go.Proofs.YtoepbhacpidcbaaGreatDoor

/- A vertex's star, as plain mathematics. -/
set_option linter.unusedVariables false
set_option linter.unusedSimpArgs false
namespace Go.Proofs.YtoepbhacpidcbaaGreatDoor
open Go.RowKit

end Go.Proofs.YtoepbhacpidcbaaGreatDoor

/- A vertex's star in memory; the bare one; walked. -/
set_option linter.unusedVariables false
set_option linter.unusedSimpArgs false
namespace Go.Proofs.YtoepbhacpidcbaaGreatDoor
open Go.RowKit Go.Deep

/-- The cells of a star. -/
def starC (f g : Nat → En) (i : Nat) : Int := if i < 72 then (f (i / 3)).cell (i % 3) else (g ((i - 72) / 3)).cell (i % 3)
def StarAt (w : World) (b : Nat) (T : TypeId) (C : Nat → Int) : Prop := Blk w b 144 T (fun i => .int .i64 (C i))
def updE (f : Nat → En) (j : Nat) (e : En) : Nat → En := fun i => if i = j then e else f i

theorem Blk.ints3 {w : World} {b n : Nat} {T : TypeId} {C C' : Nat → Int} (h : Blk w b n T (fun i => .int .i64 (C i))) (o : Nat) (e : En)
    (h1 : ∀ i, i < n → C' i = if i = o + 2 then e.m else if i = o + 1 then e.a else if i = o then e.w else C i) :
    Blk (((w.setCell ⟨b, o, none⟩ (.int .i64 e.w)).setCell ⟨b, o + 1, none⟩ (.int .i64 e.a)).setCell ⟨b, o + 2, none⟩ (.int .i64 e.m)) b n T (fun i => .int .i64 (C' i)) :=
  (((h.setCell o _).setCell (o + 1) _).setCell (o + 2) _).congr fun i hi => by
    rw [h1 i hi]; unfold upd
    by_cases e2 : i = o + 2
    · simp [e2]
    · by_cases e1 : i = o + 1
      · simp [e1]
      · by_cases e0 : i = o
        · simp [e0]
        · simp [e0, e1, e2]

theorem starC_out (f g : Nat → En) (j : Nat) (e : En) (hj : j < 24) (i : Nat) :
    starC (updE f j e) g i = if i = j * 3 + 2 then e.m else if i = j * 3 + 1 then e.a else if i = j * 3 then e.w else starC f g i := by
  unfold starC updE
  by_cases h : i / 3 = j ∧ i < 72
  · obtain ⟨h1, h2⟩ := h
    have hc : i = j * 3 + i % 3 := by omega
    have h3 : i % 3 < 3 := Nat.mod_lt _ (by omega)
    rw [if_pos h2, if_pos h1]
    generalize i % 3 = c at hc h3 ⊢
    match c, h3 with
    | 0, _ => rw [if_neg (by omega), if_neg (by omega), if_pos (by omega)]; rfl
    | 1, _ => rw [if_neg (by omega), if_pos (by omega)]; rfl
    | 2, _ => rw [if_pos (by omega)]; rfl
  · rw [if_neg (show ¬ i = j * 3 + 2 by omega), if_neg (show ¬ i = j * 3 + 1 by omega), if_neg (show ¬ i = j * 3 by omega)]
    by_cases h2 : i < 72
    · rw [if_pos h2, if_pos h2, if_neg (fun h1 => h ⟨h1, h2⟩)]
    · rw [if_neg h2, if_neg h2]
theorem StarAt.out {w : World} {b : Nat} {T : TypeId} {f g : Nat → En} (h : StarAt w b T (starC f g)) (j : Nat) (hj : j < 24) (e : En) :
    StarAt (((w.setCell ⟨b, j * 3, none⟩ (.int .i64 e.w)).setCell ⟨b, j * 3 + 1, none⟩ (.int .i64 e.a)).setCell ⟨b, j * 3 + 2, none⟩ (.int .i64 e.m)) b T (starC (updE f j e) g) :=
  Blk.ints3 h _ _ fun i _ => starC_out f g j e hj i
theorem Blk.rangeR {w : World} {b n : Nat} {T : TypeId} {C : Nat → Int} (h : Blk w b n T (fun i => .int .i64 (C i))) (o m : Nat) (hm : o + m ≤ n) : w.rangeAt b o (cellsR m fun j => C (o + j)) := fun j v hv => by
  rcases Nat.lt_or_ge j m with hj | hj
  · simp only [cellsR, List.getElem?_map, List.getElem?_range hj, Option.map_some, Option.some.injEq] at hv
    subst hv
    exact h.cell (by omega)
  · rw [List.getElem?_eq_none (by simpa [cellsR] using hj)] at hv; cases hv
theorem cellsR_len (m : Nat) (C : Nat → Int) : (cellsR m C).length = m := by simp [cellsR]
theorem Blk.setR {w : World} {b n : Nat} {T : TypeId} {C C' : Nat → Int} (h : Blk w b n T (fun i => .int .i64 (C i))) (o m : Nat) (D : Nat → Int) (h1 : ∀ i, i < n → C' i = if o ≤ i ∧ i < o + m then D (i - o) else C i) :
    Blk (w.setCells b o (cellsR m D)) b n T (fun i => .int .i64 (C' i)) :=
  (Blk.setCells _ o w _ h).congr fun i hi => by
    rw [cellsR_len, h1 i hi]
    by_cases hc : o ≤ i ∧ i < o + m
    · rw [if_pos hc, if_pos hc]
      have : i - o < m := by omega
      simp [cellsR, List.getD, this]
    · rw [if_neg hc, if_neg hc]

theorem starC_congr {f g f' g' : Nat → En} (hf : ∀ i, i < 24 → f i = f' i) (hg : ∀ i, i < 24 → g i = g' i) (i : Nat) (hi : i < 144) : starC f g i = starC f' g' i := by
  unfold starC
  split
  · rw [hf _ (by omega)]
  · rw [hg _ (by omega)]
theorem StarAt.congr {w : World} {b : Nat} {T : TypeId} {f g f' g' : Nat → En} (h : StarAt w b T (starC f g)) (hf : ∀ i, i < 24 → f i = f' i) (hg : ∀ i, i < 24 → g i = g' i) : StarAt w b T (starC f' g') :=
  Blk.congr h fun i hi => by rw [starC_congr hf hg i hi]
theorem StarAt.range {w : World} {b : Nat} {T : TypeId} {C : Nat → Int} (h : StarAt w b T C) : w.rangeAt b 0 (cellsR 144 C) := by
  have := Blk.rangeR h 0 144 (by omega)
  simpa using this

end Go.Proofs.YtoepbhacpidcbaaGreatDoor

/- A vertex's star: the program's; walked. -/
set_option linter.unusedVariables false
set_option linter.unusedSimpArgs false
namespace Go.Proofs.YtoepbhacpidcbaaGreatDoor
open Go.RowKit Go.Shelf Go.Deep

attribute [local go_sem] Oper.semAt_some

theorem StarAt.set {W : World} {b : Nat} {T : TypeId} {C0 : Nat → Int} (h : StarAt W b T C0) (C : Nat → Int) : StarAt (W.setCells b 0 (cellsR 144 C)) b T C :=
  Blk.setR h 0 144 C fun i hi => by rw [if_pos (by omega)]; rfl
theorem StarAt.fr {w w' : World} {b : Nat} {T : TypeId} {C : Nat → Int} (h : StarAt w b T C) {F : Nat → Prop} (hf : Fr F w w') (hF : ¬ F b) : StarAt w' b T C := Blk.fr h hf hF
theorem StarAt.heap {w w' : World} {b : Nat} {T : TypeId} {C : Nat → Int} (h : StarAt w b T C) (e : w'.heap[b]? = w.heap[b]?) : StarAt w' b T C := Blk.of_heap h e
theorem StarAt.lt {w : World} {b : Nat} {T : TypeId} {C : Nat → Int} (h : StarAt w b T C) : b < w.heap.size := Blk.lt h
theorem StarAt.own {β : Type} {N b : Nat} {T : TypeId} (hb : b < N) (C : β → Nat → Int) : OwnFrom N (fun (s : β) W => StarAt W b T (C s)) := fun s A B row hs hg hr =>
  hs.heap (hg.block b hs.lt (fun e => by have := (hr b e.symm).1; omega))

end Go.Proofs.YtoepbhacpidcbaaGreatDoor

/- A vertex's star: the document's; walked. -/
set_option linter.unusedVariables false
set_option linter.unusedSimpArgs false
namespace Go.Proofs.YtoepbhacpidcbaaGreatDoor
open Go.RowKit Go.Deep

def fE (f : Nat → En) (k : Nat) : Nat → En := fun j => if j < k then f j else ⟨0, 0, 0⟩
end Go.Proofs.YtoepbhacpidcbaaGreatDoor

/- The law's comparison of stars; walked. -/
set_option linter.unusedVariables false
set_option linter.unusedSimpArgs false
namespace Go.Proofs.YtoepbhacpidcbaaGreatDoor
open Go.RowKit Go.Deep

theorem StarAt.lit (W : World) (T : TypeId) (C : Nat → Int) : StarAt (W.alloc (.cells (cellsR 144 C).toArray T)) W.heap.size T C := by
  have := Blk.new W (cellsR 144 C).toArray T (fun i => .int .i64 (C i)) (fun i hi => by
    have hi' : i < 144 := by simpa [cellsR] using hi
    simp [cellsR, hi'])
  have e : (cellsR 144 C).toArray.size = 144 := by simp [cellsR]
  rw [e] at this
  exact this

theorem StarAt.load {W : World} {b : Nat} {T : TypeId} {C : Nat → Int} (h : StarAt W b T C) (o : Nat) (ho : o + 72 ≤ 144) (n : Fam W) :
    (Instr.loadAt 135 (.pointer (some ⟨b, o, none⟩))).run Tryz.prog n.v = .ok (.agg (cellsR 72 fun j => C (o + j)).toArray) n.v := by
  have hd2 : Tryz.prog.underlying 135 = some _ := Tryz.underlying135
  have hi2 : (Tryz.prog.info? 135).map (·.size) = some 72 := by kernel_rfl
  exact run_loadAt_mid n.v b o 135 _ _ (Blk.rangeR (h.fr n.h (fun h => h)) o 72 ho) hd2 rfl (by rw [hi2, cellsR_len])

end Go.Proofs.YtoepbhacpidcbaaGreatDoor

/- Each two unlike vertices that are higher than a vertex: what a range over 'twos' hands out. -/
set_option linter.unusedVariables false
set_option linter.unusedSimpArgs false
namespace Go.Proofs.YtoepbhacpidcbaaGreatDoor
open Go.RowKit Go.Shelf

attribute [local go_sem] Oper.semAt_some

abbrev Ix.TwEl (x : Ix) (lo : Nat) := { p : Nat × Nat // lo < p.1 ∧ p.1 < x.n ∧ lo < p.2 ∧ p.2 < x.n ∧ p.1 ≠ p.2 }
def Ix.tw1 (x : Ix) (lo a : Nat) : Nat → List (x.TwEl lo)
  | 0 => []
  | b + 1 => if h : lo < a ∧ a < x.n ∧ lo < b ∧ b < x.n ∧ a ≠ b then x.tw1 lo a b ++ [⟨(a, b), h⟩] else x.tw1 lo a b
def Ix.tw (x : Ix) (lo : Nat) : Nat → List (x.TwEl lo)
  | 0 => []
  | a + 1 => x.tw lo a ++ x.tw1 lo a x.n
end Go.Proofs.YtoepbhacpidcbaaGreatDoor

/- Sets of small numbers: bit, With, Has; walked. -/
set_option linter.unusedVariables false
set_option linter.unusedSimpArgs false
namespace Go.Proofs.YtoepbhacpidcbaaGreatDoor
open Go.RowKit

end Go.Proofs.YtoepbhacpidcbaaGreatDoor

/- How far it is by a star's vertex; what moves, as plain mathematics; the star's sum, walked. -/
set_option linter.unusedVariables false
set_option linter.unusedSimpArgs false
namespace Go.Proofs.YtoepbhacpidcbaaGreatDoor
open Go.RowKit Go.Deep

/-- A set of numbers, as it is kept. -/
structure SetOf (s : Nat) (p : Nat → Prop) : Prop where
  lt : s < 2 ^ 24
  bit : ∀ i, s.testBit i = true ↔ p i

theorem SetOf.nil {p : Nat → Prop} (h : ∀ i, ¬ p i) : SetOf 0 p := ⟨by decide, fun i => by simp [h i]⟩
theorem SetOf.congr {s : Nat} {p q : Nat → Prop} (hs : SetOf s p) (h : ∀ i, p i ↔ q i) : SetOf s q := ⟨hs.lt, fun i => (hs.bit i).trans (h i)⟩

end Go.Proofs.YtoepbhacpidcbaaGreatDoor
