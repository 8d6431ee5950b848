/- The law's 'goes': the entries of a vertex's row, gone through, are the document's, as far as they are asked for; walked (up). -/
import Derived.Test.YtpkocidcfnlbiaaDoorRow2
import Derived.Test.YtpkocidcfnlbiaaDoorAhe
import Derived.Test.YtpkocidcfnlbiaaDoorLks
import Derived.Test.YtpkocidcfnlbiaaDoorIns
import Derived.Test.YtpkocidcfnlbiaaDoorMid
import Derived.Deep.Cut
import Derived.Laws.Bits64b
set_option linter.unusedVariables false
set_option linter.unusedSimpArgs false
namespace Go.Proofs.YtpkocidcfnlbiaaDoor
open Go.RowKit Go.Shelf

attribute [local go_sem] Oper.semAt_some
attribute [local go_sem high] run_eql_en run_neq_en eq3_self

end Go.Proofs.YtpkocidcfnlbiaaDoor

/- The law's 'goes': the entries of a vertex's row, gone through, are the document's, as far as they are asked for; walked (down). -/
set_option linter.unusedVariables false
set_option linter.unusedSimpArgs false
namespace Go.Proofs.YtpkocidcfnlbiaaDoor
open Go.RowKit Go.Shelf

attribute [local go_sem] Oper.semAt_some
attribute [local go_sem high] run_eql_en run_neq_en eq3_self

end Go.Proofs.YtpkocidcfnlbiaaDoor

/- The law of going through: the entries of a vertex's rows, all links and all shortcuts are the document's; walked. -/
set_option linter.unusedVariables false
set_option linter.unusedSimpArgs false
namespace Go.Proofs.YtpkocidcfnlbiaaDoor
open Go.RowKit Go.Deep

end Go.Proofs.YtpkocidcfnlbiaaDoor

/- A vertex's star, as plain mathematics. -/
set_option linter.unusedVariables false
set_option linter.unusedSimpArgs false
namespace Go.Proofs.YtpkocidcfnlbiaaDoor
open Go.RowKit

/-- What a vertex's star holds at a vertex: the entry to it, or from it, if it is higher. -/
def Ix.star (x : Ix) (v : Int) (back : Bool) (w : Nat) : En := if x.low v (w : Nat) = v ∧ x.two v (w : Nat) = true then x.dirE v back (w : Nat) else En.none
def Ix.starP (x : Ix) (v : Int) (back : Bool) (pre : List Nat) (w : Nat) : En := if w ∈ pre then x.dirE v back (w : Nat) else En.none

theorem Ix.rowTo_mem (x : Ix) (a : Nat) (back : Bool) : ∀ k (el : x.RowEl a back), el ∈ x.rowTo a back k ↔ el.1 < k
  | 0, el => by simp [Ix.rowTo]
  | k + 1, el => by
    rw [Ix.rowTo_succ]
    split
    · rename_i h
      rw [List.mem_append, Ix.rowTo_mem x a back k el, List.mem_singleton]
      constructor
      · rintro (h1 | h1)
        · omega
        · subst h1; exact Nat.lt_succ_self _
      · intro h1
        by_cases e : el.1 = k
        · right; exact Subtype.ext e
        · left; omega
    · rename_i h
      rw [Ix.rowTo_mem x a back k el]
      constructor
      · intro; omega
      · intro h1
        by_cases e : el.1 = k
        · exact absurd (e ▸ el.2) h
        · omega

theorem Ix.two_out {x : Ix} {v w : Int} (h : ¬ (0 ≤ v ∧ v < x.n)) : x.two v w = false := by
  unfold Ix.two; simp; omega

theorem Ix.Ok.star_all {x : Ix} (h : x.Ok) (v : Int) (back : Bool) (w : Nat) : x.starP v back ((x.row v back).map (fun el => x.by_ el.1)) w = x.star v back w := by
  unfold Ix.starP Ix.star Ix.row
  cases hv : x.vertex v with
  | false =>
    have hv2 : ¬ (0 ≤ v ∧ v < x.n) := by unfold Ix.vertex at hv; simpa using hv
    rw [x.two_out hv2]
    simp
  | true =>
    have hv2 : 0 ≤ v ∧ v < x.n := by unfold Ix.vertex at hv; simpa using hv
    obtain ⟨a, rfl⟩ := Int.eq_ofNat_of_zero_le hv2.1
    have ha : a < x.n := by omega
    have h2 := h.n2
    simp only [if_true, Int.toNat_natCast]
    by_cases hm : w ∈ (x.rowTo a back 24).map (fun el => x.by_ el.1)
    · rw [if_pos hm]
      obtain ⟨el, hel, rfl⟩ := List.mem_map.1 hm
      have hb := h.by_ el.1 el.2.2.1
      have h1 := el.2.1
      have hne : (a : Int) ≠ (x.by_ el.1 : Nat) := fun e => by
        have e' : a = x.by_ el.1 := by omega
        rw [← e'] at hb; omega
      have ht : x.two (a : Nat) (x.by_ el.1 : Nat) = true := by unfold Ix.two; simp; omega
      have hl : x.low (a : Nat) (x.by_ el.1 : Nat) = (a : Nat) := by
        unfold Ix.low
        rw [if_pos ht, if_pos (by simp only [Int.toNat_natCast]; omega)]
      rw [if_pos ⟨hl, ht⟩]
    · rw [if_neg hm]
      split
      · rename_i hc
        obtain ⟨hlow, htwo⟩ := hc
        obtain ⟨hne, _, _, _, hw⟩ := two_iff htwo
        have hw : w < x.n := by omega
        have hrk : x.rk a < x.rk w := by
          unfold Ix.low at hlow
          rw [if_pos htwo] at hlow
          simp only [Int.toNat_natCast] at hlow
          split at hlow
          · assumption
          · omega
        have hrw := h.rk w hw
        have hd := h.rowE_dir back ha hrk hrw.1
        rw [hrw.2] at hd
        rw [← hd]
        refine Decidable.byContradiction fun hne2 => hm ?_
        exact List.mem_map.2 ⟨⟨x.rk w, hrk, hrw.1, fun e => hne2 e.symm⟩, (Ix.rowTo_mem x a back 24 _).2 (by show x.rk w < 24; omega), hrw.2⟩
      · rfl

theorem Ix.starP_nil (x : Ix) (v : Int) (back : Bool) (w : Nat) : x.starP v back [] w = En.none := by simp [Ix.starP]
theorem Ix.starP_snoc (x : Ix) (v : Int) (back : Bool) (pre : List Nat) (u w : Nat) : x.starP v back (pre ++ [u]) w = if w = u then x.dirE v back (u : Nat) else x.starP v back pre w := by
  unfold Ix.starP
  by_cases e : w = u
  · subst e; simp
  · simp [e]

end Go.Proofs.YtpkocidcfnlbiaaDoor

/- A vertex's star in memory; the bare one; walked. -/
set_option linter.unusedVariables false
set_option linter.unusedSimpArgs false
namespace Go.Proofs.YtpkocidcfnlbiaaDoor
open Go.RowKit Go.Deep

/-- The cells of a star. -/
def starC (f g : Nat → En) (i : Nat) : Int := if i < 72 then (f (i / 3)).cell (i % 3) else (g ((i - 72) / 3)).cell (i % 3)
def StarAt (w : World) (b : Nat) (T : TypeId) (C : Nat → Int) : Prop := Blk w b 144 T (fun i => .int .i64 (C i))
def starV (C : Nat → Int) : Value := .agg (cellsR 144 C).toArray
def updE (f : Nat → En) (j : Nat) (e : En) : Nat → En := fun i => if i = j then e else f i

theorem En.cell0 (e : En) : e.cell 0 = e.w := rfl
theorem En.cell1 (e : En) : e.cell 1 = e.a := rfl
theorem En.cell2 (e : En) : e.cell 2 = e.m := rfl

theorem Blk.ints3 {w : World} {b n : Nat} {T : TypeId} {C C' : Nat → Int} (h : Blk w b n T (fun i => .int .i64 (C i))) (o : Nat) (e : En)
    (h1 : ∀ i, i < n → C' i = if i = o + 2 then e.m else if i = o + 1 then e.a else if i = o then e.w else C i) :
    Blk (((w.setCell ⟨b, o, none⟩ (.int .i64 e.w)).setCell ⟨b, o + 1, none⟩ (.int .i64 e.a)).setCell ⟨b, o + 2, none⟩ (.int .i64 e.m)) b n T (fun i => .int .i64 (C' i)) :=
  (((h.setCell o _).setCell (o + 1) _).setCell (o + 2) _).congr fun i hi => by
    rw [h1 i hi]; unfold upd
    by_cases e2 : i = o + 2
    · simp [e2]
    · by_cases e1 : i = o + 1
      · simp [e1]
      · by_cases e0 : i = o
        · simp [e0]
        · simp [e0, e1, e2]

theorem starC_out (f g : Nat → En) (j : Nat) (e : En) (hj : j < 24) (i : Nat) :
    starC (updE f j e) g i = if i = j * 3 + 2 then e.m else if i = j * 3 + 1 then e.a else if i = j * 3 then e.w else starC f g i := by
  unfold starC updE
  by_cases h : i / 3 = j ∧ i < 72
  · obtain ⟨h1, h2⟩ := h
    have hc : i = j * 3 + i % 3 := by omega
    have h3 : i % 3 < 3 := Nat.mod_lt _ (by omega)
    rw [if_pos h2, if_pos h1]
    generalize i % 3 = c at hc h3 ⊢
    match c, h3 with
    | 0, _ => rw [if_neg (by omega), if_neg (by omega), if_pos (by omega)]; rfl
    | 1, _ => rw [if_neg (by omega), if_pos (by omega)]; rfl
    | 2, _ => rw [if_pos (by omega)]; rfl
  · rw [if_neg (show ¬ i = j * 3 + 2 by omega), if_neg (show ¬ i = j * 3 + 1 by omega), if_neg (show ¬ i = j * 3 by omega)]
    by_cases h2 : i < 72
    · rw [if_pos h2, if_pos h2, if_neg (fun h1 => h ⟨h1, h2⟩)]
    · rw [if_neg h2, if_neg h2]
theorem starC_in (f g : Nat → En) (j : Nat) (e : En) (hj : j < 24) (i : Nat) :
    starC f (updE g j e) i = if i = 72 + j * 3 + 2 then e.m else if i = 72 + j * 3 + 1 then e.a else if i = 72 + j * 3 then e.w else starC f g i := by
  unfold starC updE
  by_cases h : (i - 72) / 3 = j ∧ ¬ i < 72
  · obtain ⟨h1, h2⟩ := h
    have hc : i = 72 + j * 3 + i % 3 := by omega
    have h3 : i % 3 < 3 := Nat.mod_lt _ (by omega)
    rw [if_neg h2, if_pos h1]
    generalize i % 3 = c at hc h3 ⊢
    match c, h3 with
    | 0, _ => rw [if_neg (by omega), if_neg (by omega), if_pos (by omega)]; rfl
    | 1, _ => rw [if_neg (by omega), if_pos (by omega)]; rfl
    | 2, _ => rw [if_pos (by omega)]; rfl
  · rw [if_neg (show ¬ i = 72 + j * 3 + 2 by omega), if_neg (show ¬ i = 72 + j * 3 + 1 by omega), if_neg (show ¬ i = 72 + j * 3 by omega)]
    by_cases h2 : i < 72
    · rw [if_pos h2, if_pos h2]
    · rw [if_neg h2, if_neg h2, if_neg (fun h1 => h ⟨h1, h2⟩)]

theorem StarAt.out {w : World} {b : Nat} {T : TypeId} {f g : Nat → En} (h : StarAt w b T (starC f g)) (j : Nat) (hj : j < 24) (e : En) :
    StarAt (((w.setCell ⟨b, j * 3, none⟩ (.int .i64 e.w)).setCell ⟨b, j * 3 + 1, none⟩ (.int .i64 e.a)).setCell ⟨b, j * 3 + 2, none⟩ (.int .i64 e.m)) b T (starC (updE f j e) g) :=
  Blk.ints3 h _ _ fun i _ => starC_out f g j e hj i
theorem StarAt.in_ {w : World} {b : Nat} {T : TypeId} {f g : Nat → En} (h : StarAt w b T (starC f g)) (j : Nat) (hj : j < 24) (e : En) :
    StarAt (((w.setCell ⟨b, 72 + j * 3, none⟩ (.int .i64 e.w)).setCell ⟨b, 72 + j * 3 + 1, none⟩ (.int .i64 e.a)).setCell ⟨b, 72 + j * 3 + 2, none⟩ (.int .i64 e.m)) b T (starC f (updE g j e)) :=
  Blk.ints3 h _ _ fun i _ => starC_in f g j e hj i

theorem Blk.rangeR {w : World} {b n : Nat} {T : TypeId} {C : Nat → Int} (h : Blk w b n T (fun i => .int .i64 (C i))) (o m : Nat) (hm : o + m ≤ n) : w.rangeAt b o (cellsR m fun j => C (o + j)) := fun j v hv => by
  rcases Nat.lt_or_ge j m with hj | hj
  · simp only [cellsR, List.getElem?_map, List.getElem?_range hj, Option.map_some, Option.some.injEq] at hv
    subst hv
    exact h.cell (by omega)
  · rw [List.getElem?_eq_none (by simpa [cellsR] using hj)] at hv; cases hv
theorem cellsR_len (m : Nat) (C : Nat → Int) : (cellsR m C).length = m := by simp [cellsR]
theorem cellsR_one (m : Nat) (C : Nat → Int) : (cellsR m C).toArray.all (·.oneCell') = true := all_oneCell_toArray fun v hv => by
  simp only [cellsR, List.mem_map] at hv
  obtain ⟨i, _, rfl⟩ := hv
  rfl
theorem Blk.thereR {w : World} {b n : Nat} {T : TypeId} {V : Nat → Value} (h : Blk w b n T V) (o m : Nat) (hm : o + m ≤ n) : w.there b o m := fun j hj =>
  ⟨by rw [h.cell (by omega)]; rfl, h.frozen _⟩
theorem Blk.setR {w : World} {b n : Nat} {T : TypeId} {C C' : Nat → Int} (h : Blk w b n T (fun i => .int .i64 (C i))) (o m : Nat) (D : Nat → Int) (h1 : ∀ i, i < n → C' i = if o ≤ i ∧ i < o + m then D (i - o) else C i) :
    Blk (w.setCells b o (cellsR m D)) b n T (fun i => .int .i64 (C' i)) :=
  (Blk.setCells _ o w _ h).congr fun i hi => by
    rw [cellsR_len, h1 i hi]
    by_cases hc : o ≤ i ∧ i < o + m
    · rw [if_pos hc, if_pos hc]
      have : i - o < m := by omega
      simp [cellsR, List.getD, this]
    · rw [if_neg hc, if_neg hc]

def zE : Nat → En := fun _ => ⟨0, 0, 0⟩
def nE : Nat → En := fun _ => En.none
def bE (k : Nat) : Nat → En := fun j => if j < k then En.none else ⟨0, 0, 0⟩
theorem zE_cell (i c : Nat) : (zE i).cell c = 0 := by unfold zE En.cell; split <;> (try split) <;> rfl
theorem star_zero (i : Nat) : starC zE zE i = 0 := by unfold starC; split <;> exact zE_cell _ _
theorem bE_succ (k : Nat) : updE (bE k) k En.none = bE (k + 1) := by
  funext i; unfold updE bE
  by_cases h : i = k
  · subst h; rw [if_pos rfl, if_pos (by omega)]
  · rw [if_neg h]
    by_cases h2 : i < k
    · rw [if_pos h2, if_pos (by omega)]
    · rw [if_neg h2, if_neg (by omega)]
theorem starC_congr {f g f' g' : Nat → En} (hf : ∀ i, i < 24 → f i = f' i) (hg : ∀ i, i < 24 → g i = g' i) (i : Nat) (hi : i < 144) : starC f g i = starC f' g' i := by
  unfold starC
  split
  · rw [hf _ (by omega)]
  · rw [hg _ (by omega)]
theorem StarAt.congr {w : World} {b : Nat} {T : TypeId} {f g f' g' : Nat → En} (h : StarAt w b T (starC f g)) (hf : ∀ i, i < 24 → f i = f' i) (hg : ∀ i, i < 24 → g i = g' i) : StarAt w b T (starC f' g') :=
  Blk.congr h fun i hi => by rw [starC_congr hf hg i hi]
theorem StarAt.range {w : World} {b : Nat} {T : TypeId} {C : Nat → Int} (h : StarAt w b T C) : w.rangeAt b 0 (cellsR 144 C) := by
  have := Blk.rangeR h 0 144 (by omega)
  simpa using this

theorem run_loadVar_star {w : World} {b : Nat} {T : TypeId} {C : Nat → Int} (h : StarAt w b T C) (ty : TypeId) (d : TypeDesc) (hu : Tryd.prog.underlying ty = some d) (hd : d.isRow = true) (hi : (Tryd.prog.info? ty).map (·.size) = some 144) :
    (loadVar ty ⟨b, 0, none⟩).run Tryd.prog w = .ok (starV C) w := run_loadVar_mid w b 0 ty _ d h.range hu hd (by rw [hi, cellsR_len])

theorem results_cell {P : Program} {fn : Func} {tmps : Array Value} {a : Nat} {t : TypeId} {v : Value} {w : World} {p : Addr} (hr : fn.results = #[.cell a t]) (ha : tmps.getD a undef = .pointer (some p)) (hl : (loadVar t p).run P w = .ok v w) :
    (results fn tmps).run P w = .ok v w := by
  have ha' : tmps[a]?.getD undef = .pointer (some p) := by rw [← ha]; simp
  unfold results
  rw [hr]
  simp [Sem.run_bind, Sem.run_pure, Result.andThen_ok, ha', asAddr, hl]

end Go.Proofs.YtpkocidcfnlbiaaDoor

/- A vertex's star: the program's; walked. -/
set_option linter.unusedVariables false
set_option linter.unusedSimpArgs false
namespace Go.Proofs.YtpkocidcfnlbiaaDoor
open Go.RowKit Go.Shelf Go.Deep

attribute [local go_sem] Oper.semAt_some

theorem StarAt.set {W : World} {b : Nat} {T : TypeId} {C0 : Nat → Int} (h : StarAt W b T C0) (C : Nat → Int) : StarAt (W.setCells b 0 (cellsR 144 C)) b T C :=
  Blk.setR h 0 144 C fun i hi => by rw [if_pos (by omega)]; rfl
theorem StarAt.there {W : World} {b : Nat} {T : TypeId} {C0 : Nat → Int} (h : StarAt W b T C0) : W.there b 0 144 := Blk.thereR h 0 144 (by omega)
theorem StarAt.fr {w w' : World} {b : Nat} {T : TypeId} {C : Nat → Int} (h : StarAt w b T C) {F : Nat → Prop} (hf : Fr F w w') (hF : ¬ F b) : StarAt w' b T C := Blk.fr h hf hF
theorem StarAt.heap {w w' : World} {b : Nat} {T : TypeId} {C : Nat → Int} (h : StarAt w b T C) (e : w'.heap[b]? = w.heap[b]?) : StarAt w' b T C := Blk.of_heap h e
theorem StarAt.lt {w : World} {b : Nat} {T : TypeId} {C : Nat → Int} (h : StarAt w b T C) : b < w.heap.size := Blk.lt h
theorem StarAt.own {β : Type} {N b : Nat} {T : TypeId} (hb : b < N) (C : β → Nat → Int) : OwnFrom N (fun (s : β) W => StarAt W b T (C s)) := fun s A B row hs hg hr =>
  hs.heap (hg.block b hs.lt (fun e => by have := (hr b e.symm).1; omega))

theorem starP_step {x : Ix} (v : Int) (back : Bool) (pre : List Nat) (z : Nat) : updE (x.starP v back pre) z (x.dirE v back (z : Nat)) = x.starP v back (pre ++ [z]) := by
  funext w
  rw [Ix.starP_snoc]
  rfl

end Go.Proofs.YtpkocidcfnlbiaaDoor

/- A vertex's star: the document's; walked. -/
set_option linter.unusedVariables false
set_option linter.unusedSimpArgs false
namespace Go.Proofs.YtpkocidcfnlbiaaDoor
open Go.RowKit Go.Deep

def fE (f : Nat → En) (k : Nat) : Nat → En := fun j => if j < k then f j else ⟨0, 0, 0⟩
theorem fE_succ (f : Nat → En) (k : Nat) : updE (fE f k) k (f k) = fE f (k + 1) := by
  funext i; unfold updE fE
  by_cases h : i = k
  · subst h; rw [if_pos rfl, if_pos (by omega)]
  · rw [if_neg h]
    by_cases h2 : i < k
    · rw [if_pos h2, if_pos (by omega)]
    · rw [if_neg h2, if_neg (by omega)]
theorem updE_two (f : Nat → En) (k : Nat) (a b : En) : updE (updE f k a) k b = updE f k b := by
  funext i; unfold updE
  by_cases h : i = k
  · rw [if_pos h, if_pos h]
  · rw [if_neg h, if_neg h, if_neg h]

end Go.Proofs.YtpkocidcfnlbiaaDoor

/- The law's comparison of stars; walked. -/
set_option linter.unusedVariables false
set_option linter.unusedSimpArgs false
namespace Go.Proofs.YtpkocidcfnlbiaaDoor
open Go.RowKit Go.Deep

theorem StarAt.lit (W : World) (T : TypeId) (C : Nat → Int) : StarAt (W.alloc (.cells (cellsR 144 C).toArray T)) W.heap.size T C := by
  have := Blk.new W (cellsR 144 C).toArray T (fun i => .int .i64 (C i)) (fun i hi => by
    have hi' : i < 144 := by simpa [cellsR] using hi
    simp [cellsR, hi'])
  have e : (cellsR 144 C).toArray.size = 144 := by simp [cellsR]
  rw [e] at this
  exact this

theorem star_wf {x : Ix} (h : x.Ok) (v : Int) (back : Bool) (w c : Nat) : -9223372036854775808 ≤ (x.star v back w).cell c ∧ (x.star v back w).cell c ≤ 9223372036854775807 := by
  have hb : ∀ (e : En), e.Ok → -9223372036854775808 ≤ e.cell c ∧ e.cell c ≤ 9223372036854775807 := fun e ho => by
    obtain ⟨h1, h2, h3, h4, h5, h6⟩ := ho
    unfold En.cell
    split
    · omega
    · split <;> omega
  have hn : En.Ok En.none := ⟨by decide, by decide, by decide, by decide, by decide, by decide⟩
  have ha : ∀ u v, (x.at_ u v).Ok := fun u v => by
    unfold Ix.at_
    split
    · exact h.ent _ _
    · exact hn
  unfold Ix.star
  split
  · unfold Ix.dirE
    split <;> exact hb _ (ha _ _)
  · exact hb _ hn
theorem starC_wf {f g : Nat → En} (hf : ∀ i c, -9223372036854775808 ≤ (f i).cell c ∧ (f i).cell c ≤ 9223372036854775807) (hg : ∀ i c, -9223372036854775808 ≤ (g i).cell c ∧ (g i).cell c ≤ 9223372036854775807) : Wf (starC f g) := fun i => by
  unfold starC
  split
  · exact hf _ _
  · exact hg _ _
theorem Ix.Ok.starWf {x : Ix} (h : x.Ok) (v : Int) : Wf (starC (x.star v false) (x.star v true)) := starC_wf (fun _ _ => star_wf h v false _ _) (fun _ _ => star_wf h v true _ _)

theorem eql72 (C D : Nat → Int) (hC : Wf C) (hD : Wf D) (r : Bool) (hr : r = true ↔ ∀ i, i < 72 → C i = D i) (w' : World) :
    (binOp .eql 61 (.agg (cellsR 72 C).toArray) (.agg (cellsR 72 D).toArray)).run Tryd.prog w' = .ok (.bool r) w' := by
  obtain ⟨r', hrun', hiff'⟩ := run_equal_row (P := Tryd.prog) w' (d := 9996) (m := 4) rowEntries (by kernel_rfl) (by rfl) (by kernel_rfl) hC hD
  have e : r' = r := by rw [Bool.eq_iff_iff, hiff', hr]
  rw [e] at hrun'
  have h3 : (Op.equal 61 (.agg (cellsR 72 C).toArray) (.agg (cellsR 72 D).toArray)).run Tryd.prog w' = .ok r w' := hrun'
  simp [binOp, Sem.run_bind, h3]

theorem wpList_of_quiet {P : Program} {ops : Array Oper} {C : World → Prop} {Q : Exit → Act → World → Prop} {Qa : Act → Prop} (hQ : ∀ a w, C w → Qa a → Q .normal a w) : ∀ (l : List Oper) (a : Act) (w : World), C w → wpQuiet P ops C Qa l a → wpList P ops Q l a w
  | [], a, w, hw, h => wpList_nil (hQ a w hw h)
  | o :: rest, a, w, hw, h => wpList_step fun K hK => by
    have h' : if Region.wanted o (yielded ops a.tmps) then o.quiet P a C (wpQuiet P ops C Qa rest) else wpQuiet P ops C Qa rest (a.put o.dst undef) := h
    split
    · rename_i hwant
      rw [if_pos hwant] at h'
      exact Oper.wp_of_quiet hw (fun a' w' hw' hk => hK _ _ (wpList_of_quiet hQ rest a' w' hw' hk)) h'
    · rename_i hwant
      rw [if_neg hwant] at h'
      exact hK _ _ (wpList_of_quiet hQ rest _ w hw h')
/-- A plain region, walked as a drawn one is. -/
theorem wp_region_plainfam {P : Program} {id : Nat} {Q : Exit → Act → World → Prop} {a : Act} {w : World} {l : List Oper}
    (h : wpQuiet P l.toArray (fun w' => ∃ n : Fam w, w' = n.v) (fun a' => ∀ w', (∃ n : Fam w, w' = n.v) → Q .normal a' w') l a) : (Code.region id l.toArray false).wp P Q a w :=
  wp_region_lit (wpList_of_quiet (C := fun w' => ∃ n : Fam w, w' = n.v) (Qa := fun a' => ∀ w', (∃ n : Fam w, w' = n.v) → Q .normal a' w') (fun _ w' hw' h => h w' hw') l a w ⟨⟨w, Fr.refl No w⟩, rfl⟩ h)

theorem StarAt.load {W : World} {b : Nat} {T : TypeId} {C : Nat → Int} (h : StarAt W b T C) (o : Nat) (ho : o + 72 ≤ 144) (n : Fam W) :
    (Instr.loadAt 61 (.pointer (some ⟨b, o, none⟩))).run Tryd.prog n.v = .ok (.agg (cellsR 72 fun j => C (o + j)).toArray) n.v := by
  have hd2 : Tryd.prog.underlying 61 = some _ := Tryd.underlying61
  have hi2 : (Tryd.prog.info? 61).map (·.size) = some 72 := by kernel_rfl
  exact run_loadAt_mid n.v b o 61 _ _ (Blk.rangeR (h.fr n.h (fun h => h)) o 72 ho) hd2 rfl (by rw [hi2, cellsR_len])

end Go.Proofs.YtpkocidcfnlbiaaDoor

/- Each two unlike vertices that are higher than a vertex: what a range over 'twos' hands out. -/
set_option linter.unusedVariables false
set_option linter.unusedSimpArgs false
namespace Go.Proofs.YtpkocidcfnlbiaaDoor
open Go.RowKit Go.Shelf

attribute [local go_sem] Oper.semAt_some

abbrev Ix.TwEl (x : Ix) (lo : Nat) := { p : Nat × Nat // lo < p.1 ∧ p.1 < x.n ∧ lo < p.2 ∧ p.2 < x.n ∧ p.1 ≠ p.2 }
def Ix.tw1 (x : Ix) (lo a : Nat) : Nat → List (x.TwEl lo)
  | 0 => []
  | b + 1 => if h : lo < a ∧ a < x.n ∧ lo < b ∧ b < x.n ∧ a ≠ b then x.tw1 lo a b ++ [⟨(a, b), h⟩] else x.tw1 lo a b
def Ix.tw (x : Ix) (lo : Nat) : Nat → List (x.TwEl lo)
  | 0 => []
  | a + 1 => x.tw lo a ++ x.tw1 lo a x.n
def Ix.twEnc (x : Ix) (lo : Nat) (el : x.TwEl lo) : Array Value := #[.int .i64 (x.by_ el.1.1 : Nat), .int .i64 (x.by_ el.1.2 : Nat)]
theorem Ix.tw1_succ (x : Ix) (lo a b : Nat) : x.tw1 lo a (b + 1) = if h : lo < a ∧ a < x.n ∧ lo < b ∧ b < x.n ∧ a ≠ b then x.tw1 lo a b ++ [⟨(a, b), h⟩] else x.tw1 lo a b := rfl
theorem Ix.tw_succ (x : Ix) (lo a : Nat) : x.tw lo (a + 1) = x.tw lo a ++ x.tw1 lo a x.n := rfl
theorem Ix.tw1_low (x : Ix) (lo a : Nat) : ∀ b, b ≤ lo + 1 → x.tw1 lo a b = []
  | 0, _ => rfl
  | b + 1, h => by rw [Ix.tw1_succ, dif_neg (fun hh => by omega), x.tw1_low lo a b (by omega)]
theorem Ix.tw1_lo (x : Ix) (lo a : Nat) (ha : a ≤ lo) : ∀ b, x.tw1 lo a b = []
  | 0 => rfl
  | b + 1 => by rw [Ix.tw1_succ, dif_neg (fun hh => by omega), x.tw1_lo lo a ha b]
theorem Ix.tw_low (x : Ix) (lo : Nat) : ∀ a, a ≤ lo + 1 → x.tw lo a = []
  | 0, _ => rfl
  | a + 1, h => by rw [Ix.tw_succ, x.tw_low lo a (by omega), x.tw1_lo lo a (by omega)]; rfl
theorem Ix.tw1_mem (x : Ix) (lo a : Nat) : ∀ b (el : x.TwEl lo), el ∈ x.tw1 lo a b ↔ el.1.1 = a ∧ el.1.2 < b
  | 0, el => by simp [Ix.tw1]
  | b + 1, el => by
    rw [Ix.tw1_succ]
    split
    · rename_i h
      rw [List.mem_append, x.tw1_mem lo a b el, List.mem_singleton]
      constructor
      · rintro (h1 | h1)
        · omega
        · subst h1; exact ⟨rfl, Nat.lt_succ_self _⟩
      · rintro ⟨h1, h2⟩
        by_cases e : el.1.2 = b
        · right; exact Subtype.ext (Prod.ext h1 e)
        · left; omega
    · rename_i h
      rw [x.tw1_mem lo a b el]
      constructor
      · omega
      · rintro ⟨h1, h2⟩
        by_cases e : el.1.2 = b
        · have := el.2; rw [h1, e] at this; exact absurd this h
        · omega
theorem Ix.tw_mem (x : Ix) (lo : Nat) : ∀ k (el : x.TwEl lo), el ∈ x.tw lo k ↔ el.1.1 < k
  | 0, el => by simp [Ix.tw]
  | k + 1, el => by
    rw [Ix.tw_succ, List.mem_append, x.tw_mem lo k el, x.tw1_mem]
    have := el.2
    omega
theorem Ix.tw1_pre (x : Ix) (lo a b : Nat) : ∀ d, x.tw1 lo a b <+: x.tw1 lo a (b + d)
  | 0 => List.prefix_refl _
  | d + 1 => by
    have := x.tw1_pre lo a b d
    show x.tw1 lo a b <+: x.tw1 lo a ((b + d) + 1)
    rw [Ix.tw1_succ]
    split
    · exact this.trans (List.prefix_append _ _)
    · exact this
theorem Ix.tw_pre (x : Ix) (lo a : Nat) : ∀ d, x.tw lo a <+: x.tw lo (a + d)
  | 0 => List.prefix_refl _
  | d + 1 => (x.tw_pre lo a d).trans (by show x.tw lo (a + d) <+: x.tw lo ((a + d) + 1); rw [Ix.tw_succ]; exact List.prefix_append _ _)
theorem Ix.tw_at (x : Ix) (lo a b : Nat) (ha : a < x.n) (hb : b ≤ x.n) : x.tw lo a ++ x.tw1 lo a b <+: x.tw lo x.n := by
  have h1 := x.tw1_pre lo a b (x.n - b)
  rw [show b + (x.n - b) = x.n by omega] at h1
  have h2 := x.tw_pre lo (a + 1) (x.n - (a + 1))
  rw [show a + 1 + (x.n - (a + 1)) = x.n by omega, Ix.tw_succ] at h2
  exact ((List.prefix_append_right_inj _).2 h1).trans h2

theorem Ix.Ok.byr_nat' {x : Ix} (h : x.Ok) {r : Nat} (hr : r < x.n) : x.byr (r : Nat) = (x.by_ r : Nat) := by
  unfold Ix.byr; rw [if_pos ⟨by omega, by omega⟩]; simp

/-- What a range over 'twos' hands out. -/
def Ix.twos (x : Ix) (v : Int) : List (x.TwEl (x.rk v.toNat)) := if x.vertex v then x.tw (x.rk v.toNat) x.n else []

end Go.Proofs.YtpkocidcfnlbiaaDoor

/- Sets of small numbers: bit, With, Has; walked. -/
set_option linter.unusedVariables false
set_option linter.unusedSimpArgs false
namespace Go.Proofs.YtpkocidcfnlbiaaDoor
open Go.RowKit

theorem pow24 {x : Nat} (hx : x < 24) : 2 ^ x < 2 ^ 24 := Nat.pow_lt_pow_right (by decide) hx
theorem cast_pow (x : Nat) : (2 : Int) ^ x = ((2 ^ x : Nat) : Int) := by simp
theorem wrap_pow {x : Nat} (hx : x < 24) : IntKind.u64.wrap (2 ^ x) = ((2 ^ x : Nat) : Int) := by
  have h := pow24 hx
  rw [cast_pow]
  generalize 2 ^ x = y at h
  unfold IntKind.wrap
  simp [IntKind.bits, IntKind.signed]
  omega
theorem or_pow {s x : Nat} (hs : s < 2 ^ 24) (hx : x < 24) : bits BinOp.or IntKind.u64 (s : Nat) (2 ^ x) = ((s ||| 2 ^ x : Nat) : Int) := by
  have h := pow24 hx
  rw [cast_pow, bits_or_u64_nat _ _ (by omega) (by omega)]
theorem and_pow {s x : Nat} (hs : s < 2 ^ 24) (hx : x < 24) : (bits BinOp.and IntKind.u64 (s : Nat) (2 ^ x) != 0) = s.testBit x := by
  have h := pow24 hx
  rw [cast_pow, bits_and_u64_nat _ _ (by omega) (by omega)]
  cases hb : s.testBit x with
  | true =>
    have h1 : (s &&& 2 ^ x).testBit x = true := by rw [Nat.testBit_and, hb, Nat.testBit_two_pow_self]; rfl
    have h2 : s &&& 2 ^ x ≠ 0 := fun e => by rw [e] at h1; simp at h1
    rw [bne_iff_ne]
    omega
  | false =>
    have h2 : s &&& 2 ^ x = 0 := Nat.eq_of_testBit_eq fun i => by
      rw [Nat.testBit_and, Nat.testBit_two_pow, Nat.zero_testBit]
      by_cases e : x = i
      · subst e; rw [hb]; rfl
      · simp [e]
    rw [h2]; rfl

end Go.Proofs.YtpkocidcfnlbiaaDoor

/- How far it is by a star's vertex; what moves, as plain mathematics; the star's sum, walked. -/
set_option linter.unusedVariables false
set_option linter.unusedSimpArgs false
namespace Go.Proofs.YtpkocidcfnlbiaaDoor
open Go.RowKit Go.Deep

def sumS (C : Nat → Int) (u w : Nat) : Int := add1 (normI (C (72 + u * 3))) (C (w * 3))
/-- Does an entry between two move? -/
def Ix.Hot (x : Ix) (C D : Nat → Int) (u w : Nat) : Prop := sumS C u w ≠ sumS D u w ∧ min (sumS C u w) (sumS D u w) ≤ (x.at_ (u : Nat) (w : Nat)).w
/-- Does a vertex move? -/
def Ix.Mv (x : Ix) (v : Int) (C D : Nat → Int) (i : Nat) : Prop :=
  x.vertex v = true ∧ ∃ u w, u < x.n ∧ w < x.n ∧ u ≠ w ∧ x.rk v.toNat < x.rk u ∧ x.rk v.toNat < x.rk w ∧ x.Hot C D u w ∧ x.low (u : Nat) (w : Nat) = (i : Nat)
/-- A set of numbers, as it is kept. -/
structure SetOf (s : Nat) (p : Nat → Prop) : Prop where
  lt : s < 2 ^ 24
  bit : ∀ i, s.testBit i = true ↔ p i

theorem SetOf.eq {s t : Nat} {p q : Nat → Prop} (hs : SetOf s p) (ht : SetOf t q) (h : ∀ i, p i ↔ q i) : s = t := Nat.eq_of_testBit_eq fun i => by
  rw [Bool.eq_iff_iff, hs.bit, ht.bit]; exact h i
theorem SetOf.nil {p : Nat → Prop} (h : ∀ i, ¬ p i) : SetOf 0 p := ⟨by decide, fun i => by simp [h i]⟩
theorem SetOf.or {s k : Nat} {p q : Nat → Prop} (hs : SetOf s p) (hk : k < 24) (h : ∀ i, q i ↔ (p i ∨ i = k)) : SetOf (s ||| 2 ^ k) q :=
  ⟨Nat.or_lt_two_pow hs.lt (pow24 hk), fun i => by
    rw [Nat.testBit_or, Nat.testBit_two_pow, Bool.or_eq_true, hs.bit, h i]
    simp only [decide_eq_true_eq]
    exact or_congr Iff.rfl ⟨Eq.symm, Eq.symm⟩⟩
theorem SetOf.congr {s : Nat} {p q : Nat → Prop} (hs : SetOf s p) (h : ∀ i, p i ↔ q i) : SetOf s q := ⟨hs.lt, fun i => (hs.bit i).trans (h i)⟩

end Go.Proofs.YtpkocidcfnlbiaaDoor
