/- The law's 'goes': the entries of a vertex's row, gone through, are the document's, as far as they are asked for; walked (up). -/
import Derived.Deep.Cut
import Derived.Laws.Bits64b
import Derived.Test.YtoepbhacpidcbaaGreatDoorQBase
import Derived.Test.YtoepbhacpidcbaaGreatDoorQIdx
import Derived.Test.YtoepbhacpidcbaaGreatDoorQPerm
import Derived.Test.YtoepbhacpidcbaaGreatDoorQIdxB
import Derived.Test.YtoepbhacpidcbaaGreatDoorQRef
import Derived.Test.YtoepbhacpidcbaaGreatDoorQUnref
import Derived.Test.YtoepbhacpidcbaaGreatDoorQItr
import Derived.Test.YtoepbhacpidcbaaGreatDoorQUnE
import Derived.Test.YtoepbhacpidcbaaGreatDoorQDst
import Derived.Test.YtoepbhacpidcbaaGreatDoorQLnk
import Derived.Test.YtoepbhacpidcbaaGreatDoorQLks
import Derived.Test.YtoepbhacpidcbaaGreatDoorQMid
import Derived.Test.YtoepbhacpidcbaaGreatDoorQBig
import Derived.Test.YtoepbhacpidcbaaGreatDoorQCp2

set_option linter.unusedVariables false
set_option linter.unusedSimpArgs false
namespace Go.Proofs.YtoepbhacpidcbaaGreatDoor
open Go.RowKit Go.Shelf

attribute [local go_sem] Oper.semAt_some
attribute [local go_sem high] run_eql_en run_neq_en eq3_self

end Go.Proofs.YtoepbhacpidcbaaGreatDoor

/- The law's 'goes': the entries of a vertex's row, gone through, are the document's, as far as they are asked for; walked (down). -/
set_option linter.unusedVariables false
set_option linter.unusedSimpArgs false
namespace Go.Proofs.YtoepbhacpidcbaaGreatDoor
open Go.RowKit Go.Shelf

attribute [local go_sem] Oper.semAt_some
attribute [local go_sem high] run_eql_en run_neq_en eq3_self

end Go.Proofs.YtoepbhacpidcbaaGreatDoor

/- The law of going through: the entries of a vertex's rows, all links and all shortcuts are the document's; walked. -/
set_option linter.unusedVariables false
set_option linter.unusedSimpArgs false
namespace Go.Proofs.YtoepbhacpidcbaaGreatDoor
open Go.RowKit Go.Deep

end Go.Proofs.YtoepbhacpidcbaaGreatDoor

/- A vertex's star, as plain mathematics. -/
set_option linter.unusedVariables false
set_option linter.unusedSimpArgs false
namespace Go.Proofs.YtoepbhacpidcbaaGreatDoor
open Go.RowKit

/-- What a vertex's star holds at a vertex: the entry to it, or from it, if it is higher. -/
def Ix.star (x : Ix) (v : Int) (back : Bool) (w : Nat) : En := if x.low v (w : Nat) = v ∧ x.two v (w : Nat) = true then x.dirE v back (w : Nat) else En.none
def Ix.starP (x : Ix) (v : Int) (back : Bool) (pre : List Nat) (w : Nat) : En := if w ∈ pre then x.dirE v back (w : Nat) else En.none

theorem Ix.rowTo_mem (x : Ix) (a : Nat) (back : Bool) : ∀ k (el : x.RowEl a back), el ∈ x.rowTo a back k ↔ el.1 < k
  | 0, el => by simp [Ix.rowTo]
  | k + 1, el => by
    rw [Ix.rowTo_succ]
    split
    · rename_i h
      rw [List.mem_append, Ix.rowTo_mem x a back k el, List.mem_singleton]
      constructor
      · rintro (h1 | h1)
        · omega
        · subst h1; exact Nat.lt_succ_self _
      · intro h1
        by_cases e : el.1 = k
        · right; exact Subtype.ext e
        · left; omega
    · rename_i h
      rw [Ix.rowTo_mem x a back k el]
      constructor
      · intro; omega
      · intro h1
        by_cases e : el.1 = k
        · exact absurd (e ▸ el.2) h
        · omega

theorem Ix.two_out {x : Ix} {v w : Int} (h : ¬ (0 ≤ v ∧ v < x.n)) : x.two v w = false := by
  unfold Ix.two; simp; omega

theorem Ix.Ok.star_all {x : Ix} (h : x.Ok) (v : Int) (back : Bool) (w : Nat) : x.starP v back ((x.row v back).map (fun el => x.by_ el.1)) w = x.star v back w := by
  unfold Ix.starP Ix.star Ix.row
  cases hv : x.vertex v with
  | false =>
    have hv2 : ¬ (0 ≤ v ∧ v < x.n) := by unfold Ix.vertex at hv; simpa using hv
    rw [x.two_out hv2]
    simp
  | true =>
    have hv2 : 0 ≤ v ∧ v < x.n := by unfold Ix.vertex at hv; simpa using hv
    obtain ⟨a, rfl⟩ := Int.eq_ofNat_of_zero_le hv2.1
    have ha : a < x.n := by omega
    have h2 := h.n2
    simp only [if_true, Int.toNat_natCast]
    by_cases hm : w ∈ (x.rowTo a back 24).map (fun el => x.by_ el.1)
    · rw [if_pos hm]
      obtain ⟨el, hel, rfl⟩ := List.mem_map.1 hm
      have hb := h.by_ el.1 el.2.2.1
      have h1 := el.2.1
      have hne : (a : Int) ≠ (x.by_ el.1 : Nat) := fun e => by
        have e' : a = x.by_ el.1 := by omega
        rw [← e'] at hb; omega
      have ht : x.two (a : Nat) (x.by_ el.1 : Nat) = true := by unfold Ix.two; simp; omega
      have hl : x.low (a : Nat) (x.by_ el.1 : Nat) = (a : Nat) := by
        unfold Ix.low
        rw [if_pos ht, if_pos (by simp only [Int.toNat_natCast]; omega)]
      rw [if_pos ⟨hl, ht⟩]
    · rw [if_neg hm]
      split
      · rename_i hc
        obtain ⟨hlow, htwo⟩ := hc
        obtain ⟨hne, _, _, _, hw⟩ := two_iff htwo
        have hw : w < x.n := by omega
        have hrk : x.rk a < x.rk w := by
          unfold Ix.low at hlow
          rw [if_pos htwo] at hlow
          simp only [Int.toNat_natCast] at hlow
          split at hlow
          · assumption
          · omega
        have hrw := h.rk w hw
        have hd := h.rowE_dir back ha hrk hrw.1
        rw [hrw.2] at hd
        rw [← hd]
        refine Decidable.byContradiction fun hne2 => hm ?_
        exact List.mem_map.2 ⟨⟨x.rk w, hrk, hrw.1, fun e => hne2 e.symm⟩, (Ix.rowTo_mem x a back 24 _).2 (by show x.rk w < 24; omega), hrw.2⟩
      · rfl

theorem Ix.starP_nil (x : Ix) (v : Int) (back : Bool) (w : Nat) : x.starP v back [] w = En.none := by simp [Ix.starP]
theorem Ix.starP_snoc (x : Ix) (v : Int) (back : Bool) (pre : List Nat) (u w : Nat) : x.starP v back (pre ++ [u]) w = if w = u then x.dirE v back (u : Nat) else x.starP v back pre w := by
  unfold Ix.starP
  by_cases e : w = u
  · subst e; simp
  · simp [e]

end Go.Proofs.YtoepbhacpidcbaaGreatDoor

/- A vertex's star in memory; the bare one; walked. -/
set_option linter.unusedVariables false
set_option linter.unusedSimpArgs false
namespace Go.Proofs.YtoepbhacpidcbaaGreatDoor
open Go.RowKit Go.Deep

/-- The cells of a star. -/
def starC (f g : Nat → En) (i : Nat) : Int := if i < 72 then (f (i / 3)).cell (i % 3) else (g ((i - 72) / 3)).cell (i % 3)
def StarAt (w : World) (b : Nat) (T : TypeId) (C : Nat → Int) : Prop := Blk w b 144 T (fun i => .int .i64 (C i))
def starV (C : Nat → Int) : Value := .agg (cellsR 144 C).toArray
def updE (f : Nat → En) (j : Nat) (e : En) : Nat → En := fun i => if i = j then e else f i

theorem Blk.ints3 {w : World} {b n : Nat} {T : TypeId} {C C' : Nat → Int} (h : Blk w b n T (fun i => .int .i64 (C i))) (o : Nat) (e : En)
    (h1 : ∀ i, i < n → C' i = if i = o + 2 then e.m else if i = o + 1 then e.a else if i = o then e.w else C i) :
    Blk (((w.setCell ⟨b, o, none⟩ (.int .i64 e.w)).setCell ⟨b, o + 1, none⟩ (.int .i64 e.a)).setCell ⟨b, o + 2, none⟩ (.int .i64 e.m)) b n T (fun i => .int .i64 (C' i)) :=
  (((h.setCell o _).setCell (o + 1) _).setCell (o + 2) _).congr fun i hi => by
    rw [h1 i hi]; unfold upd
    by_cases e2 : i = o + 2
    · simp [e2]
    · by_cases e1 : i = o + 1
      · simp [e1]
      · by_cases e0 : i = o
        · simp [e0]
        · simp [e0, e1, e2]

theorem starC_out (f g : Nat → En) (j : Nat) (e : En) (hj : j < 24) (i : Nat) :
    starC (updE f j e) g i = if i = j * 3 + 2 then e.m else if i = j * 3 + 1 then e.a else if i = j * 3 then e.w else starC f g i := by
  unfold starC updE
  by_cases h : i / 3 = j ∧ i < 72
  · obtain ⟨h1, h2⟩ := h
    have hc : i = j * 3 + i % 3 := by omega
    have h3 : i % 3 < 3 := Nat.mod_lt _ (by omega)
    rw [if_pos h2, if_pos h1]
    generalize i % 3 = c at hc h3 ⊢
    match c, h3 with
    | 0, _ => rw [if_neg (by omega), if_neg (by omega), if_pos (by omega)]; rfl
    | 1, _ => rw [if_neg (by omega), if_pos (by omega)]; rfl
    | 2, _ => rw [if_pos (by omega)]; rfl
  · rw [if_neg (show ¬ i = j * 3 + 2 by omega), if_neg (show ¬ i = j * 3 + 1 by omega), if_neg (show ¬ i = j * 3 by omega)]
    by_cases h2 : i < 72
    · rw [if_pos h2, if_pos h2, if_neg (fun h1 => h ⟨h1, h2⟩)]
    · rw [if_neg h2, if_neg h2]
theorem starC_in (f g : Nat → En) (j : Nat) (e : En) (hj : j < 24) (i : Nat) :
    starC f (updE g j e) i = if i = 72 + j * 3 + 2 then e.m else if i = 72 + j * 3 + 1 then e.a else if i = 72 + j * 3 then e.w else starC f g i := by
  unfold starC updE
  by_cases h : (i - 72) / 3 = j ∧ ¬ i < 72
  · obtain ⟨h1, h2⟩ := h
    have hc : i = 72 + j * 3 + i % 3 := by omega
    have h3 : i % 3 < 3 := Nat.mod_lt _ (by omega)
    rw [if_neg h2, if_pos h1]
    generalize i % 3 = c at hc h3 ⊢
    match c, h3 with
    | 0, _ => rw [if_neg (by omega), if_neg (by omega), if_pos (by omega)]; rfl
    | 1, _ => rw [if_neg (by omega), if_pos (by omega)]; rfl
    | 2, _ => rw [if_pos (by omega)]; rfl
  · rw [if_neg (show ¬ i = 72 + j * 3 + 2 by omega), if_neg (show ¬ i = 72 + j * 3 + 1 by omega), if_neg (show ¬ i = 72 + j * 3 by omega)]
    by_cases h2 : i < 72
    · rw [if_pos h2, if_pos h2]
    · rw [if_neg h2, if_neg h2, if_neg (fun h1 => h ⟨h1, h2⟩)]

theorem StarAt.out {w : World} {b : Nat} {T : TypeId} {f g : Nat → En} (h : StarAt w b T (starC f g)) (j : Nat) (hj : j < 24) (e : En) :
    StarAt (((w.setCell ⟨b, j * 3, none⟩ (.int .i64 e.w)).setCell ⟨b, j * 3 + 1, none⟩ (.int .i64 e.a)).setCell ⟨b, j * 3 + 2, none⟩ (.int .i64 e.m)) b T (starC (updE f j e) g) :=
  Blk.ints3 h _ _ fun i _ => starC_out f g j e hj i
theorem StarAt.in_ {w : World} {b : Nat} {T : TypeId} {f g : Nat → En} (h : StarAt w b T (starC f g)) (j : Nat) (hj : j < 24) (e : En) :
    StarAt (((w.setCell ⟨b, 72 + j * 3, none⟩ (.int .i64 e.w)).setCell ⟨b, 72 + j * 3 + 1, none⟩ (.int .i64 e.a)).setCell ⟨b, 72 + j * 3 + 2, none⟩ (.int .i64 e.m)) b T (starC f (updE g j e)) :=
  Blk.ints3 h _ _ fun i _ => starC_in f g j e hj i

theorem Blk.rangeR {w : World} {b n : Nat} {T : TypeId} {C : Nat → Int} (h : Blk w b n T (fun i => .int .i64 (C i))) (o m : Nat) (hm : o + m ≤ n) : w.rangeAt b o (cellsR m fun j => C (o + j)) := fun j v hv => by
  rcases Nat.lt_or_ge j m with hj | hj
  · simp only [cellsR, List.getElem?_map, List.getElem?_range hj, Option.map_some, Option.some.injEq] at hv
    subst hv
    exact h.cell (by omega)
  · rw [List.getElem?_eq_none (by simpa [cellsR] using hj)] at hv; cases hv
theorem cellsR_len (m : Nat) (C : Nat → Int) : (cellsR m C).length = m := by simp [cellsR]
theorem cellsR_one (m : Nat) (C : Nat → Int) : (cellsR m C).toArray.all (·.oneCell') = true := all_oneCell_toArray fun v hv => by
  simp only [cellsR, List.mem_map] at hv
  obtain ⟨i, _, rfl⟩ := hv
  rfl
theorem Blk.thereR {w : World} {b n : Nat} {T : TypeId} {V : Nat → Value} (h : Blk w b n T V) (o m : Nat) (hm : o + m ≤ n) : w.there b o m := fun j hj =>
  ⟨by rw [h.cell (by omega)]; rfl, h.frozen _⟩
theorem Blk.setR {w : World} {b n : Nat} {T : TypeId} {C C' : Nat → Int} (h : Blk w b n T (fun i => .int .i64 (C i))) (o m : Nat) (D : Nat → Int) (h1 : ∀ i, i < n → C' i = if o ≤ i ∧ i < o + m then D (i - o) else C i) :
    Blk (w.setCells b o (cellsR m D)) b n T (fun i => .int .i64 (C' i)) :=
  (Blk.setCells _ o w _ h).congr fun i hi => by
    rw [cellsR_len, h1 i hi]
    by_cases hc : o ≤ i ∧ i < o + m
    · rw [if_pos hc, if_pos hc]
      have : i - o < m := by omega
      simp [cellsR, List.getD, this]
    · rw [if_neg hc, if_neg hc]

theorem star_zero_p (i : Nat) (h : i < 144) : Tryz.zeroCells229[i]? = some (.int .i64 0) := by
  have a1 : Tryz.zeroCells229.toList.all isZ = true := by kernel_rfl
  have s1 : i < Tryz.zeroCells229.size := by rw [Tryz.zeroCells229_size]; exact h
  rw [Array.getElem?_eq_getElem s1, isZ_eq (List.all_eq_true.1 a1 Tryz.zeroCells229[i] (Array.getElem_mem_toList _))]
def zE : Nat → En := fun _ => ⟨0, 0, 0⟩
def nE : Nat → En := fun _ => En.none
def bE (k : Nat) : Nat → En := fun j => if j < k then En.none else ⟨0, 0, 0⟩
theorem zE_cell (i c : Nat) : (zE i).cell c = 0 := by unfold zE En.cell; split <;> (try split) <;> rfl
theorem star_zero (i : Nat) : starC zE zE i = 0 := by unfold starC; split <;> exact zE_cell _ _
theorem StarAt.new1 (w : World) : StarAt (w.alloc (.cells Tryz.zeroCells229 229)) w.heap.size 229 (starC zE zE) :=
  ⟨_, heap_new _ _, by simp [Tryz.zeroCells229_size], fun i hi => by show _ = some (Value.int .i64 (starC zE zE i)); rw [star_zero_p i hi, star_zero]⟩
theorem bE_succ (k : Nat) : updE (bE k) k En.none = bE (k + 1) := by
  funext i; unfold updE bE
  by_cases h : i = k
  · subst h; rw [if_pos rfl, if_pos (by omega)]
  · rw [if_neg h]
    by_cases h2 : i < k
    · rw [if_pos h2, if_pos (by omega)]
    · rw [if_neg h2, if_neg (by omega)]
theorem starC_congr {f g f' g' : Nat → En} (hf : ∀ i, i < 24 → f i = f' i) (hg : ∀ i, i < 24 → g i = g' i) (i : Nat) (hi : i < 144) : starC f g i = starC f' g' i := by
  unfold starC
  split
  · rw [hf _ (by omega)]
  · rw [hg _ (by omega)]
theorem StarAt.congr {w : World} {b : Nat} {T : TypeId} {f g f' g' : Nat → En} (h : StarAt w b T (starC f g)) (hf : ∀ i, i < 24 → f i = f' i) (hg : ∀ i, i < 24 → g i = g' i) : StarAt w b T (starC f' g') :=
  Blk.congr h fun i hi => by rw [starC_congr hf hg i hi]
theorem StarAt.range {w : World} {b : Nat} {T : TypeId} {C : Nat → Int} (h : StarAt w b T C) : w.rangeAt b 0 (cellsR 144 C) := by
  have := Blk.rangeR h 0 144 (by omega)
  simpa using this

theorem run_loadVar_star {w : World} {b : Nat} {T : TypeId} {C : Nat → Int} (h : StarAt w b T C) (ty : TypeId) (d : TypeDesc) (hu : Tryz.prog.underlying ty = some d) (hd : d.isRow = true) (hi : (Tryz.prog.info? ty).map (·.size) = some 144) :
    (loadVar ty ⟨b, 0, none⟩).run Tryz.prog w = .ok (starV C) w := run_loadVar_mid w b 0 ty _ d h.range hu hd (by rw [hi, cellsR_len])

theorem results_cell {P : Program} {fn : Func} {tmps : Array Value} {a : Nat} {t : TypeId} {v : Value} {w : World} {p : Addr} (hr : fn.results = #[.cell a t]) (ha : tmps.getD a undef = .pointer (some p)) (hl : (loadVar t p).run P w = .ok v w) :
    (results fn tmps).run P w = .ok v w := by
  have ha' : tmps[a]?.getD undef = .pointer (some p) := by rw [← ha]; simp
  unfold results
  rw [hr]
  simp [Sem.run_bind, Sem.run_pure, Result.andThen_ok, ha', asAddr, hl]

set_option maxRecDepth 100000 in
set_option maxHeartbeats 2000000 in
theorem bare_calls (w : World) :
    Calls Tryz.prog 201 #[] w fun e w' => e = .returned (starV (starC nE nE)) ∧ Fr No w w' := by
  have hd1 : Tryz.prog.underlying 229 = some _ := Tryz.underlying229
  have hi1 : (Tryz.prog.info? 229).map (·.size) = some 144 := by kernel_rfl
  have hd2 : Tryz.prog.underlying 135 = some _ := Tryz.underlying135
  have hi2 : (Tryz.prog.info? 135).map (·.size) = some 72 := by kernel_rfl
  go_enter Tryz.func201, Tryz.ntmps201
  go_wp2
  go_loopw [3] (fun i wr => ∃ k : Nat, k ≤ 24 ∧ i = .int .i64 k ∧ Fr No w wr ∧ StarAt wr w.heap.size 229 (starC zE zE) ∧ StarAt wr (w.heap.size + 1) 229 (starC (bE k) zE)) (fun i _ => 24 - (intOf i).toNat)
  case atStart =>
    have h2 := StarAt.new1 (w.alloc (.cells Tryz.zeroCells229 229))
    rw [World.size_alloc] at h2
    exact ⟨0, Nat.zero_le _, rfl, ((Fr.refl _ _).alloc _).alloc _, Blk.alloc (StarAt.new1 w) _, h2⟩
  case round =>
    obtain ⟨k, hk, rfl, hf, hz, hs⟩ := hrel
    have HF := hid hf
    have HZ := hid hz
    have HS := hid hs
    by_cases hlt : k < 24
    · have hltI : (k : Int) < 24 := by omega
      have z0 := Blk.cell hs (i := k * 3) (by omega)
      have z1 := Blk.cell hs (i := k * 3 + 1) (by omega)
      have z2 := Blk.cell hs (i := k * 3 + 2) (by omega)
      have z3 := fun i => Blk.frozen hs i
      clear hf hz hs
      go_wp2
      go_roundw
      case rel =>
        refine ⟨k + 1, hlt, by go_num, ((HF.out.setCell (p := ⟨w.heap.size + 1, _, none⟩) (.inr (by show w.heap.size ≤ w.heap.size + 1; omega)) _).setCell (p := ⟨w.heap.size + 1, _, none⟩) (.inr (by show w.heap.size ≤ w.heap.size + 1; omega)) _).setCell (p := ⟨w.heap.size + 1, _, none⟩) (.inr (by show w.heap.size ≤ w.heap.size + 1; omega)) _,
          ((Blk.setCell_ne HZ.out (by show w.heap.size + 1 ≠ w.heap.size; omega) _ |>.setCell_ne (by show w.heap.size + 1 ≠ w.heap.size; omega) _).setCell_ne (by show w.heap.size + 1 ≠ w.heap.size; omega) _), ?_⟩
        rw [← bE_succ]
        exact HS.out.out k hlt En.none
      case measure => simp [intOf]; omega
    · have e : k = 24 := by omega
      subst e
      clear hf hz hs
      have hr72 := Blk.rangeR HS.out 0 72 (by omega)
      have e72 : cellsR 72 (fun j => starC (bE 24) zE (0 + j)) = cellsR 72 (starC nE nE) := by
        unfold cellsR
        refine List.map_congr_left fun j hj => ?_
        have hj : j < 72 := by simpa using hj
        show Value.int .i64 (starC (bE 24) zE (0 + j)) = Value.int .i64 (starC nE nE j)
        unfold starC bE nE
        rw [Nat.zero_add, if_pos hj, if_pos hj, if_pos (by omega)]
      rw [e72] at hr72
      have hs2 : StarAt (wr.setCells (w.heap.size + 1) 72 (cellsR 72 (starC nE nE))) (w.heap.size + 1) 229 (starC nE nE) :=
        Blk.setR HS.out 72 72 _ fun i hi => by
          unfold starC bE nE
          by_cases h : i < 72
          · rw [if_pos h, if_neg (by omega), if_pos h, if_pos (by omega)]
          · rw [if_neg h, if_pos (by omega), if_pos (by omega), show (i - 72) % 3 = i % 3 by omega]
      have hl72 := cellsR_len 72 (starC nE nE)
      have ho72 := cellsR_one 72 (starC nE nE)
      have ht72 := Blk.thereR HS.out 72 72 (by omega)
      have hrg := hid hs2.range
      have hl144 := cellsR_len 144 (starC nE nE)
      have ho144 := cellsR_one 144 (starC nE nE)
      have hz0 := Blk.setR (StarAt.congr (Blk.fr (F := One (w.heap.size + 1)) HZ.out (show Fr (One (w.heap.size + 1)) wr _ from Fr.setCellsL (F := One (w.heap.size + 1)) (.inl rfl) (cellsR 72 (starC nE nE)) 72 wr (Fr.refl _ _)) (fun (h : w.heap.size = w.heap.size + 1) => by omega)) (fun _ _ => rfl) (fun _ _ => rfl)) 0 144 (starC nE nE) (C' := starC nE nE) (fun i hi => by rw [if_pos (by omega)]; rfl)
      have ht144 := Blk.thereR (Blk.fr (F := One (w.heap.size + 1)) HZ.out (show Fr (One (w.heap.size + 1)) wr _ from Fr.setCellsL (F := One (w.heap.size + 1)) (.inl rfl) (cellsR 72 (starC nE nE)) 72 wr (Fr.refl _ _)) (fun (h : w.heap.size = w.heap.size + 1) => by omega)) 0 144 (by omega)
      have hF : Fr No w ((wr.setCells (w.heap.size + 1) 72 (cellsR 72 (starC nE nE))).setCells w.heap.size 0 (cellsR 144 (starC nE nE))) :=
        Fr.setCellsL (.inr (Nat.le_refl _)) _ _ _ (Fr.setCellsL (.inr (Nat.le_succ _)) _ _ _ HF.out)
      have hlv := run_loadVar_star hz0 229 _ hd1 rfl hi1
      obtain ⟨X, hX⟩ : ∃ X, cellsR 72 (starC nE nE) = X := ⟨_, rfl⟩
      obtain ⟨Y, hY⟩ : ∃ Y, cellsR 144 (starC nE nE) = Y := ⟨_, rfl⟩
      rw [hX] at hr72 hl72 ho72 hlv hF hrg
      rw [hX] at ht144
      rw [hY] at hl144 ho144 hlv hF hrg
      clear hX hz0 hs2 e72
      go_wp2_with (first
       | (refine wpList_load_mid rfl 135 (.tmp 11) rfl (w.heap.size + 1) 0 rfl X _ hr72 hd2 rfl (by rw [hi2, hl72]) ?_)
       | (refine wpList_store_mid rfl 135 (.tmp 13) (.tmp 12) rfl (w.heap.size + 1) 72 X.toArray rfl rfl (by simpa [hl72] using ht72) (by rw [hi2]; simp [hl72]) ho72 ?_; simp only [List.toList_toArray])
       | (refine wpList_load_mid rfl 229 (.tmp 1) rfl (w.heap.size + 1) 0 rfl Y _ hrg.out hd1 rfl (by rw [hi1, hl144]) ?_)
       | (refine wpList_store_mid rfl 229 (.tmp 0) (.tmp 14) rfl w.heap.size 0 Y.toArray rfl rfl (by simpa [hl144] using ht144) (by rw [hi1]; simp [hl144]) ho144 ?_; simp only [List.toList_toArray]))
      exact bodyPost_ret (v := starV (starC nE nE)) (results_cell rfl rfl hlv) rfl ⟨rfl, hF⟩

end Go.Proofs.YtoepbhacpidcbaaGreatDoor

/- A vertex's star: the program's; walked. -/
set_option linter.unusedVariables false
set_option linter.unusedSimpArgs false
namespace Go.Proofs.YtoepbhacpidcbaaGreatDoor
open Go.RowKit Go.Shelf Go.Deep

attribute [local go_sem] Oper.semAt_some

theorem StarAt.set {W : World} {b : Nat} {T : TypeId} {C0 : Nat → Int} (h : StarAt W b T C0) (C : Nat → Int) : StarAt (W.setCells b 0 (cellsR 144 C)) b T C :=
  Blk.setR h 0 144 C fun i hi => by rw [if_pos (by omega)]; rfl
theorem StarAt.there {W : World} {b : Nat} {T : TypeId} {C0 : Nat → Int} (h : StarAt W b T C0) : W.there b 0 144 := Blk.thereR h 0 144 (by omega)
theorem StarAt.fr {w w' : World} {b : Nat} {T : TypeId} {C : Nat → Int} (h : StarAt w b T C) {F : Nat → Prop} (hf : Fr F w w') (hF : ¬ F b) : StarAt w' b T C := Blk.fr h hf hF
theorem StarAt.heap {w w' : World} {b : Nat} {T : TypeId} {C : Nat → Int} (h : StarAt w b T C) (e : w'.heap[b]? = w.heap[b]?) : StarAt w' b T C := Blk.of_heap h e
theorem StarAt.lt {w : World} {b : Nat} {T : TypeId} {C : Nat → Int} (h : StarAt w b T C) : b < w.heap.size := Blk.lt h
theorem StarAt.own {β : Type} {N b : Nat} {T : TypeId} (hb : b < N) (C : β → Nat → Int) : OwnFrom N (fun (s : β) W => StarAt W b T (C s)) := fun s A B row hs hg hr =>
  hs.heap (hg.block b hs.lt (fun e => by have := (hr b e.symm).1; omega))

theorem starP_step {x : Ix} (v : Int) (back : Bool) (pre : List Nat) (z : Nat) : updE (x.starP v back pre) z (x.dirE v back (z : Nat)) = x.starP v back (pre ++ [z]) := by
  funext w
  rw [Ix.starP_snoc]
  rfl

set_option maxRecDepth 100000 in
set_option maxHeartbeats 4000000 in
theorem star_calls {x : Ix} {w : World} {L : IxLoc} (h : IxMem w L x) (v : Int) :
    Calls Tryz.prog 147 #[.pointer (some ⟨L.b, 0, none⟩), .int .i64 v] w fun e w' => e = .returned (starV (starC (x.star v false) (x.star v true))) ∧ Fr No w w' := by
  have hd1 : Tryz.prog.underlying 229 = some _ := Tryz.underlying229
  have hi1 : (Tryz.prog.info? 229).map (·.size) = some 144 := by kernel_rfl
  have H := hid h
  have hn2 := h.ok.n2
  have zl1 := h.lt
  have zl2 := h.hr.1
  have zl3 := h.hb.1
  have zl4 := h.gn.lt
  clear h
  refine (callsIn_wide (n := 7)).1 ?_
  refine callsIn_of_wp_marks Tryz.func147 rfl trivial ?_ rfl
  refine wpIn_wide.2 ?_
  simp only [Tryz.ntmps147, List.size_toArray, List.length_cons, List.length_nil, Nat.reduceAdd, Nat.reduceSub, Array.replicate_succ, Array.replicate_zero, List.push_toArray, List.append_toArray, List.nil_append, List.cons_append]
  go_wp2_with fail
  have fa : Fr No w (w.alloc (.cells Tryz.zeroCells229 229)) := (Fr.refl No w).alloc _
  have r0 := StarAt.new1 w
  refine (bare_calls _).mono ?_
  rintro e w1 ⟨rfl, hf⟩
  have F1 := hid (fa.trans hf)
  have R1 := hid (r0.fr hf (fun h => h))
  have hz1 := R1.out.lt
  clear fa r0 hf
  have hs1 := (StarAt.new1 w1).set (starC nE nE)
  have ht1 := (StarAt.new1 w1).there
  have ho1 := cellsR_one 144 (starC nE nE)
  have hl1 := cellsR_len 144 (starC nE nE)
  have f1 : Fr No w1 ((w1.alloc (.cells Tryz.zeroCells229 229)).setCells w1.heap.size 0 (cellsR 144 (starC nE nE))) := Fr.setCellsL (.inr (Nat.le_refl _)) _ _ _ ((Fr.refl _ _).alloc _)
  unfold starV
  obtain ⟨X, hX⟩ : ∃ X, cellsR 144 (starC nE nE) = X := ⟨_, rfl⟩
  rw [hX] at hs1 ho1 hl1 f1 ⊢
  have HS1 := hid hs1
  have FS1 := hid (F1.out.trans f1)
  have RS1 := hid (R1.out.fr f1 (fun h => h))
  clear hX hs1 f1
  go_wp2_with (refine wpList_store_mid rfl 229 (.tmp 5) (.tmp 10) rfl w1.heap.size 0 X.toArray rfl rfl (by simpa [hl1] using ht1) (by rw [hi1]; simp [hl1]) ho1 ?_; simp only [List.toList_toArray])
  have hsz : w1.heap.size < ((w1.alloc (.cells Tryz.zeroCells229 229)).setCells w1.heap.size 0 X).heap.size := HS1.out.lt
  generalize ((w1.alloc (.cells Tryz.zeroCells229 229)).setCells w1.heap.size 0 X) = W1 at HS1 FS1 RS1 hsz ⊢
  generalize hS : w1.heap.size = S at *
  have hS1 : w.heap.size < S := by omega
  clear ht1 hl1 ho1 F1 R1 hS
  refine (up_calls L.b v _).mono ?_
  rintro e W0 ⟨rfl, hW0⟩
  have f0 : Fr No W1 W0 := by rw [hW0]; exact (((Fr.refl No W1).alloc _).alloc _).alloc _
  have cbx : W0.cell? ⟨W1.heap.size, 0, none⟩ = some (.pointer (some ⟨L.b, 0, none⟩)) := by rw [hW0]; simp [go_sem]
  have cbv : W0.cell? ⟨W1.heap.size + 1, 0, none⟩ = some (.int .i64 v) := by rw [hW0]; simp [go_sem]
  have cbr : W0.cell? ⟨W1.heap.size + 1 + 1, 0, none⟩ = some (.func (.func 192) #[] #[]) := by rw [hW0]; simp [go_sem]
  have hsz0 : W0.heap.size = W1.heap.size + 1 + 1 + 1 := by rw [hW0]; simp
  clear hW0
  have F0 := hid (FS1.out.trans f0)
  have HM0 := hid (H.out.no F0.out)
  have S0 := HS1.out.fr f0 (fun h => h)
  have R0 := hid (RS1.out.fr f0 (fun h => h))
  clear f0 HS1 FS1 RS1
  go_wp2
  refine (wpIn_wide (n := 7)).1 ?_
  refine wpIn_rangeFunc_ownH rfl (by omega) (gf := 220) (lb := #[.pointer (some ⟨W1.heap.size, 0, none⟩), .pointer (some ⟨W1.heap.size + 1, 0, none⟩), .pointer (some ⟨W1.heap.size + 1 + 1, 0, none⟩)]) rfl trivial (enters_of Tryz.func220 (by kernel_rfl) rfl)
    (all1_any_up (x := x) (L := L) 6 (by omega) (W1.heap.size) (W1.heap.size + 1) (W1.heap.size + 1 + 1) v (fun k => k = S ∨ W0.heap.size ≤ k) (by omega) (by omega) (by omega) (by omega) (by omega) (by omega) W0 HM0.out cbx cbv cbr)
    (fun h k => Fr.trans h k) (fun W l' o o' hl _ _ _ => fr_putObj W l' o' (.inr hl)) (Below.refl _ _) (fun _ => rfl)
    (fun pre W => StarAt W S 229 (starC (x.starP v false (pre.map fun el => x.by_ el.1)) nE) ∧ Fr (fun k => k = S ∨ W0.heap.size ≤ k) W0 W)
    (fun c xs W => False)
    (fun s A B row hs hg hr => ⟨StarAt.own (N := W0.heap.size) (by omega) (fun (_ : Unit) => starC (x.starP v false (s.map fun el => x.by_ el.1)) nE) () A B row hs.1 hg hr, ownFrom_fr _ W0 s A B row hs.2 hg hr⟩)
    (fun c s A B row hs hg hr => hs)
    ⟨S0.congr (fun i _ => (x.starP_nil v false i).symm) (fun _ _ => rfl), Fr.refl _ _⟩
    (fun el a' W => ∃ Be, W0.heap.size ≤ Be ∧ W.cell? ⟨Be, 0, none⟩ = some (.int .i64 (x.rowE v.toNat false el.1).w) ∧ W.cell? ⟨Be, 1, none⟩ = some (.int .i64 (x.rowE v.toNat false el.1).a) ∧ W.cell? ⟨Be, 2, none⟩ = some (.int .i64 (x.rowE v.toNat false el.1).m) ∧
      a' = { tmps := #[.pointer (some ⟨L.b, 0, none⟩), .int .i64 v, undef, undef, .pointer (some ⟨w.heap.size, 0, none⟩), .pointer (some ⟨S, 0, none⟩), .int .i64 (x.by_ el.1 : Nat), .pointer (some ⟨Be, 0, none⟩), undef, undef, .agg X.toArray, .pointer (some ⟨L.b, 0, none⟩), .int .i64 v, .func (.func 220) #[] #[.pointer (some ⟨W1.heap.size, 0, none⟩), .pointer (some ⟨W1.heap.size + 1, 0, none⟩), .pointer (some ⟨W1.heap.size + 1 + 1, 0, none⟩)], .int .i64 (x.by_ el.1 : Nat), (x.rowE v.toNat false el.1).val, undef, undef, undef, undef, undef, undef, undef, undef, undef, undef, undef, undef, undef, undef], defers := [] })
    (fun el a' s A B row hs hg hr => by
      obtain ⟨Be, h0, h1, h2, h3, h4⟩ := hs
      exact ⟨Be, h0, cell_kept h1 hg (fun r e => (hr r e).2), cell_kept h2 hg (fun r e => (hr r e).2), cell_kept h3 hg (fun r e => (hr r e).2), h4⟩)
    ?assign ?body ?done ?stop
  case stop => rintro D c xs W hD hpre hix hK; exact hix.elim
  case assign =>
    rintro l' pre el W K ⟨hst, hfr⟩ hK
    have hsz0 := hfr.size
    have fW : ∀ o, Fr No W (W.alloc o) := fun o => (Fr.refl No W).alloc o
    have HK := hid hK
    have HFR := hid hfr
    have HST := hid hst
    clear hK hfr hst
    simp only [Ix.rowEnc, En.val]
    gi_wp2
    refine HK.out _ _ ((KeepsOthers.alloc _ _).from _) (fW _).no ⟨HST.out.fr (fW _) (fun h => h), HFR.out.trans (fW _).no⟩ ⟨W.heap.size, hsz0, ?_, ?_, ?_, rfl⟩
    · exact cell_of (heap_new W _) 0
    · exact cell_of (heap_new W _) 1
    · exact cell_of (heap_new W _) 2
  case body =>
    rintro l' pre el a' W hlp hloop ⟨hst, hfr⟩ ⟨Be, hBe, g0, g1, g2, rfl⟩ hlen
    have hvx : x.vertex v = true := by
      cases hvx : x.vertex v with
      | true => rfl
      | false => unfold Ix.row at hlen; rw [hvx] at hlen; simp at hlen
    obtain ⟨hby, hdir⟩ := (HM0.out.ok).row_el hvx el
    have hstep := starP_step (x := x) v false (pre.map fun el => x.by_ el.1) (x.by_ el.1)
    rw [← hdir] at hstep
    have HSTEP := hid hstep
    obtain ⟨⟨p0, p1, p2⟩, hen⟩ : ∃ y, x.rowE v.toNat false el.1 = y := ⟨_, rfl⟩
    obtain ⟨z, hz⟩ : ∃ z, x.by_ el.1 = z := ⟨_, rfl⟩
    rw [hen] at g0 g1 g2 HSTEP
    rw [hz] at hby HSTEP
    have hz24 : (z : Int) < 24 := by omega
    simp only at g0 g1 g2
    have HST := hid hst
    have HFR := hid hfr
    have z0 := Blk.cell hst (i := z * 3) (by omega)
    have z1 := Blk.cell hst (i := z * 3 + 1) (by omega)
    have z2 := Blk.cell hst (i := z * 3 + 2) (by omega)
    have z3 := fun i => Blk.frozen hst i
    have HEN := hid hen
    have HZ := hid hz
    clear hst hfr hdir hstep hen hz hlen hloop cbx cbv cbr S0
    rw [HEN.out, HZ.out]
    simp only [En.val]
    gi_wp2
    have hw8 : Fr (One S) W (((W.setCell ⟨S, z * 3, none⟩ (.int .i64 p0)).setCell ⟨S, z * 3 + 1, none⟩ (.int .i64 p1)).setCell ⟨S, z * 3 + 2, none⟩ (.int .i64 p2)) := (((Fr.refl _ _).set1 _ _).set1 _ _).set1 _ _
    have hst8 := HST.out.out z (by omega) ⟨p0, p1, p2⟩
    rw [HSTEP.out] at hst8
    refine ⟨keepsFrom_fr (B := W0.heap.size) hw8 (fun k (h : k = _) => by omega), hw8.mono (fun k hk (h : k = S) => .inl h), ?_, HFR.out.trans (hw8.mono fun k hk (h : k = S) => .inl h)⟩
    rw [List.map_append, List.map_cons, List.map_nil, HZ.out]
    exact hst8
  case done =>
    rintro D xs W hD hys ⟨hst, hfr⟩ hK
    subst hys
    have hfw : Fr No w W := F0.out.trans' hfr (fun i hi h => by omega)
    have S1 := hst.congr (f' := x.star v false) (g' := nE) (fun i _ => (HM0.out.ok).star_all v false i) (fun _ _ => rfl)
    have R1 := hid (R0.out.fr hfr (fun h => by omega))
    have hDl := some_lt hK
    have HK := hid hK
    have HFW := hid hfw
    have HS1 := hid S1
    have hsW := hfr.size
    obtain ⟨W2, hW2⟩ : ∃ W2, W2 = W := ⟨_, rfl⟩
    subst hW2
    clear hst hfr hK hfw S1 S0 R0 cbx cbv cbr
    go_wp2_with fail
    refine (down_calls L.b v _).mono ?_
    rintro e V0 ⟨rfl, hV0⟩
    have f0 : Fr No W2 V0 := by rw [hV0]; exact (((Fr.refl No W2).alloc _).alloc _).alloc _
    have cbx : V0.cell? ⟨W2.heap.size, 0, none⟩ = some (.pointer (some ⟨L.b, 0, none⟩)) := by rw [hV0]; simp [go_sem]
    have cbv : V0.cell? ⟨W2.heap.size + 1, 0, none⟩ = some (.int .i64 v) := by rw [hV0]; simp [go_sem]
    have cbr : V0.cell? ⟨W2.heap.size + 1 + 1, 0, none⟩ = some (.func (.func 196) #[] #[]) := by rw [hV0]; simp [go_sem]
    have hsz1 : V0.heap.size = W2.heap.size + 1 + 1 + 1 := by rw [hV0]; simp
    clear hV0
    have G0 := hid (HFW.out.trans f0)
    have HN0 := hid (H.out.no G0.out)
    have T0 := HS1.out.fr f0 (fun h => h)
    have R2 := hid (R1.out.fr f0 (fun h => h))
    have K0 := hid ((f0.block D hDl (fun h => h)).trans HK.out)
    clear f0 HS1 HFW R1 HK
    go_wp2
    refine (wpIn_wide (n := 7)).1 ?_
    refine wpIn_rangeFunc_ownH rfl (by omega) (gf := 220) (lb := #[.pointer (some ⟨W2.heap.size, 0, none⟩), .pointer (some ⟨W2.heap.size + 1, 0, none⟩), .pointer (some ⟨W2.heap.size + 1 + 1, 0, none⟩)]) rfl trivial (enters_of Tryz.func220 (by kernel_rfl) rfl)
      (all1_any_down (x := x) (L := L) 6 (by omega) (W2.heap.size) (W2.heap.size + 1) (W2.heap.size + 1 + 1) v (fun k => k = S ∨ V0.heap.size ≤ k) (by omega) (by omega) (by omega) (by omega) (by omega) (by omega) V0 HN0.out cbx cbv cbr)
      (fun h k => Fr.trans h k) (fun W l' o o' hl _ _ _ => fr_putObj W l' o' (.inr hl)) (Below.refl _ _) (fun _ => rfl)
      (fun pre W => StarAt W S 229 (starC (x.star v false) (x.starP v true (pre.map fun el => x.by_ el.1))) ∧ Fr (fun k => k = S ∨ V0.heap.size ≤ k) V0 W)
      (fun c xs W => False)
      (fun s A B row hs hg hr => ⟨StarAt.own (N := V0.heap.size) (by omega) (fun (_ : Unit) => starC (x.star v false) (x.starP v true (s.map fun el => x.by_ el.1))) () A B row hs.1 hg hr, ownFrom_fr _ V0 s A B row hs.2 hg hr⟩)
      (fun c s A B row hs hg hr => hs)
      ⟨T0.congr (fun _ _ => rfl) (fun i _ => (x.starP_nil v true i).symm), Fr.refl _ _⟩
      (fun el a' W => ∃ Be, V0.heap.size ≤ Be ∧ W.cell? ⟨Be, 0, none⟩ = some (.int .i64 (x.rowE v.toNat true el.1).w) ∧ W.cell? ⟨Be, 1, none⟩ = some (.int .i64 (x.rowE v.toNat true el.1).a) ∧ W.cell? ⟨Be, 2, none⟩ = some (.int .i64 (x.rowE v.toNat true el.1).m) ∧
        a' = { tmps := #[.pointer (some ⟨L.b, 0, none⟩), .int .i64 v, undef, undef, .pointer (some ⟨w.heap.size, 0, none⟩), .pointer (some ⟨S, 0, none⟩), undef, undef, .int .i64 (x.by_ el.1 : Nat), .pointer (some ⟨Be, 0, none⟩), .agg X.toArray, .pointer (some ⟨L.b, 0, none⟩), .int .i64 v, .func (.func 220) #[] #[.pointer (some ⟨W1.heap.size, 0, none⟩), .pointer (some ⟨W1.heap.size + 1, 0, none⟩), .pointer (some ⟨W1.heap.size + 1 + 1, 0, none⟩)], undef, undef, undef, undef, undef, undef, .pointer (some ⟨L.b, 0, none⟩), .int .i64 v, .func (.func 220) #[] #[.pointer (some ⟨W2.heap.size, 0, none⟩), .pointer (some ⟨W2.heap.size + 1, 0, none⟩), .pointer (some ⟨W2.heap.size + 1 + 1, 0, none⟩)], .int .i64 (x.by_ el.1 : Nat), (x.rowE v.toNat true el.1).val, undef, undef, undef, undef, undef], defers := [] })
      (fun el a' s A B row hs hg hr => by
        obtain ⟨Be, h0, h1, h2, h3, h4⟩ := hs
        exact ⟨Be, h0, cell_kept h1 hg (fun r e => (hr r e).2), cell_kept h2 hg (fun r e => (hr r e).2), cell_kept h3 hg (fun r e => (hr r e).2), h4⟩)
      ?assign ?body ?done ?stop
    case stop => rintro D c xs W hD hpre hix hK; exact hix.elim
    case assign =>
      rintro l' pre el W K ⟨hst, hfr⟩ hK
      have hsz0 := hfr.size
      have fW : ∀ o, Fr No W (W.alloc o) := fun o => (Fr.refl No W).alloc o
      have HK := hid hK
      have HFR := hid hfr
      have HST := hid hst
      clear hK hfr hst
      simp only [Ix.rowEnc, En.val]
      gi_wp2
      refine HK.out _ _ ((KeepsOthers.alloc _ _).from _) (fW _).no ⟨HST.out.fr (fW _) (fun h => h), HFR.out.trans (fW _).no⟩ ⟨W.heap.size, hsz0, ?_, ?_, ?_, rfl⟩
      · exact cell_of (heap_new W _) 0
      · exact cell_of (heap_new W _) 1
      · exact cell_of (heap_new W _) 2
    case body =>
      rintro l' pre el a' W hlp hloop ⟨hst, hfr⟩ ⟨Be, hBe, g0, g1, g2, rfl⟩ hlen
      have hvx : x.vertex v = true := by
        cases hvx : x.vertex v with
        | true => rfl
        | false => unfold Ix.row at hlen; rw [hvx] at hlen; simp at hlen
      obtain ⟨hby, hdir⟩ := (HN0.out.ok).row_el hvx el
      have hstep := starP_step (x := x) v true (pre.map fun el => x.by_ el.1) (x.by_ el.1)
      rw [← hdir] at hstep
      have HSTEP := hid hstep
      obtain ⟨⟨p0, p1, p2⟩, hen⟩ : ∃ y, x.rowE v.toNat true el.1 = y := ⟨_, rfl⟩
      obtain ⟨z, hz⟩ : ∃ z, x.by_ el.1 = z := ⟨_, rfl⟩
      rw [hen] at g0 g1 g2 HSTEP
      rw [hz] at hby HSTEP
      have hz24 : (z : Int) < 24 := by omega
      simp only at g0 g1 g2
      have HST := hid hst
      have HFR := hid hfr
      have z0 := Blk.cell hst (i := 72 + z * 3) (by omega)
      have z1 := Blk.cell hst (i := 72 + z * 3 + 1) (by omega)
      have z2 := Blk.cell hst (i := 72 + z * 3 + 2) (by omega)
      have z3 := fun i => Blk.frozen hst i
      have HEN := hid hen
      have HZ := hid hz
      clear hst hfr hdir hstep hen hz hlen hloop cbx cbv cbr T0
      rw [HEN.out, HZ.out]
      simp only [En.val]
      gi_wp2
      have hw8 : Fr (One S) W (((W.setCell ⟨S, 72 + z * 3, none⟩ (.int .i64 p0)).setCell ⟨S, 72 + z * 3 + 1, none⟩ (.int .i64 p1)).setCell ⟨S, 72 + z * 3 + 2, none⟩ (.int .i64 p2)) := (((Fr.refl _ _).set1 _ _).set1 _ _).set1 _ _
      have hst8 := HST.out.in_ z (by omega) ⟨p0, p1, p2⟩
      rw [HSTEP.out] at hst8
      refine ⟨keepsFrom_fr (B := V0.heap.size) hw8 (fun k (h : k = _) => by omega), hw8.mono (fun k hk (h : k = S) => .inl h), ?_, HFR.out.trans (hw8.mono fun k hk (h : k = S) => .inl h)⟩
      rw [List.map_append, List.map_cons, List.map_nil, HZ.out]
      exact hst8
    case done =>
      rintro D2 xs W hD2 hys ⟨hst, hfr⟩ hK
      subst hys
      have hfw : Fr No w W := G0.out.trans' hfr (fun i hi h => by omega)
      have S1 := hst.congr (f' := x.star v false) (g' := x.star v true) (fun _ _ => rfl) (fun i _ => (HM0.out.ok).star_all v true i)
      have R3 := R2.out.fr hfr (fun h => by omega)
      have K1 : W.heap[D]? = some (.deferred (some [])) := (hfr.block D (by omega) (fun h => by omega)).trans K0.out
      have hrg := S1.range
      have ht2 := R3.there
      have hr2 := R3.set (starC (x.star v false) (x.star v true))
      have ho1 := cellsR_one 144 (starC (x.star v false) (x.star v true))
      have hl1 := cellsR_len 144 (starC (x.star v false) (x.star v true))
      have f2 : Fr No w (W.setCells w.heap.size 0 (cellsR 144 (starC (x.star v false) (x.star v true)))) := Fr.setCellsL (.inr (Nat.le_refl _)) _ _ _ hfw
      have f3 : Fr (One w.heap.size) W (W.setCells w.heap.size 0 (cellsR 144 (starC (x.star v false) (x.star v true)))) := Fr.setCellsL (F := One w.heap.size) (.inl rfl) _ _ _ (Fr.refl _ _)
      obtain ⟨Y, hY⟩ : ∃ Y, cellsR 144 (starC (x.star v false) (x.star v true)) = Y := ⟨_, rfl⟩
      rw [hY] at hrg hr2 ho1 hl1 f2 f3
      have HR := hid hr2
      have HF2 := hid f2
      have hDW := some_lt hK
      have HK2 := hid ((f3.block D2 hDW (fun (h : D2 = w.heap.size) => by omega)).trans hK)
      have HK1 := hid ((f3.block D (some_lt K1) (fun (h : D = w.heap.size) => by omega)).trans K1)
      clear hst hfr hK hfw S1 R2 R3 cbx cbv cbr T0 hr2 f2 f3 K1 K0 hY
      go_wp2_with (first
        | (refine wpList_load_mid rfl 229 (.tmp 5) rfl S 0 rfl Y _ hrg hd1 rfl (by rw [hi1, hl1]) ?_)
        | (refine wpList_store_mid rfl 229 (.tmp 4) (.tmp 29) rfl w.heap.size 0 Y.toArray rfl rfl (by simpa [hl1] using ht2) (by rw [hi1]; simp [hl1]) ho1 ?_; simp only [List.toList_toArray]))
      generalize W.setCells w.heap.size 0 Y = W8 at HR HF2 HK1 HK2 ⊢
      have g2 := grownBy_putObj' W8 D2 (.deferred none)
      have f3 : Fr (One D2) W8 (W8.putObj D2 (.deferred none)) := fr_putObj (F := One D2) W8 D2 _ rfl
      have HK3 : (W8.putObj D2 (.deferred none)).heap[D]? = some (.deferred (some [])) := (f3.block D (some_lt HK1.out) (fun (h : D = D2) => by omega)).trans HK1.out
      have f4 : Fr (One D) (W8.putObj D2 (.deferred none)) ((W8.putObj D2 (.deferred none)).putObj D (.deferred none)) := fr_putObj (F := One D) _ D _ rfl
      have HR9 := (HR.out.fr f3 (fun (h : w.heap.size = D2) => by omega)).fr f4 (fun (h : w.heap.size = D) => by omega)
      have HF9 := (HF2.out.trans' f3 (fun i hi (h : i = D2) => by omega)).trans' f4 (fun i hi (h : i = D) => by omega)
      refine ⟨by simp, .inl ⟨_, _, rfl, run_takeDeferred HK2.out, ?_⟩⟩
      refine ⟨by simp, .inl ⟨_, _, rfl, run_takeDeferred HK3, ?_⟩⟩
      exact ⟨_, results_cell rfl rfl (run_loadVar_star HR9 229 _ hd1 rfl hi1), rfl, HF9⟩

end Go.Proofs.YtoepbhacpidcbaaGreatDoor

/- A vertex's star: the document's; walked. -/
set_option linter.unusedVariables false
set_option linter.unusedSimpArgs false
namespace Go.Proofs.YtoepbhacpidcbaaGreatDoor
open Go.RowKit Go.Deep

end Go.Proofs.YtoepbhacpidcbaaGreatDoor

/- The law's comparison of stars; walked. -/
set_option linter.unusedVariables false
set_option linter.unusedSimpArgs false
namespace Go.Proofs.YtoepbhacpidcbaaGreatDoor
open Go.RowKit Go.Deep

theorem StarAt.lit (W : World) (T : TypeId) (C : Nat → Int) : StarAt (W.alloc (.cells (cellsR 144 C).toArray T)) W.heap.size T C := by
  have := Blk.new W (cellsR 144 C).toArray T (fun i => .int .i64 (C i)) (fun i hi => by
    have hi' : i < 144 := by simpa [cellsR] using hi
    simp [cellsR, hi'])
  have e : (cellsR 144 C).toArray.size = 144 := by simp [cellsR]
  rw [e] at this
  exact this

theorem star_wf {x : Ix} (h : x.Ok) (v : Int) (back : Bool) (w c : Nat) : -9223372036854775808 ≤ (x.star v back w).cell c ∧ (x.star v back w).cell c ≤ 9223372036854775807 := by
  have hb : ∀ (e : En), e.Ok → -9223372036854775808 ≤ e.cell c ∧ e.cell c ≤ 9223372036854775807 := fun e ho => by
    obtain ⟨h1, h2, h3, h4, h5, h6⟩ := ho
    unfold En.cell
    split
    · omega
    · split <;> omega
  have hn : En.Ok En.none := ⟨by decide, by decide, by decide, by decide, by decide, by decide⟩
  have ha : ∀ u v, (x.at_ u v).Ok := fun u v => by
    unfold Ix.at_
    split
    · exact h.ent _ _
    · exact hn
  unfold Ix.star
  split
  · unfold Ix.dirE
    split <;> exact hb _ (ha _ _)
  · exact hb _ hn
theorem starC_wf {f g : Nat → En} (hf : ∀ i c, -9223372036854775808 ≤ (f i).cell c ∧ (f i).cell c ≤ 9223372036854775807) (hg : ∀ i c, -9223372036854775808 ≤ (g i).cell c ∧ (g i).cell c ≤ 9223372036854775807) : Wf (starC f g) := fun i => by
  unfold starC
  split
  · exact hf _ _
  · exact hg _ _
theorem Ix.Ok.starWf {x : Ix} (h : x.Ok) (v : Int) : Wf (starC (x.star v false) (x.star v true)) := starC_wf (fun _ _ => star_wf h v false _ _) (fun _ _ => star_wf h v true _ _)

theorem StarAt.load {W : World} {b : Nat} {T : TypeId} {C : Nat → Int} (h : StarAt W b T C) (o : Nat) (ho : o + 72 ≤ 144) (n : Fam W) :
    (Instr.loadAt 135 (.pointer (some ⟨b, o, none⟩))).run Tryz.prog n.v = .ok (.agg (cellsR 72 fun j => C (o + j)).toArray) n.v := by
  have hd2 : Tryz.prog.underlying 135 = some _ := Tryz.underlying135
  have hi2 : (Tryz.prog.info? 135).map (·.size) = some 72 := by kernel_rfl
  exact run_loadAt_mid n.v b o 135 _ _ (Blk.rangeR (h.fr n.h (fun h => h)) o 72 ho) hd2 rfl (by rw [hi2, cellsR_len])

end Go.Proofs.YtoepbhacpidcbaaGreatDoor

/- Each two unlike vertices that are higher than a vertex: what a range over 'twos' hands out. -/
set_option linter.unusedVariables false
set_option linter.unusedSimpArgs false
namespace Go.Proofs.YtoepbhacpidcbaaGreatDoor
open Go.RowKit Go.Shelf

attribute [local go_sem] Oper.semAt_some

abbrev Ix.TwEl (x : Ix) (lo : Nat) := { p : Nat × Nat // lo < p.1 ∧ p.1 < x.n ∧ lo < p.2 ∧ p.2 < x.n ∧ p.1 ≠ p.2 }
def Ix.tw1 (x : Ix) (lo a : Nat) : Nat → List (x.TwEl lo)
  | 0 => []
  | b + 1 => if h : lo < a ∧ a < x.n ∧ lo < b ∧ b < x.n ∧ a ≠ b then x.tw1 lo a b ++ [⟨(a, b), h⟩] else x.tw1 lo a b
def Ix.tw (x : Ix) (lo : Nat) : Nat → List (x.TwEl lo)
  | 0 => []
  | a + 1 => x.tw lo a ++ x.tw1 lo a x.n
def Ix.twEnc (x : Ix) (lo : Nat) (el : x.TwEl lo) : Array Value := #[.int .i64 (x.by_ el.1.1 : Nat), .int .i64 (x.by_ el.1.2 : Nat)]
theorem Ix.tw1_succ (x : Ix) (lo a b : Nat) : x.tw1 lo a (b + 1) = if h : lo < a ∧ a < x.n ∧ lo < b ∧ b < x.n ∧ a ≠ b then x.tw1 lo a b ++ [⟨(a, b), h⟩] else x.tw1 lo a b := rfl
theorem Ix.tw_succ (x : Ix) (lo a : Nat) : x.tw lo (a + 1) = x.tw lo a ++ x.tw1 lo a x.n := rfl
theorem Ix.tw1_low (x : Ix) (lo a : Nat) : ∀ b, b ≤ lo + 1 → x.tw1 lo a b = []
  | 0, _ => rfl
  | b + 1, h => by rw [Ix.tw1_succ, dif_neg (fun hh => by omega), x.tw1_low lo a b (by omega)]
theorem Ix.tw1_lo (x : Ix) (lo a : Nat) (ha : a ≤ lo) : ∀ b, x.tw1 lo a b = []
  | 0 => rfl
  | b + 1 => by rw [Ix.tw1_succ, dif_neg (fun hh => by omega), x.tw1_lo lo a ha b]
theorem Ix.tw_low (x : Ix) (lo : Nat) : ∀ a, a ≤ lo + 1 → x.tw lo a = []
  | 0, _ => rfl
  | a + 1, h => by rw [Ix.tw_succ, x.tw_low lo a (by omega), x.tw1_lo lo a (by omega)]; rfl
theorem Ix.tw1_mem (x : Ix) (lo a : Nat) : ∀ b (el : x.TwEl lo), el ∈ x.tw1 lo a b ↔ el.1.1 = a ∧ el.1.2 < b
  | 0, el => by simp [Ix.tw1]
  | b + 1, el => by
    rw [Ix.tw1_succ]
    split
    · rename_i h
      rw [List.mem_append, x.tw1_mem lo a b el, List.mem_singleton]
      constructor
      · rintro (h1 | h1)
        · omega
        · subst h1; exact ⟨rfl, Nat.lt_succ_self _⟩
      · rintro ⟨h1, h2⟩
        by_cases e : el.1.2 = b
        · right; exact Subtype.ext (Prod.ext h1 e)
        · left; omega
    · rename_i h
      rw [x.tw1_mem lo a b el]
      constructor
      · omega
      · rintro ⟨h1, h2⟩
        by_cases e : el.1.2 = b
        · have := el.2; rw [h1, e] at this; exact absurd this h
        · omega
theorem Ix.tw_mem (x : Ix) (lo : Nat) : ∀ k (el : x.TwEl lo), el ∈ x.tw lo k ↔ el.1.1 < k
  | 0, el => by simp [Ix.tw]
  | k + 1, el => by
    rw [Ix.tw_succ, List.mem_append, x.tw_mem lo k el, x.tw1_mem]
    have := el.2
    omega
theorem Ix.tw1_pre (x : Ix) (lo a b : Nat) : ∀ d, x.tw1 lo a b <+: x.tw1 lo a (b + d)
  | 0 => List.prefix_refl _
  | d + 1 => by
    have := x.tw1_pre lo a b d
    show x.tw1 lo a b <+: x.tw1 lo a ((b + d) + 1)
    rw [Ix.tw1_succ]
    split
    · exact this.trans (List.prefix_append _ _)
    · exact this
theorem Ix.tw_pre (x : Ix) (lo a : Nat) : ∀ d, x.tw lo a <+: x.tw lo (a + d)
  | 0 => List.prefix_refl _
  | d + 1 => (x.tw_pre lo a d).trans (by show x.tw lo (a + d) <+: x.tw lo ((a + d) + 1); rw [Ix.tw_succ]; exact List.prefix_append _ _)
theorem Ix.tw_at (x : Ix) (lo a b : Nat) (ha : a < x.n) (hb : b ≤ x.n) : x.tw lo a ++ x.tw1 lo a b <+: x.tw lo x.n := by
  have h1 := x.tw1_pre lo a b (x.n - b)
  rw [show b + (x.n - b) = x.n by omega] at h1
  have h2 := x.tw_pre lo (a + 1) (x.n - (a + 1))
  rw [show a + 1 + (x.n - (a + 1)) = x.n by omega, Ix.tw_succ] at h2
  exact ((List.prefix_append_right_inj _).2 h1).trans h2

theorem Ix.Ok.byr_nat' {x : Ix} (h : x.Ok) {r : Nat} (hr : r < x.n) : x.byr (r : Nat) = (x.by_ r : Nat) := by
  unfold Ix.byr; rw [if_pos ⟨by omega, by omega⟩]; simp

/-- What a range over 'twos' hands out. -/
def Ix.twos (x : Ix) (v : Int) : List (x.TwEl (x.rk v.toNat)) := if x.vertex v then x.tw (x.rk v.toNat) x.n else []

set_option maxRecDepth 100000 in
set_option maxHeartbeats 4000000 in
theorem twos1_yes {x : Ix} {L : IxLoc} (n : Nat) (hn : 1 ≤ n) (Bx Bv v : Nat) (hvn : v < x.n) (F : Nat → Prop) (f1 : ¬ F L.b) (f2 : ¬ F L.br) (f3 : ¬ F L.bb) (f4 : ¬ F 0) (f5 : ¬ F Bx) (f6 : ¬ F Bv) (w : World) (h : IxMem w L x)
    (hx : w.cell? ⟨Bx, 0, none⟩ = some (.pointer (some ⟨L.b, 0, none⟩))) (hv : w.cell? ⟨Bv, 0, none⟩ = some (.int .i64 (v : Nat))) :
    SeqStopsK Fence.wide n Tryz.prog 223 #[.pointer (some ⟨Bx, 0, none⟩), .pointer (some ⟨Bv, 0, none⟩)] (x.twEnc (x.rk v)) (Fr F) (fun ys => ys = x.tw (x.rk v) x.n) (fun pre => pre <+: x.tw (x.rk v) x.n) (x.tw (x.rk v) x.n).length w := fun l J Jx W hW hJ hJx hY h0 => by
  have hf0 := Fr.of_below hW
  have HM := hid (h.no hf0)
  have hx' := hf0.cell_some hx (fun h => h)
  have hv' := hf0.cell_some hv (fun h => h)
  have HBX := hid hx'
  have HBV := hid hv'
  have HJ := hid hJ
  have HJX := hid hJx
  have HY := hid hY
  have H0 := hid h0
  have hra : x.rank (v : Nat) = x.rk v := by unfold Ix.rank; rw [if_pos ⟨by omega, by omega⟩]; simp
  have HRA := hid hra
  have hrk := (h.ok.rk v hvn).1
  have hn2 := h.ok.n2
  clear hW hJ hJx hY h0 h hx hv hra hf0
  have hrk2 : (x.rk v : Int) < 24 := by omega
  have hn3 : (x.n : Int) ≤ 24 := by omega
  refine callsIn_of_wp Tryz.func223 rfl trivial ?_ rfl
  simp only [Tryz.ntmps223, List.size_toArray, List.length_cons, List.length_nil, Nat.reduceAdd, Nat.reduceSub, Array.replicate_succ, Array.replicate_zero, List.push_toArray, List.append_toArray, List.nil_append, List.cons_append]
  gi_wp2
  refine ⟨trivial, callsIn_wide.2 ((rank_calls HM.out (v : Nat)).mono ?_)⟩
  rintro e w1 ⟨rfl, rfl⟩
  rw [HRA.out]
  gi_wp2
  refine ⟨trivial, callsIn_wide.2 ((rank_calls HM.out (v : Nat)).mono ?_)⟩
  rintro e w1 ⟨rfl, rfl⟩
  rw [HRA.out]
  gi_wp2
  clear hx' hv'
  gi_loopw [4] (fun i wr => ∃ k : Nat, k ≤ x.n ∧ x.rk v < k ∧ i = .int .i64 k ∧ J (x.tw (x.rk v) k) wr ∧ Fr F W wr) (fun i _ => 24 - (intOf i).toNat)
  case atStart => exact ⟨x.rk v + 1, hrk, by omega, by go_num, by rw [x.tw_low _ _ (Nat.le_refl _)]; exact H0.out, Fr.refl _ _⟩
  case round =>
    obtain ⟨k, hk, hlo, rfl, hj, hf⟩ := hrel
    have HJK := hid hj
    have HF := hid hf
    have HMr := hid (HM.out.fr hf f1 f2 f3 f4)
    have bx := hf.cell_some HBX.out f5
    have bv := hf.cell_some HBV.out f6
    clear hj hf
    gi_wp2
    refine ⟨trivial, callsIn_wide.2 ((vertices_calls HMr.out).mono ?_)⟩
    rintro e w2 ⟨rfl, hf2⟩
    have HF2 := hid (HF.out.trans hf2.no)
    have HJ2 := hid (HJ.out _ _ _ none HJK.out (fr_grownBy hf2) (fun r h => by cases h))
    have HM2 := hid (HMr.out.no hf2)
    have bx2 := hf2.cell_some bx (fun h => h)
    have bv2 := hf2.cell_some bv (fun h => h)
    clear hf2 bx bv HF HJK HMr
    by_cases hlt : k < x.n
    · have hlt2 : (k : Int) < x.n := by omega
      gi_wp2
      refine ⟨trivial, callsIn_wide.2 ((rank_calls HM2.out (v : Nat)).mono ?_)⟩
      rintro e w3 ⟨rfl, rfl⟩
      rw [HRA.out]
      gi_wp2
      clear bx2 bv2
      gi_loopw [5] (fun i wr => ∃ b : Nat, b ≤ x.n ∧ x.rk v < b ∧ i = .int .i64 b ∧ J (x.tw (x.rk v) k ++ x.tw1 (x.rk v) k b) wr ∧ Fr F W wr) (fun i _ => 24 - (intOf i).toNat)
      case atStart => exact ⟨x.rk v + 1, hrk, by omega, by go_num, by rw [x.tw1_low _ _ _ (Nat.le_refl _), List.append_nil]; exact HJ2.out, HF2.out⟩
      case round =>
        obtain ⟨b, hb, hblo, rfl, hj, hf⟩ := hrel
        have HJK := hid hj
        have HF := hid hf
        have HMr := hid (HM.out.fr hf f1 f2 f3 f4)
        have bx := hf.cell_some HBX.out f5
        clear hj hf HF2 HJ2 HM2
        gi_wp2
        refine ⟨trivial, callsIn_wide.2 ((vertices_calls HMr.out).mono ?_)⟩
        rintro e w4 ⟨rfl, hf2⟩
        have HF2 := hid (HF.out.trans hf2.no)
        have HJ2 := hid (HJ.out _ _ _ none HJK.out (fr_grownBy hf2) (fun r h => by cases h))
        have HM2 := hid (HMr.out.no hf2)
        have bx2 := hf2.cell_some bx (fun h => h)
        clear hf2 bx HF HJK HMr
        by_cases hltb : b < x.n
        · have hltb2 : (b : Int) < x.n := by omega
          have hst := x.tw1_succ (x.rk v) k b
          by_cases hab : k = b
          · subst hab
            have hab2 : ((k : Int) != (k : Int)) = false := by simp
            rw [dif_neg (fun hh => hh.2.2.2.2 rfl)] at hst
            have HST := hid hst
            clear hst
            gi_wp2_with fail
            have kk1 : ∀ m : Fam w4, m.v.cell? ⟨Bx, 0, none⟩ = some (.pointer (some ⟨L.b, 0, none⟩)) := Fam.cell bx2
            refine wpIn_wide.2 (wp_region_fam (by kernel_rfl) (by kernel_rfl) ?_)
            repeat (go_big_quiet_step (fail))
            refine wpQuiet_nil ?_
            rintro w5 ⟨⟨w5, hf5⟩, rfl⟩
            have HF5 := hid hf5
            clear hf5 kk1
            gi_wp2
            go_roundw
            case rel => exact ⟨k + 1, by omega, by omega, by go_num, by rw [HST.out]; exact HJ.out _ _ _ none HJ2.out (fr_grownBy HF5.out) (fun r h => by cases h), HF2.out.trans HF5.out.no⟩
            case measure => simp [intOf]; omega
          · have hab2 : ((k : Int) != (b : Int)) = true := by simp; omega
            have hel : x.rk v < k ∧ k < x.n ∧ x.rk v < b ∧ b < x.n ∧ k ≠ b := ⟨hlo, hlt, hblo, hltb, hab⟩
            rw [dif_pos hel] at hst
            have hpre := x.tw_at (x.rk v) k (b + 1) hlt hltb
            rw [hst, ← List.append_assoc] at hpre
            have hlen : (x.tw (x.rk v) k ++ x.tw1 (x.rk v) k b).length < (x.tw (x.rk v) x.n).length := by
              have := hpre.length_le
              simp at this ⊢; omega
            have HYK : Hid (∀ w5, Fr No w4 w5 → YieldAt Fence.wide (n - 1) Tryz.prog l #[.int .i64 (x.by_ k : Nat), .int .i64 (x.by_ b : Nat)] w5 fun e W' => ∃ r : Bool, e = .returned (.bool r) ∧ ((r = true ∧ J (x.tw (x.rk v) k ++ x.tw1 (x.rk v) k (b + 1)) W' ∧ Fr F w5 W') ∨ (r = false ∧ Jx (x.tw (x.rk v) k ++ x.tw1 (x.rk v) k (b + 1)) W'))) := hid fun w5 h5 => by
              have := HY.out (x.tw (x.rk v) k ++ x.tw1 (x.rk v) k b) ⟨(k, b), hel⟩ w5 (HJ.out _ _ _ none HJ2.out (fr_grownBy h5) (fun r h => by cases h)) hlen
              rw [Ix.twEnc, List.append_assoc, ← hst] at this
              refine this.mono ?_
              rintro e W' (⟨rfl, h1, h2⟩ | ⟨rfl, h1⟩)
              · exact ⟨true, rfl, .inl ⟨rfl, h1, h2⟩⟩
              · exact ⟨false, rfl, .inr ⟨rfl, h1⟩⟩
            have hpre2 : x.tw (x.rk v) k ++ x.tw1 (x.rk v) k (b + 1) <+: x.tw (x.rk v) x.n := x.tw_at (x.rk v) k (b + 1) hlt hltb
            have HPRE := hid hpre2
            have HB1 := hid ((HM.out.ok).byr_nat' hlt)
            have HB2 := hid ((HM.out.ok).byr_nat' hltb)
            have HAB := hid hab
            clear hst hpre hlen hpre2 hab hel
            gi_wp2_with fail
            gi_region_with (first
              | (refine ⟨trivial, ?_⟩; gi_at_call 103; refine callsIn_wide.2 ((by_calls HM2.out.drew _).mono ?_); rintro e w5 ⟨rfl, rfl⟩; first | rw [HB1.out] | (rw [HB2.out]; (obtain ⟨fn, tmps, assign, body, hy, hR⟩ := HYK.out _ (Fr.refl No w4).drew)))
              | (refine hR.mono ?_; rintro e W5 ⟨r, rfl, hres⟩; (have HRES := hid hres); clear hres))
            all_goals rcases HRES.out with ⟨rfl, hj5, hf5⟩ | ⟨rfl, hj5⟩
            all_goals (clear HRES hR hy HYK)
            all_goals gi_wp2
            all_goals first
              | (refine bodyPost_ret (results_none rfl _ _ _) rfl ?_
                 exact ⟨⟨_, rfl⟩, .inr ⟨_, HPRE.out, hj5⟩⟩)
              | go_roundw
            all_goals first
              | exact ⟨b + 1, by omega, by omega, by go_num, hj5, HF2.out.trans ((Fr.refl No w4).drew.no.trans hf5)⟩
              | (simp [intOf]; omega)
        · obtain rfl : b = x.n := by omega
          gi_wp2
          go_roundw
          case rel => exact ⟨k + 1, by omega, by omega, by go_num, by rw [x.tw_succ]; exact HJ2.out, HF2.out⟩
          case measure => simp [intOf]; omega
    · obtain rfl : k = x.n := by omega
      gi_wp2
      go_end0
      exact ⟨⟨_, rfl⟩, .inl ⟨_, rfl, HJ2.out⟩⟩

set_option maxRecDepth 100000 in
set_option maxHeartbeats 1000000 in
theorem twos1_no {x : Ix} {L : IxLoc} {α : Type} {enc : α → Array Value} (n : Nat) (hn : 1 ≤ n) (Bx Bv : Nat) (v : Int) (hvx : x.vertex v = false) (Kp : World → World → Prop) (w : World) (h : IxMem w L x)
    (hx : w.cell? ⟨Bx, 0, none⟩ = some (.pointer (some ⟨L.b, 0, none⟩))) (hv : w.cell? ⟨Bv, 0, none⟩ = some (.int .i64 v)) :
    SeqStopsK Fence.wide n Tryz.prog 223 #[.pointer (some ⟨Bx, 0, none⟩), .pointer (some ⟨Bv, 0, none⟩)] enc Kp (fun ys => ys = []) (fun pre => pre <+: []) 0 w := fun l J Jx W hW hJ hJx hY h0 => by
  have hf0 := Fr.of_below hW
  have HM := hid (h.no hf0)
  have hx' := hf0.cell_some hx (fun h => h)
  have hv' := hf0.cell_some hv (fun h => h)
  have H0 := hid h0
  have hra : x.rank v = -1 := by
    unfold Ix.rank; rw [if_neg]
    unfold Ix.vertex at hvx; simpa using hvx
  have HRA := hid hra
  clear hW hJ hJx hY h0 h hx hv hra hf0 hvx
  refine callsIn_of_wp Tryz.func223 rfl trivial ?_ rfl
  simp only [Tryz.ntmps223, List.size_toArray, List.length_cons, List.length_nil, Nat.reduceAdd, Nat.reduceSub, Array.replicate_succ, Array.replicate_zero, List.push_toArray, List.append_toArray, List.nil_append, List.cons_append]
  gi_wp2
  refine ⟨trivial, callsIn_wide.2 ((rank_calls HM.out v).mono ?_)⟩
  rintro e w1 ⟨rfl, rfl⟩
  rw [HRA.out]
  gi_wp2
  refine bodyPost_ret (results_none rfl _ _ _) rfl ?_
  exact ⟨⟨_, rfl⟩, .inl ⟨_, rfl, H0.out⟩⟩

theorem twos1_any {x : Ix} {L : IxLoc} (n : Nat) (hn : 1 ≤ n) (Bx Bv : Nat) (v : Int) (F : Nat → Prop) (f1 : ¬ F L.b) (f2 : ¬ F L.br) (f3 : ¬ F L.bb) (f4 : ¬ F 0) (f5 : ¬ F Bx) (f6 : ¬ F Bv) (w : World) (h : IxMem w L x)
    (hx : w.cell? ⟨Bx, 0, none⟩ = some (.pointer (some ⟨L.b, 0, none⟩))) (hv : w.cell? ⟨Bv, 0, none⟩ = some (.int .i64 v)) :
    SeqStopsK Fence.wide n Tryz.prog 223 #[.pointer (some ⟨Bx, 0, none⟩), .pointer (some ⟨Bv, 0, none⟩)] (x.twEnc (x.rk v.toNat)) (Fr F) (fun ys => ys = x.twos v) (fun pre => pre <+: x.twos v) (x.twos v).length w := by
  unfold Ix.twos
  cases hvx : x.vertex v with
  | false => exact twos1_no n hn Bx Bv v hvx (Fr F) w h hx hv
  | true =>
    have hv2 : 0 ≤ v ∧ v < x.n := by unfold Ix.vertex at hvx; simpa using hvx
    obtain ⟨a, rfl⟩ := Int.eq_ofNat_of_zero_le hv2.1
    exact twos1_yes n hn Bx Bv a (by omega) F f1 f2 f3 f4 f5 f6 w h hx hv

set_option maxRecDepth 100000 in
set_option maxHeartbeats 1000000 in
theorem twos_calls (b : Nat) (v : Int) (w : World) :
    Calls Tryz.prog 203 #[.pointer (some ⟨b, 0, none⟩), .int .i64 v] w fun e w' => e = .returned (.func (.func 223) #[] #[.pointer (some ⟨w.heap.size, 0, none⟩), .pointer (some ⟨w.heap.size + 1, 0, none⟩)]) ∧
      w' = (w.alloc (.cells #[.pointer (some ⟨b, 0, none⟩)] 26)).alloc (.cells #[.int .i64 v] 3) := by
  go_enter Tryz.func203, Tryz.ntmps203
  go_wp2
  go_ret
  exact ⟨by simp, rfl⟩

end Go.Proofs.YtoepbhacpidcbaaGreatDoor

/- Sets of small numbers: bit, With, Has; walked. -/
set_option linter.unusedVariables false
set_option linter.unusedSimpArgs false
namespace Go.Proofs.YtoepbhacpidcbaaGreatDoor
open Go.RowKit

theorem pow24 {x : Nat} (hx : x < 24) : 2 ^ x < 2 ^ 24 := Nat.pow_lt_pow_right (by decide) hx
theorem cast_pow (x : Nat) : (2 : Int) ^ x = ((2 ^ x : Nat) : Int) := by simp
theorem wrap_pow {x : Nat} (hx : x < 24) : IntKind.u64.wrap (2 ^ x) = ((2 ^ x : Nat) : Int) := by
  have h := pow24 hx
  rw [cast_pow]
  generalize 2 ^ x = y at h
  unfold IntKind.wrap
  simp [IntKind.bits, IntKind.signed]
  omega
theorem or_pow {s x : Nat} (hs : s < 2 ^ 24) (hx : x < 24) : bits BinOp.or IntKind.u64 (s : Nat) (2 ^ x) = ((s ||| 2 ^ x : Nat) : Int) := by
  have h := pow24 hx
  rw [cast_pow, bits_or_u64_nat _ _ (by omega) (by omega)]
theorem and_pow {s x : Nat} (hs : s < 2 ^ 24) (hx : x < 24) : (bits BinOp.and IntKind.u64 (s : Nat) (2 ^ x) != 0) = s.testBit x := by
  have h := pow24 hx
  rw [cast_pow, bits_and_u64_nat _ _ (by omega) (by omega)]
  cases hb : s.testBit x with
  | true =>
    have h1 : (s &&& 2 ^ x).testBit x = true := by rw [Nat.testBit_and, hb, Nat.testBit_two_pow_self]; rfl
    have h2 : s &&& 2 ^ x ≠ 0 := fun e => by rw [e] at h1; simp at h1
    rw [bne_iff_ne]
    omega
  | false =>
    have h2 : s &&& 2 ^ x = 0 := Nat.eq_of_testBit_eq fun i => by
      rw [Nat.testBit_and, Nat.testBit_two_pow, Nat.zero_testBit]
      by_cases e : x = i
      · subst e; rw [hb]; rfl
      · simp [e]
    rw [h2]; rfl

set_option maxRecDepth 100000 in
set_option maxHeartbeats 1000000 in
theorem bit_calls (x : Nat) (hx : x < 24) (w : World) : Calls Tryz.prog 88 #[.int .i64 (x : Nat)] w fun e w' => e = .returned (.int .u64 ((2 ^ x : Nat) : Int)) ∧ Fr No w w' := by
  have hx2 : (x : Int) < 64 := by omega
  have hx3 : ¬ (x : Int) < 0 := by omega
  go_enter Tryz.func88, Tryz.ntmps88
  go_wp2
  go_ret
  exact ⟨ret_int (wrap_pow hx), Fr.refl _ _⟩

set_option maxRecDepth 100000 in
set_option maxHeartbeats 1000000 in
theorem with_calls (s x : Nat) (hs : s < 2 ^ 24) (hx : x < 24) (w : World) : Calls Tryz.prog 152 #[.int .u64 (s : Nat), .int .i64 (x : Nat)] w fun e w' => e = .returned (.int .u64 ((s ||| 2 ^ x : Nat) : Int)) ∧ Fr No w w' := by
  go_enter Tryz.func152, Tryz.ntmps152
  go_wp2_with fail
  refine (bit_calls x hx _).mono ?_
  rintro e w1 ⟨rfl, hf⟩
  go_wp2
  go_ret
  exact ⟨ret_int (or_pow hs hx), hf⟩

set_option maxRecDepth 100000 in
set_option maxHeartbeats 1000000 in
theorem has_calls (s x : Nat) (hs : s < 2 ^ 24) (hx : x < 24) (w : World) : Calls Tryz.prog 36 #[.int .u64 (s : Nat), .int .i64 (x : Nat)] w fun e w' => e = .returned (.bool (s.testBit x)) ∧ Fr No w w' := by
  go_enter Tryz.func36, Tryz.ntmps36
  go_wp2_with fail
  refine (bit_calls x hx _).mono ?_
  rintro e w1 ⟨rfl, hf⟩
  go_wp2
  go_ret
  exact ⟨ret_bool (and_pow hs hx), hf⟩

end Go.Proofs.YtoepbhacpidcbaaGreatDoor

/- How far it is by a star's vertex; what moves, as plain mathematics; the star's sum, walked. -/
set_option linter.unusedVariables false
set_option linter.unusedSimpArgs false
namespace Go.Proofs.YtoepbhacpidcbaaGreatDoor
open Go.RowKit Go.Deep

def sumS (C : Nat → Int) (u w : Nat) : Int := add1 (normI (C (72 + u * 3))) (C (w * 3))
/-- Does an entry between two move? -/
def Ix.Hot (x : Ix) (C D : Nat → Int) (u w : Nat) : Prop := sumS C u w ≠ sumS D u w ∧ min (sumS C u w) (sumS D u w) ≤ (x.at_ (u : Nat) (w : Nat)).w
/-- Does a vertex move? -/
def Ix.Mv (x : Ix) (v : Int) (C D : Nat → Int) (i : Nat) : Prop :=
  x.vertex v = true ∧ ∃ u w, u < x.n ∧ w < x.n ∧ u ≠ w ∧ x.rk v.toNat < x.rk u ∧ x.rk v.toNat < x.rk w ∧ x.Hot C D u w ∧ x.low (u : Nat) (w : Nat) = (i : Nat)
/-- A set of numbers, as it is kept. -/
structure SetOf (s : Nat) (p : Nat → Prop) : Prop where
  lt : s < 2 ^ 24
  bit : ∀ i, s.testBit i = true ↔ p i

theorem SetOf.eq {s t : Nat} {p q : Nat → Prop} (hs : SetOf s p) (ht : SetOf t q) (h : ∀ i, p i ↔ q i) : s = t := Nat.eq_of_testBit_eq fun i => by
  rw [Bool.eq_iff_iff, hs.bit, ht.bit]; exact h i
theorem SetOf.nil {p : Nat → Prop} (h : ∀ i, ¬ p i) : SetOf 0 p := ⟨by decide, fun i => by simp [h i]⟩
theorem SetOf.or {s k : Nat} {p q : Nat → Prop} (hs : SetOf s p) (hk : k < 24) (h : ∀ i, q i ↔ (p i ∨ i = k)) : SetOf (s ||| 2 ^ k) q :=
  ⟨Nat.or_lt_two_pow hs.lt (pow24 hk), fun i => by
    rw [Nat.testBit_or, Nat.testBit_two_pow, Bool.or_eq_true, hs.bit, h i]
    simp only [decide_eq_true_eq]
    exact or_congr Iff.rfl ⟨Eq.symm, Eq.symm⟩⟩
theorem SetOf.congr {s : Nat} {p q : Nat → Prop} (hs : SetOf s p) (h : ∀ i, p i ↔ q i) : SetOf s q := ⟨hs.lt, fun i => (hs.bit i).trans (h i)⟩

set_option maxRecDepth 100000 in
set_option maxHeartbeats 2000000 in
theorem sumS_calls {w : World} {b : Nat} {C : Nat → Int} (h : StarAt w b 229 C) (u v : Nat) (hu : u < 24) (hv : v < 24) :
    Calls Tryz.prog 204 #[.pointer (some ⟨b, 0, none⟩), .int .i64 (u : Nat), .int .i64 (v : Nat)] w fun e w' => e = .returned (.int .i64 (sumS C u v)) ∧ Fr No w w' := by
  have q0 := Blk.cell h (i := 72 + u * 3) (by omega)
  have q1 := Blk.cell h (i := v * 3) (by omega)
  have hu2 : (u : Int) < 24 := by omega
  have hv2 : (v : Int) < 24 := by omega
  have hb := h.lt
  have hsum : accF (fun j => [C (72 + u * 3), C (v * 3)].getD j 0) 2 = sumS C u v := by
    show add1 (add1 0 (C (72 + u * 3))) (C (v * 3)) = _
    rw [add1_zero]; rfl
  obtain ⟨p, hp⟩ : ∃ p, C (72 + u * 3) = p := ⟨_, rfl⟩
  obtain ⟨q, hq⟩ : ∃ q, C (v * 3) = q := ⟨_, rfl⟩
  rw [hp] at q0 hsum
  rw [hq] at q1 hsum
  have HSUM := hid hsum
  have HSS : Hid (∀ w', Fr No w w' → (Fr No w w' ∧ w'.cell? ⟨b, 72 + u * 3, none⟩ = some (.int .i64 p) ∧ w'.cell? ⟨b, v * 3, none⟩ = some (.int .i64 q))) := hid fun w' hf =>
    ⟨hf, hf.cell_some q0 (fun h => h), hf.cell_some q1 (fun h => h)⟩
  clear h hp hq hsum
  go_enter Tryz.func204, Tryz.ntmps204
  go_wp2_with fail
  first | (go_region_held3 (fun w' => Fr No w w' ∧ w'.cell? ⟨b, 72 + u * 3, none⟩ = some (.int .i64 p) ∧ w'.cell? ⟨b, v * 3, none⟩ = some (.int .i64 q))
      (first | assumption | exact HSS.out _ ((Fr.refl _ _).drew) | exact HSS.out _ ((Fr.alloc (Fr.refl _ _) _).drew) | exact HSS.out _ (Fr.alloc (show Fr No w _ ∧ _ from by assumption).1 _))
      (first
        | (go_at_call 133
           have hw := (show Fr No w _ ∧ _ from by assumption).1
           refine (add_calls (A := some ⟨_, 0, none⟩) (n := 2) (c := 2) (f := fun j => [p, q].getD j 0) (IntsF.fr (lit_ints 2 _ (by intro j hj; (have : j = 0 ∨ j = 1 := by omega); rcases this with rfl | rfl <;> rfl)) ((Fr.refl No _).drew)) (by decide)).mono ?_
           rintro e w8 ⟨rfl, hf⟩
           rw [HSUM.out]
           have hk := HSS.out _ (hw.trans hf)
           clear hf hw))) | fail
  all_goals go_wp2
  all_goals go_ret
  all_goals exact ⟨rfl, (show Fr No w _ ∧ _ from by assumption).1⟩

end Go.Proofs.YtoepbhacpidcbaaGreatDoor
