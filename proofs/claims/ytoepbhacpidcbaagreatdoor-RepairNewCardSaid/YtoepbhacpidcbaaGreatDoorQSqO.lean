/- slices.Repeat of one number; walked, over the shelf's bits.Mul. -/
import Derived.Test.YtoepbhacpidcbaaGreatDoorShelf
import Derived.Laws.CopyOwn
import Derived.RangeFuncNested
import Derived.Test.YtoepbhacpidcbaaGreatDoorQBase
import Derived.Test.YtoepbhacpidcbaaGreatDoorQIdx
import Derived.Test.YtoepbhacpidcbaaGreatDoorQPerm
import Derived.Test.YtoepbhacpidcbaaGreatDoorQIdxB
import Derived.Test.YtoepbhacpidcbaaGreatDoorQRef
import Derived.Test.YtoepbhacpidcbaaGreatDoorQUnref
import Derived.Test.YtoepbhacpidcbaaGreatDoorQItr
import Derived.Test.YtoepbhacpidcbaaGreatDoorQUnE
import Derived.Test.YtoepbhacpidcbaaGreatDoorQDst
import Derived.Test.YtoepbhacpidcbaaGreatDoorQLnk
import Derived.Test.YtoepbhacpidcbaaGreatDoorQLks
import Derived.Test.YtoepbhacpidcbaaGreatDoorQMid
import Derived.Test.YtoepbhacpidcbaaGreatDoorQBig
import Derived.Test.YtoepbhacpidcbaaGreatDoorQCp2
import Derived.Test.YtoepbhacpidcbaaGreatDoorQGOps
import Derived.Test.YtoepbhacpidcbaaGreatDoorQGB
import Derived.Test.YtoepbhacpidcbaaGreatDoorQG8
import Derived.Test.YtoepbhacpidcbaaGreatDoorQHpK

set_option linter.unusedVariables false
set_option linter.unusedSimpArgs false
namespace Go.Proofs.YtoepbhacpidcbaaGreatDoor
open Go.RowKit Go.Deep

end Go.Proofs.YtoepbhacpidcbaaGreatDoor

/- How far it is, corrected vertex by vertex, in whatever order: plain. -/
set_option linter.unusedVariables false
set_option linter.unusedSimpArgs false
namespace Go.Proofs.YtoepbhacpidcbaaGreatDoor
open Go.RowKit Go.Deep

def ad (d w : Int) : Int := add1 (add1 0 d) w
theorem ad_eq {d w : Int} (hd : 0 ≤ d ∧ d ≤ 4611686018427387906) (hw : 1 ≤ w ∧ w ≤ 4611686018427387906) :
    ad d w = if d = 4611686018427387906 ∨ w = 4611686018427387906 then 4611686018427387906 else if 4611686018427387904 < d + w then 4611686018427387905 else d + w := by
  by_cases h0 : d = 0
  · subst h0
    unfold ad
    rw [add1_zero, norm_id (by omega), add1_zero, norm_id ⟨by omega, hw.2⟩]
    by_cases h : w = 4611686018427387906
    · rw [if_pos (.inr h), h]
    · rw [if_neg (by omega)]
      by_cases h2 : 4611686018427387904 < 0 + w
      · rw [if_pos h2]; omega
      · rw [if_neg h2]; omega
  · exact add1_two ⟨by omega, hd.2⟩ hw
theorem ad_b {d w : Int} (hd : 0 ≤ d ∧ d ≤ 4611686018427387906) (hw : 1 ≤ w ∧ w ≤ 4611686018427387906) : d ≤ ad d w ∧ 1 ≤ ad d w ∧ ad d w ≤ 4611686018427387906 := by
  rw [ad_eq hd hw]; split
  · omega
  · split <;> omega
theorem ad_none {w : Int} (hw : 1 ≤ w ∧ w ≤ 4611686018427387906) : ad 4611686018427387906 w = 4611686018427387906 := by
  rw [ad_eq ⟨by omega, by omega⟩ hw, if_pos (.inl rfl)]

structure SpS where
  far : Nat → Int
  S : Nat → Bool
  pr : Nat → Int
def relax (d : Int) (s : SpS) (e : Nat × Int) : SpS :=
  if ad d e.2 < s.far e.1 then ⟨updI s.far e.1 (ad d e.2), setS s.S e.1 true, putP s.S s.pr e.1 (ad d e.2)⟩ else s
abbrev Edges := Nat → List (Nat × Int)
def EOk (n : Nat) (l : List (Nat × Int)) : Prop := ∀ e ∈ l, e.1 < n ∧ 1 ≤ e.2 ∧ e.2 ≤ 4611686018427387906
/-- X lies below what the first ones and the edges allow. -/
def SGood (n : Nat) (E : Edges) (I : List (Nat × Int)) (X : Nat → Int) : Prop :=
  (∀ v, X v ≤ 4611686018427387906) ∧ (∀ e ∈ I, X e.1 ≤ e.2) ∧ ∀ v, v < n → ∀ e ∈ E v, ∀ d, X v ≤ d → 0 ≤ d → d ≤ 4611686018427387906 → X e.1 ≤ ad d e.2

structure SB (n : Nat) (E : Edges) (I : List (Nat × Int)) (s : SpS) : Prop where
  rng : ∀ v, v < n → 0 ≤ s.far v ∧ s.far v ≤ 4611686018427387906
  ins : ∀ v, v < n → s.S v = true → s.pr v = s.far v
  low : ∀ X, SGood n E I X → ∀ v, v < n → X v ≤ s.far v

def mu (n : Nat) (s : SpS) : Nat := 2 * sumN (fun v => (s.far v).toNat) n + sumN (fun v => if s.S v then 1 else 0) n

theorem sumN_le' {f g : Nat → Nat} : ∀ n, (∀ i, i < n → f i ≤ g i) → sumN f n ≤ sumN g n
  | 0, _ => Nat.le_refl _
  | n + 1, h => Nat.add_le_add (sumN_le' n fun i hi => h i (by omega)) (h n (by omega))
theorem sumN_lt' {f g : Nat → Nat} : ∀ n p, p < n → (∀ i, i < n → f i ≤ g i) → f p < g p → sumN f n < sumN g n
  | 0, p, hp, _, _ => absurd hp (by omega)
  | n + 1, p, hp, h, hlt => by
    have h1 := sumN_le' n (fun i hi => h i (by omega))
    have h2 := h n (by omega)
    by_cases e : p = n
    · subst e
      show sumN f p + f p < sumN g p + g p
      omega
    · have := sumN_lt' n p (by omega) (fun i hi => h i (by omega)) hlt
      show sumN f n + f n < sumN g n + g n
      omega
theorem sumN_setS {S : Nat → Bool} (p : Nat) : ∀ n, sumN (fun v => if setS S p true v then 1 else 0) n ≤ sumN (fun v => if S v then 1 else 0) n + (if p < n then 1 else 0)
  | 0 => by simp [sumN]
  | n + 1 => by
    have h := sumN_setS (S := S) p n
    show sumN _ n + (if setS S p true n then 1 else 0) ≤ sumN _ n + (if S n then 1 else 0) + (if p < n + 1 then 1 else 0)
    by_cases e : n = p
    · subst e
      rw [if_neg (Nat.lt_irrefl n)] at h
      have e1 : setS S n true n = true := by simp [setS]
      rw [e1, if_pos rfl, if_pos (Nat.lt_succ_self n)]
      omega
    · have e1 : setS S p true n = S n := by simp [setS, e]
      rw [e1]
      by_cases e2 : p < n
      · rw [if_pos e2] at h; rw [if_pos (show p < n + 1 by omega)]; omega
      · rw [if_neg e2] at h; rw [if_neg (show ¬ p < n + 1 by omega)]; omega
theorem sumN_pop {S : Nat → Bool} (p : Nat) (hS : S p = true) : ∀ n, p < n → sumN (fun v => if setS S p false v then 1 else 0) n < sumN (fun v => if S v then 1 else 0) n := fun n hp => by
  refine sumN_lt' n p hp (fun i _ => ?_) ?_
  · unfold setS
    by_cases e : i = p
    · rw [if_pos e]; simp
    · rw [if_neg e]; exact Nat.le_refl _
  · simp [setS, hS]

/-- One edge. -/
theorem SB.relax {n : Nat} {E : Edges} {I : List (Nat × Int)} {s : SpS} (h : SB n E I s) {d : Int} {e : Nat × Int} (hd : 0 ≤ d ∧ d ≤ 4611686018427387906) (he : e.1 < n ∧ 1 ≤ e.2 ∧ e.2 ≤ 4611686018427387906)
    (hg : ∀ X, SGood n E I X → X e.1 ≤ ad d e.2) :
    SB n E I (relax d s e) ∧ (∀ v, v < n → (relax d s e).far v ≤ s.far v) ∧ (relax d s e).far e.1 ≤ ad d e.2 ∧
    (∀ v, v < n → (relax d s e).S v = false → s.S v = false ∧ (relax d s e).far v = s.far v) ∧
    (∀ v, v < n → s.far v ≤ d → (relax d s e).far v = s.far v ∧ (relax d s e).S v = s.S v) ∧ mu n (relax d s e) ≤ mu n s := by
  have hb := ad_b hd he.2
  unfold Go.Proofs.YtoepbhacpidcbaaGreatDoor.relax
  by_cases hlt : ad d e.2 < s.far e.1
  · rw [if_pos hlt]
    refine ⟨⟨fun v hv => ?_, fun v hv hS => ?_, fun X hX v hv => ?_⟩, fun v hv => ?_, ?_, fun v hv hS => ?_, fun v hv hle => ?_, ?_⟩
    · show 0 ≤ updI s.far e.1 (ad d e.2) v ∧ updI s.far e.1 (ad d e.2) v ≤ 4611686018427387906
      unfold updI; split
      · omega
      · exact h.rng v hv
    · show putP s.S s.pr e.1 (ad d e.2) v = updI s.far e.1 (ad d e.2) v
      have hS : setS s.S e.1 true v = true := hS
      have hn : ¬ (s.S e.1 = true ∧ s.pr e.1 ≤ ad d e.2) := fun c => by have := h.ins e.1 he.1 c.1; omega
      unfold putP; rw [if_neg hn]
      unfold updI
      by_cases ev : v = e.1
      · rw [if_pos ev, if_pos ev]
      · rw [if_neg ev, if_neg ev]
        unfold setS at hS
        rw [if_neg ev] at hS
        exact h.ins v hv hS
    · show X v ≤ updI s.far e.1 (ad d e.2) v
      unfold updI; split
      · next ev => rw [ev]; exact hg X hX
      · exact h.low X hX v hv
    · show updI s.far e.1 (ad d e.2) v ≤ _
      unfold updI; split
      · next ev => rw [ev]; omega
      · exact Int.le_refl _
    · show updI s.far e.1 (ad d e.2) e.1 ≤ _
      rw [updI_eq]; exact Int.le_refl _
    · have hS : setS s.S e.1 true v = false := hS
      unfold setS at hS
      by_cases ev : v = e.1
      · rw [if_pos ev] at hS; cases hS
      · rw [if_neg ev] at hS
        exact ⟨hS, updI_ne _ _ ev⟩
    · have ev : v ≠ e.1 := fun ev => by rw [ev] at hle; omega
      exact ⟨updI_ne _ _ ev, by show setS s.S e.1 true v = s.S v; unfold setS; rw [if_neg ev]⟩
    · unfold mu
      have h1 : sumN (fun v => (updI s.far e.1 (ad d e.2) v).toNat) n < sumN (fun v => (s.far v).toNat) n := by
        refine sumN_lt' n e.1 he.1 (fun i hi => ?_) ?_
        · unfold updI; split
          · next ev => rw [ev]; omega
          · exact Nat.le_refl _
        · rw [updI_eq]; omega
      have h2 := sumN_setS (S := s.S) e.1 n
      rw [if_pos he.1] at h2
      show 2 * sumN (fun v => (updI s.far e.1 (ad d e.2) v).toNat) n + sumN (fun v => if setS s.S e.1 true v then 1 else 0) n ≤ _
      omega
  · rw [if_neg hlt]
    exact ⟨h, fun v hv => Int.le_refl _, by omega, fun v hv hS => ⟨hS, rfl⟩, fun v hv _ => ⟨rfl, rfl⟩, Nat.le_refl _⟩

/-- Many edges of one vertex. -/
theorem SB.fold {n : Nat} {E : Edges} {I : List (Nat × Int)} {d : Int} (hd : 0 ≤ d ∧ d ≤ 4611686018427387906) : ∀ (l : List (Nat × Int)) (s : SpS), SB n E I s → EOk n l → (∀ e ∈ l, ∀ X, SGood n E I X → X e.1 ≤ ad d e.2) →
    SB n E I (l.foldl (Go.Proofs.YtoepbhacpidcbaaGreatDoor.relax d) s) ∧ (∀ v, v < n → (l.foldl (Go.Proofs.YtoepbhacpidcbaaGreatDoor.relax d) s).far v ≤ s.far v) ∧ (∀ e ∈ l, (l.foldl (Go.Proofs.YtoepbhacpidcbaaGreatDoor.relax d) s).far e.1 ≤ ad d e.2) ∧
    (∀ v, v < n → (l.foldl (Go.Proofs.YtoepbhacpidcbaaGreatDoor.relax d) s).S v = false → s.S v = false ∧ (l.foldl (Go.Proofs.YtoepbhacpidcbaaGreatDoor.relax d) s).far v = s.far v) ∧
    (∀ v, v < n → s.far v ≤ d → (l.foldl (Go.Proofs.YtoepbhacpidcbaaGreatDoor.relax d) s).far v = s.far v ∧ (l.foldl (Go.Proofs.YtoepbhacpidcbaaGreatDoor.relax d) s).S v = s.S v) ∧ mu n (l.foldl (Go.Proofs.YtoepbhacpidcbaaGreatDoor.relax d) s) ≤ mu n s
  | [], s, h, _, _ => ⟨h, fun v hv => Int.le_refl _, fun e he => absurd he (by simp), fun v hv hS => ⟨hS, rfl⟩, fun v hv _ => ⟨rfl, rfl⟩, Nat.le_refl _⟩
  | e :: l, s, h, hl, hg => by
    obtain ⟨a1, a2, a3, a4, a5, a6⟩ := h.relax hd (hl e (by simp)) (hg e (by simp))
    obtain ⟨b1, b2, b3, b4, b5, b6⟩ := SB.fold hd l (Go.Proofs.YtoepbhacpidcbaaGreatDoor.relax d s e) a1 (fun x hx => hl x (by simp [hx])) (fun x hx => hg x (by simp [hx]))
    rw [List.foldl_cons]
    refine ⟨b1, fun v hv => Int.le_trans (b2 v hv) (a2 v hv), fun x hx => ?_, fun v hv hS => ?_, fun v hv hle => ?_, Nat.le_trans b6 a6⟩
    · rcases List.mem_cons.1 hx with rfl | hx
      · exact Int.le_trans (b2 _ (hl x (by simp)).1) a3
      · exact b3 x hx
    · obtain ⟨c1, c2⟩ := b4 v hv hS
      obtain ⟨c3, c4⟩ := a4 v hv c1
      exact ⟨c3, c2.trans c4⟩
    · obtain ⟨c1, c2⟩ := a5 v hv hle
      obtain ⟨c3, c4⟩ := b5 v hv (by rw [c1]; exact hle)
      exact ⟨c3.trans c1, c4.trans c2⟩

/-- Between two pops. -/
structure SInv (n : Nat) (E : Edges) (I : List (Nat × Int)) (s : SpS) : Prop where
  sb : SB n E I s
  out : ∀ v, v < n → s.S v = false → ∀ e ∈ E v, s.far e.1 ≤ ad (s.far v) e.2
  ini : ∀ e ∈ I, s.far e.1 ≤ e.2

/-- A pop, and the edges of what came out. -/
theorem SInv.step {n : Nat} {E : Edges} {I : List (Nat × Int)} {s : SpS} (h : SInv n E I s) (hE : ∀ v, v < n → EOk n (E v)) (hI : ∀ e ∈ I, e.1 < n) {v : Nat} (hv : v < n) (hS : s.S v = true) :
    SInv n E I ((E v).foldl (relax (s.pr v)) ⟨s.far, setS s.S v false, s.pr⟩) ∧ mu n ((E v).foldl (relax (s.pr v)) ⟨s.far, setS s.S v false, s.pr⟩) < mu n s := by
  have hp := h.sb.ins v hv hS
  have hr := h.sb.rng v hv
  have hb : SB n E I ⟨s.far, setS s.S v false, s.pr⟩ := ⟨h.sb.rng, fun x hx hSx => by
    have hSx : setS s.S v false x = true := hSx
    unfold setS at hSx
    by_cases e : x = v
    · rw [if_pos e] at hSx; cases hSx
    · rw [if_neg e] at hSx; exact h.sb.ins x hx hSx, h.sb.low⟩
  rw [hp]
  obtain ⟨b1, b2, b3, b4, b5, b6⟩ := SB.fold (d := s.far v) hr (E v) ⟨s.far, setS s.S v false, s.pr⟩ hb (hE v hv) (fun e he X hX => hX.2.2 v hv e he _ (h.sb.low X hX v hv) hr.1 hr.2)
  refine ⟨⟨b1, fun x hx hSx e he => ?_, fun e he => Int.le_trans (b2 _ (hI e he)) (h.ini e he)⟩, ?_⟩
  · obtain ⟨c1, c2⟩ := b4 x hx hSx
    have c2 : _ = s.far x := c2
    rw [c2]
    by_cases ev : x = v
    · subst ev; exact b3 e he
    · have c1 : setS s.S v false x = false := c1
      unfold setS at c1
      rw [if_neg ev] at c1
      exact Int.le_trans (b2 _ (hE x hx e he).1) (h.out x hx c1 e he)
  · refine Nat.lt_of_le_of_lt b6 ?_
    have := sumN_pop v hS n hv
    show 2 * sumN (fun v => (s.far v).toNat) n + sumN (fun x => if setS s.S v false x then 1 else 0) n < 2 * sumN (fun v => (s.far v).toNat) n + sumN (fun v => if s.S v then 1 else 0) n
    omega

/-- The first vertex, whose own distance is not told: all is None, nothing is in. -/
theorem SInv.first {n : Nat} {E : Edges} {u : Nat} (hu : u < n) (hE : ∀ v, v < n → EOk n (E v)) (s : SpS) (hf : ∀ v, v < n → s.far v = 4611686018427387906) (hS : ∀ v, v < n → s.S v = false) :
    SInv n E ((E u).map fun e => (e.1, ad 0 e.2)) ((E u).foldl (relax 0) s) := by
  have hb : SB n E ((E u).map fun e => (e.1, ad 0 e.2)) s := ⟨fun v hv => by rw [hf v hv]; omega, fun v hv h => absurd h (by rw [hS v hv]; decide), fun X hX v hv => by rw [hf v hv]; exact hX.1 v⟩
  obtain ⟨b1, b2, b3, b4, b5, b6⟩ := SB.fold (d := 0) ⟨by omega, by omega⟩ (E u) s hb (hE u hu) (fun e he X hX => hX.2.1 (e.1, ad 0 e.2) (List.mem_map.2 ⟨e, he, rfl⟩))
  refine ⟨b1, fun v hv hSv e he => ?_, fun e he => ?_⟩
  · rw [(b4 v hv hSv).2, hf v hv, ad_none (hE v hv e he).2]
    exact (b1.rng _ (hE v hv e he).1).2
  · obtain ⟨e', he', rfl⟩ := List.mem_map.1 he
    exact b3 e' he'

/-- Nothing is in any more: far is the greatest that the first ones and the edges allow. -/
structure SFar (n : Nat) (E : Edges) (I : List (Nat × Int)) (far : Nat → Int) : Prop where
  rng : ∀ v, v < n → 0 ≤ far v ∧ far v ≤ 4611686018427387906
  ini : ∀ e ∈ I, far e.1 ≤ e.2
  out : ∀ v, v < n → ∀ e ∈ E v, far e.1 ≤ ad (far v) e.2
  low : ∀ X, SGood n E I X → ∀ v, v < n → X v ≤ far v
theorem SInv.last {n : Nat} {E : Edges} {I : List (Nat × Int)} {s : SpS} (h : SInv n E I s) (h0 : ∀ v, v < n → s.S v = false) : SFar n E I s.far :=
  ⟨h.sb.rng, h.ini, fun v hv e he => h.out v hv (h0 v hv) e he, h.sb.low⟩

end Go.Proofs.YtoepbhacpidcbaaGreatDoor

/- dist.Min; dist.Add and dist.Min of two; walked. -/
set_option linter.unusedVariables false
set_option linter.unusedSimpArgs false
namespace Go.Proofs.YtoepbhacpidcbaaGreatDoor
open Go.RowKit Go.Deep

end Go.Proofs.YtoepbhacpidcbaaGreatDoor

/- An arc of a graph, read; walked. -/
set_option linter.unusedVariables false
set_option linter.unusedSimpArgs false
namespace Go.Proofs.YtoepbhacpidcbaaGreatDoor
open Go.RowKit Go.Deep

end Go.Proofs.YtoepbhacpidcbaaGreatDoor

/- The edges that a vertex goes on by, one behind the other; a heap behind what keeps cells: plain. -/
set_option linter.unusedVariables false
set_option linter.unusedSimpArgs false
namespace Go.Proofs.YtoepbhacpidcbaaGreatDoor
open Go.RowKit Go.Deep

/-- Each place's head is a vertex (a free place's is 0). -/
def Gr.Hd (G : Gr) (N : Nat) : Prop := G.n = N ∧ ∀ i, i < 64 → 0 ≤ (G.arc i).h ∧ (G.arc i).h < N
theorem Gr.Hd.step {G : Gr} {N : Nat} (hN : 1 ≤ N) (h : G.Hd N) (c : Chg) : (G.step c).Hd N := by
  have hput : ∀ id a, (G.put id a).Hd N := fun id a => by
    unfold Gr.put
    split
    · rename_i hc
      have hok : G.okA a := by
        unfold Gr.icode at hc
        by_cases hh : (0 ≤ id ∧ id < 64) ∧ G.okA a
        · exact hh.2
        · rw [if_neg hh] at hc; simp at hc
      refine ⟨h.1, fun i hi => ?_⟩
      by_cases e : i = id.toNat
      · have e1 : (G.ins id.toNat a).arc i = a := if_pos e
        have := hok.2.1
        rw [h.1] at this
        rw [e1]; exact this
      · have e1 : (G.ins id.toNat a).arc i = G.arc i := if_neg e
        rw [e1]; exact h.2 i hi
    · exact h
  have hrm : ∀ id, (G.rm id).Hd N := fun id => by
    unfold Gr.rm
    split
    · refine ⟨h.1, fun i hi => ?_⟩
      by_cases e : i = id.toNat
      · have e2 : (G.del id.toNat).arc i = ⟨0, 0, 0, false⟩ := if_pos e
        rw [e2]; show (0 : Int) ≤ 0 ∧ (0 : Int) < N; omega
      · have e1 : (G.del id.toNat).arc i = G.arc i := if_neg e
        rw [e1]; exact h.2 i hi
    · exact h
  have htn : ∀ id c, (G.tn id c).Hd N := fun id c => by
    unfold Gr.tn
    split
    · refine ⟨h.1, fun i hi => ?_⟩
      rw [(G.shut_arc id.toNat c i).2]; exact h.2 i hi
    · exact h
  have hwt : ∀ id x, (G.wt id x).Hd N := fun id x => by
    unfold Gr.wt
    split
    · refine ⟨h.1, fun i hi => ?_⟩
      rw [(G.wei_arc id.toNat x i).2]; exact h.2 i hi
    · exact h
  unfold Gr.step
  split
  · exact hput _ _
  · split
    · exact hrm _
    · split
      · exact htn _ _
      · split
        · exact htn _ _
        · exact hwt _ _
theorem fr_row {A B : World} {row : Option Nat} (hg : A.grownBy B row) : Fr (fun k => row = some k) A B := ⟨hg.os, hg.tape, hg.output, hg.size, fun k hk hnk => hg.block k hk (fun e => hnk e.symm)⟩
theorem Bag.own_cells {w : World} {L : HLoc} {n : Nat} {S : Nat → Bool} {pr : Nat → Int} (h : Bag w L n S pr) {j : Nat} {o : Obj} (hj : L.own j) (ho : w.heap[j]? = some o) : o.isCells = true := by
  obtain ⟨T, pl, hm, _, _⟩ := h
  rcases hj with rfl | rfl | rfl | hj
  · rw [hm.h] at ho; injection ho with ho; rw [← ho]; rfl
  · obtain ⟨C, hC, _⟩ := hm.pb
    rw [hC] at ho; injection ho with ho; rw [← ho]; rfl
  · obtain ⟨C, hC, _⟩ := hm.qb
    rw [hC] at ho; injection ho with ho; rw [← ho]; rfl
  · obtain ⟨_, ⟨e, _⟩ | ⟨g, cap, cur, e0, _, hg, _⟩⟩ := hm.tr
    · rw [e] at hj; cases hj
    · rw [e0] at hj
      injection hj with hj
      have hj : g = j := hj
      rw [← hj, hg] at ho; injection ho with ho; rw [← ho]; rfl
theorem Bag.grown {A B : World} {L : HLoc} {n : Nat} {S : Nat → Bool} {pr : Nat → Int} (h : Bag A L n S pr) {row : Option Nat} (hg : A.grownBy B row) (hr : ∀ r, row = some r → ∃ o : Obj, A.heap[r]? = some o ∧ o.isCells = false) : Bag B L n S pr :=
  h.fr (fr_row hg) (fun j hj e => by
    obtain ⟨o, ho, hc⟩ := hr j e
    rw [h.own_cells hj ho] at hc; cases hc)
theorem Blk.grown {A B : World} {b n : Nat} {T : TypeId} {V : Nat → Value} (h : Blk A b n T V) {row : Option Nat} (hg : A.grownBy B row) (hr : ∀ r, row = some r → ∃ o : Obj, A.heap[r]? = some o ∧ o.isCells = false) : Blk B b n T V :=
  h.fr (fr_row hg) (fun e => by
    obtain ⟨o, ho, hc⟩ := hr b e
    obtain ⟨C, hC, _⟩ := h
    rw [hC] at ho; injection ho with ho; rw [← ho] at hc; cases hc)
end Go.Proofs.YtoepbhacpidcbaaGreatDoor

/- What lies in memory while through or spread corrects: plain. -/
set_option linter.unusedVariables false
set_option linter.unusedSimpArgs false
namespace Go.Proofs.YtoepbhacpidcbaaGreatDoor
open Go.RowKit Go.Deep

def HLoc.at (L : HLoc) (t : Value) : HLoc := { L with t := t }
theorem HLoc.at_b (L : HLoc) (t : Value) : (L.at t).b = L.b := rfl
theorem HLoc.own_at {L : HLoc} {t : Value} {j : Nat} (h : (L.at t).own j) : j = L.b ∨ j = L.p ∨ j = L.q ∨ t.ownBlock = some j := h

/-- The boxes (a place each), the heap, and how far it is. -/
structure ThM (w : World) (bx : List (Nat × Value)) (Lh : HLoc) (Bf n : Nat) (s : SpS) (t : Value) (W : World) : Prop where
  box : ∀ x ∈ bx, W.cell? ⟨x.1, 0, none⟩ = some x.2
  bag : Bag W (Lh.at t) n s.S s.pr
  far : Blk W Bf n 3 (fun i => .int .i64 (s.far i))
  fr : Fr No w W
  own : ∀ j, (Lh.at t).own j → w.heap.size ≤ j ∧ j ≠ Bf ∧ ∀ x ∈ bx, j ≠ x.1
  sep : w.heap.size ≤ Bf ∧ ∀ x ∈ bx, Bf ≠ x.1

section
variable {w : World} {bx : List (Nat × Value)} {Lh : HLoc} {Bf n : Nat} {s : SpS} {t : Value} {W W' : World}
theorem ThM.no (h : ThM w bx Lh Bf n s t W) (hf : Fr No W W') : ThM w bx Lh Bf n s t W' :=
  ⟨fun x hx => hf.cell_some (h.box x hx) (fun h => h), h.bag.no hf, h.far.fr hf (fun h => h), h.fr.trans hf, h.own, h.sep⟩
theorem ThM.grown (h : ThM w bx Lh Bf n s t W) {row : Option Nat} (hg : W.grownBy W' row) (hr : ∀ r, row = some r → w.heap.size ≤ r ∧ ∃ o : Obj, W.heap[r]? = some o ∧ o.isCells = false) : ThM w bx Lh Bf n s t W' :=
  ⟨fun x hx => cell_kept (h.box x hx) hg (fun r e => (hr r e).2), h.bag.grown hg (fun r e => (hr r e).2), h.far.grown hg (fun r e => (hr r e).2),
    h.fr.grown hg (fun k e => .inr (hr k e).1), h.own, h.sep⟩
theorem ThM.put (h : ThM w bx Lh Bf n s t W) {th : Nat} {p : Int} {e : Ending} (hr : PutR (Lh.at t) n s.S s.pr th p W e W') :
    ∃ (t' : Value) (c : Int), e = .returned (.int .i64 c) ∧ ThM w bx Lh Bf n ⟨s.far, setS s.S th true, putP s.S s.pr th p⟩ t' W' ∧ Fr (Lh.at t).own W W' ∧ ∀ j, (Lh.at t').own j → (Lh.at t).own j ∨ W.heap.size ≤ j := by
  obtain ⟨c, t', rfl, hb, hf, ht⟩ := hr
  have hs := h.fr.size
  have hbl : Bf < W.heap.size := h.far.lt
  have hown : ∀ j, (Lh.at t').own j → (Lh.at t).own j ∨ W.heap.size ≤ j := fun j hj => by
    rcases HLoc.own_at hj with e | e | e | e
    · exact .inl (.inl e)
    · exact .inl (.inr (.inl e))
    · exact .inl (.inr (.inr (.inl e)))
    · rcases ht j e with e | e
      · exact .inl (.inr (.inr (.inr e)))
      · exact .inr e
  refine ⟨t', c, rfl, ⟨fun x hx => hf.cell_some (h.box x hx) (fun ho => (h.own _ ho).2.2 x hx rfl), hb, h.far.fr hf (fun ho => (h.own _ ho).2.1 rfl),
    h.fr.trans' hf (fun i hi ho => by have := (h.own _ ho).1; omega), fun j hj => ?_, h.sep⟩, hf, hown⟩
  rcases hown j hj with ho | ho
  · exact h.own j ho
  · exact ⟨by omega, by omega, fun x hx => by have := cell_lt (h.box x hx); have : x.1 < W.heap.size := this; omega⟩
theorem ThM.set (h : ThM w bx Lh Bf n s t W) (i : Nat) (z : Int) : ThM w bx Lh Bf n ⟨updI s.far i z, s.S, s.pr⟩ t (W.setCell ⟨Bf, i, none⟩ (.int .i64 z)) ∧ Fr (One Bf) W (W.setCell ⟨Bf, i, none⟩ (.int .i64 z)) := by
  have hf : Fr (One Bf) W (W.setCell ⟨Bf, i, none⟩ (.int .i64 z)) := (Fr.refl _ W).set1 i _
  refine ⟨⟨fun x hx => hf.cell_some (h.box x hx) (fun (e : x.1 = Bf) => h.sep.2 x hx e.symm), h.bag.fr hf (fun j hj (e : j = Bf) => (h.own j hj).2.1 e), ?_, h.fr.trans' hf (fun k hk (e : k = Bf) => by have := h.sep.1; omega), h.own, h.sep⟩, hf⟩
  refine (h.far.setCell i _).congr (fun k hk => ?_)
  show (if k = i then Value.int .i64 z else Value.int .i64 (s.far k)) = Value.int .i64 (if k = i then z else s.far k)
  split <;> rfl
end

/-- The box of the distance that was taken out. -/
structure Bx (w : World) (bx : List (Nat × Value)) (Lh : HLoc) (Bf : Nat) (t : Value) (b : Nat) (d : Int) (W : World) : Prop where
  c : W.cell? ⟨b, 0, none⟩ = some (.int .i64 d)
  ge : w.heap.size ≤ b
  ne : b ≠ Bf ∧ ∀ x ∈ bx, b ≠ x.1
  own : ∀ j, (Lh.at t).own j → j ≠ b
  z : W.frozen? ⟨b, 0, none⟩ = false
section
variable {w : World} {bx : List (Nat × Value)} {Lh : HLoc} {Bf n : Nat} {s : SpS} {t t' : Value} {W W' : World} {b : Nat} {d : Int}
theorem Bx.fr (h : Bx w bx Lh Bf t b d W) {F : Nat → Prop} (hf : Fr F W W') (hF : ¬ F b) (ho : ∀ j, (Lh.at t').own j → (Lh.at t).own j ∨ W.heap.size ≤ j) : Bx w bx Lh Bf t' b d W' :=
  ⟨hf.cell_some h.c hF, h.ge, h.ne, fun j hj => by
    rcases ho j hj with e | e
    · exact h.own j e
    · have := cell_lt h.c
      have : b < W.heap.size := this
      omega, (hf.frozen (p := ⟨b, 0, none⟩) (cell_lt h.c) hF).trans h.z⟩
theorem Bx.no (h : Bx w bx Lh Bf t b d W) (hf : Fr No W W') : Bx w bx Lh Bf t b d W' := h.fr hf (fun h => h) (fun j hj => .inl hj)
theorem Bx.grown (h : Bx w bx Lh Bf t b d W) {row : Option Nat} (hg : W.grownBy W' row) (hr : ∀ r, row = some r → ∃ o : Obj, W.heap[r]? = some o ∧ o.isCells = false) : Bx w bx Lh Bf t b d W' :=
  ⟨cell_kept h.c hg hr, h.ge, h.ne, h.own, (frozen_kept h.c hg hr).trans h.z⟩
end

end Go.Proofs.YtoepbhacpidcbaaGreatDoor

/- Ranges over functions in a loop: the marks among the deferred calls grow; what a round writes is said by a function of the temporaries: plain. -/
set_option linter.unusedVariables false
set_option linter.unusedSimpArgs false
namespace Go.Proofs.YtoepbhacpidcbaaGreatDoor
open Go.RowKit Go.Deep

def mark (d : Nat) : Deferred := { target := .collected d, args := #[] }
def Marks (n0 : Nat) (ds : List Nat) (W : World) : Prop := ds.Nodup ∧ ∀ d ∈ ds, n0 ≤ d ∧ W.heap[d]? = some (.deferred (some []))
theorem Marks.nil (n0 : Nat) (W : World) : Marks n0 [] W := ⟨List.nodup_nil, fun d h => absurd h (by simp)⟩
theorem Marks.lt {n0 : Nat} {ds : List Nat} {W : World} (h : Marks n0 ds W) {d : Nat} (hd : d ∈ ds) : d < W.heap.size := heap_lt (h.2 d hd).2
theorem Marks.fr {n0 : Nat} {ds : List Nat} {W W' : World} (h : Marks n0 ds W) {F : Nat → Prop} (hf : Fr F W W') (hF : ∀ k o, F k → W.heap[k]? = some o → o.isCells = true) : Marks n0 ds W' :=
  ⟨h.1, fun d hd => ⟨(h.2 d hd).1, (hf.block d (h.lt hd) (fun hk => by have := hF d _ hk (h.2 d hd).2; cases this)).trans (h.2 d hd).2⟩⟩
theorem Marks.no {n0 : Nat} {ds : List Nat} {W W' : World} (h : Marks n0 ds W) (hf : Fr No W W') : Marks n0 ds W' := h.fr hf (fun _ _ h => h.elim)
theorem Marks.cons {n0 : Nat} {ds : List Nat} {W : World} (h : Marks n0 ds W) {d N : Nat} (hN : ∀ x ∈ ds, x < N) (hd : N ≤ d) (h0 : n0 ≤ d) (hk : W.heap[d]? = some (.deferred (some []))) : Marks n0 (d :: ds) W :=
  ⟨List.nodup_cons.2 ⟨fun hm => by have := hN d hm; omega, h.1⟩, fun x hx => by
    rcases List.mem_cons.1 hx with rfl | hx
    · exact ⟨h0, hk⟩
    · exact h.2 x hx⟩
theorem Marks.grown {n0 N : Nat} {ds : List Nat} {A B : World} (h : Marks n0 ds A) (hN : ∀ x ∈ ds, x < N) {row : Option Nat} (hg : A.grownBy B row) (hr : ∀ r, row = some r → N ≤ r) : Marks n0 ds B :=
  ⟨h.1, fun d hd => ⟨(h.2 d hd).1, ((fr_row hg).block d (h.lt hd) (fun hk => by have := hr d hk; have := hN d hd; omega)).trans (h.2 d hd).2⟩⟩
theorem cell_is_cells {W : World} {b i : Nat} {v : Value} (h : W.cell? ⟨b, i, none⟩ = some v) {o : Obj} (ho : W.heap[b]? = some o) : o.isCells = true := by
  unfold World.cell? at h
  rw [ho] at h
  cases o <;> first | rfl | (simp at h)
theorem leaves_marks {F : Fence} {n : Nat} {P : Program} {fn : Func} {tmps : Array Value} {R : Ending → World → Prop} {n0 : Nat} : ∀ (ds : List Nat) (W : World), Marks n0 ds W →
    (∀ W', Fr (fun k => k ∈ ds) W W' → LeavesIn F n P fn tmps R [] .returning W') → LeavesInM F n P fn tmps R (ds.map mark) .returning W
  | [], W, _, h => h W (Fr.refl _ W)
  | d :: ds, W, hm, h => by
    have hd := hm.2 d (by simp)
    have hnd := (List.nodup_cons.1 hm.1)
    have hf : Fr (One d) W (W.putObj d (.deferred none)) := fr_putObj (F := One d) W d _ rfl
    refine ⟨by simp, .inl ⟨d, W.putObj d (.deferred none), rfl, run_takeDeferred hd.2, leaves_marks (n0 := n0) ds _ ⟨hnd.2, fun x hx => ?_⟩ (fun W' hW' => h W' ?_)⟩⟩
    · have hx' := hm.2 x (by simp [hx])
      exact ⟨hx'.1, (hf.block x (hm.lt (by simp [hx])) (fun (e : x = d) => hnd.1 (e ▸ hx))).trans hx'.2⟩
    · exact (hf.mono (fun k _ (e : k = d) => by simp [e])).trans (hW'.mono (fun k _ hk => by simp [hk]))

theorem wpIn_rangeFunc_ownS {P : Program} {F : Fence} {n : Nat} {α : Type} {g : Operand} {ps : Array Tmp} {assign body : Code} {Q : Exit → Act → World → Prop} {a : Act} {w : World}
    (hro : F.round = none) (h1 : 1 ≤ n) {gf : Nat} {lb : Array Value} (hg : a.eval g = .func (.func gf) #[] lb) (hFg : F.fn gf) (eg : ∀ args w, (callFunc gf args).run P w = .ok (.enter gf args) w)
    {encs : α → Array Value} {Kp : World → World → Prop} {S Sp : List α → Prop} {N : Nat} {w0 : World} (hseq : SeqStopsK F (n - 1) P gf lb encs Kp S Sp N w0)
    (hKt : ∀ {A B C : World}, Kp A B → Kp B C → Kp A C) (hKb : ∀ (W : World) (l : Nat) (o o' : Obj), w.heap.size ≤ l → W.heap[l]? = some o → o.isCells = false → o.isWalk = false → Kp W (W.putObj l o')) (hKr : ∀ W, Kp W W) (hb0 : Below w0.heap.size w0 w) (hps : ∀ x, (encs x).size = ps.size)
    (I : List α → World → Prop) (Ix : Code → List α → World → Prop) (hI : OwnFrom w.heap.size I) (hIx : ∀ c, OwnFrom w.heap.size (Ix c)) (h0 : I [] w) (A : α → Array Value → Array Value)
    (hassign : ∀ (l : Nat) (x : α) (W : World) (K : Act → World → Prop), K { tmps := A x ((ps.zip (encs x)).foldl (fun t (p, v) => t.setIfInBounds p v) a.tmps), defers := [] } W →
      assign.wpIn (F.inRound l) (n - 1 - 1) P (Exit.then K (fun _ _ _ => False)) { tmps := (ps.zip (encs x)).foldl (fun t (p, v) => t.setIfInBounds p v) a.tmps, defers := [] } W)
    (hbody : ∀ (l : Nat) (pre : List α) (x : α) (W : World), w.heap.size ≤ l → (∃ r, W.heap[l]? = some (.loop r)) → I pre W → pre.length < N → body.wpIn (F.inRound l) (n - 1 - 1) P (ownPostG w.heap.size Kp I Ix (pre ++ [x]) W) { tmps := A x ((ps.zip (encs x)).foldl (fun t (p, v) => t.setIfInBounds p v) a.tmps), defers := [] } W)
    (hdone : ∀ (D : Nat) (xs : List α) (W : World), w.heap.size ≤ D → S xs → I xs W → W.heap[D]? = some (.deferred (some [])) → Q .normal { a with defers := { target := .collected D, args := #[] } :: a.defers } W)
    (hstop : ∀ (D : Nat) (c : Code) (pre : List α) (W : World), w.heap.size ≤ D → Sp pre → Ix c pre W → W.heap[D]? = some (.deferred (some [])) → c.wpIn F n P Q { a with defers := { target := .collected D, args := #[] } :: a.defers } W) :
    (Code.rangeFunc g ps assign body).wpIn F n P Q a w :=
  wpIn_rangeFunc_ownH hro h1 hg hFg eg hseq hKt hKb hb0 hps I Ix hI hIx h0 (fun x a' _ => a' = { tmps := A x ((ps.zip (encs x)).foldl (fun t (p, v) => t.setIfInBounds p v) a.tmps), defers := [] })
    (fun x a' s A B row hs _ _ => hs)
    (fun l pre x W K hi hK => hassign l x W K (hK _ _ (KeepsFrom.refl _ _) (hKr _) hi rfl))
    (fun l pre x a' W hl hr hi hx hlen => by rw [hx]; exact hbody l pre x W hl hr hi hlen) hdone hstop

end Go.Proofs.YtoepbhacpidcbaaGreatDoor
/- A range over a function that itself ranges: its word is given at the caller's own relation alone, and at a world whose size is known. -/
set_option linter.unusedVariables false
namespace Go.Proofs.YtoepbhacpidcbaaGreatDoor
open Go.RowKit Go.Deep

/-- What an iterator owes that may range over another one: the relation J bears new blocks and turns of what is no cells, from N0 on; the world has N0 blocks. -/
def SeqO {α : Type} (F : Fence) (n : Nat) (P : Program) (g : Nat) (lb : Array Value) (encs : α → Array Value) (Kp : World → World → Prop) (S Sp : List α → Prop) (N N0 c : Nat) (w0 : World) : Prop :=
  ∀ (l : Nat) (J Jx : List α → World → Prop) (W : World), Below w0.heap.size w0 W → W.heap.size = N0 → OwnFrom N0 J → OwnFrom N0 Jx →
    (∀ pre x W1, J pre W1 → pre.length < N → N0 + c ≤ W1.heap.size → YieldAt F (n - 1) P l (encs x) W1 fun e W' => ((e = .returned (.bool true) ∧ J (pre ++ [x]) W' ∧ Kp W1 W') ∨ (e = .returned (.bool false) ∧ Jx (pre ++ [x]) W')) ∧ KeepsFrom N0 W1 W') →
    J [] W → CallsIn F n P g (#[.func (.yield l) #[] #[]] ++ lb) W fun e W' => (∃ v, e = .returned v) ∧ ((∃ xs, S xs ∧ J xs W' ∧ N0 + c ≤ W'.heap.size) ∨ (∃ pre, Sp pre ∧ Jx pre W'))

theorem OwnFrom.later {β : Type} {B B' : Nat} {I : β → World → Prop} (h : OwnFrom B I) (hB : B ≤ B') : OwnFrom B' I := fun s X Y row hs hg hr => h s X Y row hs hg (fun r e => ⟨Nat.le_trans hB (hr r e).1, (hr r e).2⟩)
/-- A block that stands below B stands. -/
theorem OwnFrom.block {β : Type} {B k : Nat} {o : Obj} (hk : k < B) : OwnFrom B (fun (_ : β) W => W.heap[k]? = some o) := fun s X Y row hs hg hr =>
  (hg.block k (heap_lt hs) (fun e => by have := (hr k e.symm).1; omega)).trans hs
theorem OwnFrom.both {β : Type} {B : Nat} {I I' : β → World → Prop} (h : OwnFrom B I) (h' : OwnFrom B I') : OwnFrom B (fun s W => I s W ∧ I' s W) := fun s X Y row hs hg hr => ⟨h s X Y row hs.1 hg hr, h' s X Y row hs.2 hg hr⟩
theorem OwnFrom.some {β γ : Type} {B : Nat} {I : γ → β → World → Prop} (h : ∀ c, OwnFrom B (I c)) : OwnFrom B (fun s W => ∃ c, I c s W) := fun s X Y row ⟨c, hs⟩ hg hr => ⟨c, h c s X Y row hs hg hr⟩
/-- The elements seen as others. -/
theorem SeqO.map {α β : Type} {F : Fence} {n : Nat} {P : Program} {g : Nat} {lb : Array Value} {enca : α → Array Value} {encb : β → Array Value} {Kp : World → World → Prop} {L : List α} {N0 c : Nat} {w0 : World} (f : α → β) (he : ∀ x, encb (f x) = enca x)
    {Na Nb : Nat} (hN : Na ≤ Nb) (h : SeqO F n P g lb enca Kp (fun ys => ys = L) (fun pre => pre <+: L) Na N0 c w0) : SeqO F n P g lb encb Kp (fun ys => ys = L.map f) (fun pre => pre <+: L.map f) Nb N0 c w0 := fun l J Jx W hW hS hJ hJx hY h0 =>
  (h l (fun s W => J (s.map f) W) (fun s W => Jx (s.map f) W) W hW hS (fun s X Y row hs hg hr => hJ (s.map f) X Y row hs hg hr) (fun s X Y row hs hg hr => hJx (s.map f) X Y row hs hg hr)
    (fun pre x W1 hj hl hc => by
      have := hY (pre.map f) (f x) W1 hj (by rw [List.length_map]; omega) hc
      rw [he] at this
      simpa only [List.map_append, List.map_cons, List.map_nil] using this) h0).mono fun e W' ⟨h1, h2⟩ => ⟨h1, h2.imp (fun ⟨xs, a, b⟩ => ⟨xs.map f, by rw [a], b⟩) (fun ⟨pre, a, b⟩ => ⟨pre.map f, a.map f, b⟩)⟩
theorem YieldAt.deep {m m' l : Nat} {P : Program} {args : Array Value} {W : World} {R : Ending → World → Prop} (h : YieldAt Fence.wide m P l args W R) : YieldAt Fence.wide m' P l args W R := by
  obtain ⟨fn, tmps, assign, body, hy, hR⟩ := h
  exact ⟨fn, tmps, assign, body, hy, ⟨hR.1, fun c cs _ => hR.2 c cs (room_wide _)⟩⟩
theorem SeqO.deep {α : Type} {n m : Nat} {P : Program} {g : Nat} {lb : Array Value} {encs : α → Array Value} {Kp : World → World → Prop} {S Sp : List α → Prop} {N N0 c : Nat} {w0 : World} (h : SeqO Fence.wide n P g lb encs Kp S Sp N N0 c w0) : SeqO Fence.wide m P g lb encs Kp S Sp N N0 c w0 := fun l J Jx W hW hS hJ hJx hY h0 =>
  callsIn_wide.2 (callsIn_wide.1 (h l J Jx W hW hS hJ hJx (fun pre x W1 a b d => YieldAt.deep (hY pre x W1 a b d)) h0))
theorem YieldAt.round {F : Fence} {m l l0 : Nat} {P : Program} {args : Array Value} {W : World} {R : Ending → World → Prop} (h : YieldAt F m P l args W R) : YieldAt (F.inRound l0) m P l args W R := h

/-- The loop's record. -/
abbrev recO (B : Nat) (fn : FuncId) (t : Array Value) (ps : Array Tmp) (assign body : Code) (st : LoopState) (pe : Option Code) : Obj := .loop { state := st, pending := pe, fn, tmps := t, params := ps, assign, body, defers := B }

/-- One round: what yield does, where the body keeps the relation. -/
theorem yield_O {P : Program} {F : Fence} {n B : Nat} {α : Type} {encs : α → Array Value} {ps : Array Tmp} {assign body : Code} {t : Array Value} {fn : FuncId} (hfn : F.fn fn) (hps : ∀ x, (encs x).size = ps.size) {Kp : World → World → Prop}
    (hKt : ∀ {A B C : World}, Kp A B → Kp B C → Kp A C) (hKb : ∀ (W : World) (o o' : Obj), W.heap[B + 1]? = some o → o.isCells = false → o.isWalk = false → Kp W (W.putObj (B + 1) o'))
    {I : List α → World → Prop} {Ix : Code → List α → World → Prop} (hI : OwnFrom B I) (hIx : ∀ c, OwnFrom B (Ix c)) {A : α → Act} {pre : List α} {x : α} {W : World}
    (hassign : ∀ (W : World) (K : Act → World → Prop), K (A x) W → assign.wpIn (F.inRound (B + 1)) n P (Exit.then K (fun _ _ _ => False)) { tmps := (ps.zip (encs x)).foldl (fun t (p, v) => t.setIfInBounds p v) t, defers := [] } W)
    {C : Nat} (hC : C ≤ W.heap.size) (hbody : ∀ W : World, (∃ r, W.heap[B + 1]? = some (.loop r)) → I pre W → C ≤ W.heap.size → body.wpIn (F.inRound (B + 1)) n P (ownPostG B Kp I Ix (pre ++ [x]) W) (A x) W)
    (hi : I pre W) (hl : W.heap[B + 1]? = some (recO B fn t ps assign body .ready none)) (hd : W.heap[B]? = some (.deferred (some []))) :
    YieldAt F n P (B + 1) (encs x) W fun e W' =>
      ((e = .returned (.bool true) ∧ (I (pre ++ [x]) W' ∧ W'.heap[B + 1]? = some (recO B fn t ps assign body .ready none) ∧ W'.heap[B]? = some (.deferred (some []))) ∧ Kp W W') ∨
      (e = .returned (.bool false) ∧ ∃ c, Ix c (pre ++ [x]) W' ∧ W'.heap[B + 1]? = some (recO B fn t ps assign body .done (some c)) ∧ W'.heap[B]? = some (.deferred (some [])))) ∧ KeepsFrom (B + 2) W W' := by
  have hne : B ≠ B + 1 := by omega
  refine ⟨fn, _, assign, body, run_yield hl (hps x), roundIn_of_wpIn hfn (hassign W _ ⟨_, run_beginRound hl rfl, ?_⟩)⟩
  have hlt := heap_lt hl
  obtain ⟨W2, hW2⟩ : ∃ W2, W.putObj (B + 1) (recO B fn t ps assign body .busy none) = W2 := ⟨_, rfl⟩
  have l2 : W2.heap[B + 1]? = some (recO B fn t ps assign body .busy none) := by rw [← hW2]; exact World.putObj_heap_same hlt
  have d2 : W2.heap[B]? = some (.deferred (some [])) := by rw [← hW2]; exact (World.putObj_heap_other hne).trans hd
  have k2 : Kp W W2 := by rw [← hW2]; exact hKb _ _ _ hl rfl rfl
  have i2 : I pre W2 := by rw [← hW2]; exact hI.putObj _ hi (by omega) hl rfl
  show body.wpIn _ _ _ _ _ (W.putObj (B + 1) (recO B fn t ps assign body .busy none))
  rw [hW2]
  refine wpIn_mono (hbody W2 ⟨_, l2⟩ i2 (by have : W2.heap.size = W.heap.size := (by rw [← hW2]; simp); omega)) ?_
  have hend : ∀ (j : Option Code) (W3 : World), KeepsFrom B W2 W3 → (Instr.endRound (B + 1) j).run P W3 = .ok (.bool j.isNone) (W3.putObj (B + 1) (recO B fn t ps assign body (if j.isNone then .ready else .done) j)) ∧ W3.heap[B + 1]? = some (recO B fn t ps assign body .busy none) ∧ W3.heap[B]? = some (.deferred (some [])) := fun j W3 hk =>
    ⟨run_endRound j (hk.same _ _ (by omega) l2 rfl), hk.same _ _ (by omega) l2 rfl, hk.same _ _ (Nat.le_refl _) d2 rfl⟩
  have hafter : ∀ (j : Option Code) (st : LoopState) (W3 : World), W3.heap[B + 1]? = some (recO B fn t ps assign body .busy none) → W3.heap[B]? = some (.deferred (some [])) → (W3.putObj (B + 1) (recO B fn t ps assign body st j)).heap[B + 1]? = some (recO B fn t ps assign body st j) ∧ (W3.putObj (B + 1) (recO B fn t ps assign body st j)).heap[B]? = some (.deferred (some [])) := fun j st W3 h3 h4 =>
    ⟨World.putObj_heap_same (heap_lt h3), (World.putObj_heap_other hne).trans h4⟩
  have hkf : ∀ (st : LoopState) (j : Option Code) (W3 : World), KeepsFrom B W2 W3 → KeepsFrom (B + 2) W (W3.putObj (B + 1) (recO B fn t ps assign body st j)) := fun st j W3 hk => ⟨by
      have h1 := hk.size
      have h2 : W.heap.size = W2.heap.size := by rw [← hW2]; simp
      have h3 : (W3.putObj (B + 1) (recO B fn t ps assign body st j)).heap.size = W3.heap.size := by simp
      omega, fun k o hBk hko ho => by
      rw [World.putObj_heap_other (show k ≠ B + 1 by omega)]
      refine hk.same k o (by omega) ?_ ho
      rw [← hW2, World.putObj_heap_other (show k ≠ B + 1 by omega)]
      exact hko⟩
  intro e a3 W3 hp
  match e, hp with
  | .normal, ⟨hk, hkp, hi3⟩ =>
    obtain ⟨hr, l3, d3⟩ := hend none W3 hk
    obtain ⟨l4, d4⟩ := hafter none .ready W3 l3 d3
    exact ⟨_, _, hr, .inl ⟨rfl, ⟨hI.putObj _ hi3 (by omega) l3 rfl, l4, d4⟩, hKt k2 (hKt hkp (hKb _ _ _ l3 rfl rfl))⟩, hkf _ _ _ hk⟩
  | .ret, ⟨hk, hi3⟩ =>
    obtain ⟨hr, l3, d3⟩ := hend (some .ret) W3 hk
    obtain ⟨l4, d4⟩ := hafter (some .ret) .done W3 l3 d3
    exact ⟨_, _, hr, .inr ⟨rfl, .ret, (hIx _).putObj _ hi3 (by omega) l3 rfl, l4, d4⟩, hkf _ _ _ hk⟩
  | .exit id, ⟨hk, hi3⟩ =>
    obtain ⟨hr, l3, d3⟩ := hend (some (.exit id)) W3 hk
    obtain ⟨l4, d4⟩ := hafter (some (.exit id)) .done W3 l3 d3
    exact ⟨_, _, hr, .inr ⟨rfl, .exit id, (hIx _).putObj _ hi3 (by omega) l3 rfl, l4, d4⟩, hkf _ _ _ hk⟩
  | .goto u, ⟨hk, hi3⟩ =>
    obtain ⟨hr, l3, d3⟩ := hend (some (.goto u)) W3 hk
    obtain ⟨l4, d4⟩ := hafter (some (.goto u)) .done W3 l3 d3
    exact ⟨_, _, hr, .inr ⟨rfl, .goto u, (hIx _).putObj _ hi3 (by omega) l3 rfl, l4, d4⟩, hkf _ _ _ hk⟩
  | .panic _, hp => exact hp.elim
  | .outgrown, hp => exact hp.elim

/-- The law of a range over a function for such an iterator. -/
theorem wpIn_rangeFunc_O {P : Program} {F : Fence} {n : Nat} {α : Type} {g : Operand} {ps : Array Tmp} {assign body : Code} {Q : Exit → Act → World → Prop} {a : Act} {w : World}
    (hro : F.round = none) (h1 : 1 ≤ n) {gf : Nat} {lb : Array Value} (hg : a.eval g = .func (.func gf) #[] lb) (hFg : F.fn gf) (eg : ∀ args w, (callFunc gf args).run P w = .ok (.enter gf args) w)
    {encs : α → Array Value} {Kp : World → World → Prop} {S Sp : List α → Prop} {N c : Nat} {w0 : World} (hseq : SeqO F (n - 1) P gf lb encs Kp S Sp N (w.heap.size + 2) c w0)
    (hKt : ∀ {A B C : World}, Kp A B → Kp B C → Kp A C) (hKb : ∀ (W : World) (o o' : Obj), W.heap[w.heap.size + 1]? = some o → o.isCells = false → o.isWalk = false → Kp W (W.putObj (w.heap.size + 1) o')) (hb0 : Below w0.heap.size w0 w) (hps : ∀ x, (encs x).size = ps.size)
    (I : List α → World → Prop) (Ix : Code → List α → World → Prop) (hI : OwnFrom w.heap.size I) (hIx : ∀ c, OwnFrom w.heap.size (Ix c)) (h0 : I [] w) (A : α → Act)
    (hassign : ∀ (l : Nat) (x : α) (W : World) (K : Act → World → Prop), K (A x) W → assign.wpIn (F.inRound l) (n - 1 - 1) P (Exit.then K (fun _ _ _ => False)) { tmps := (ps.zip (encs x)).foldl (fun t (p, v) => t.setIfInBounds p v) a.tmps, defers := [] } W)
    (hbody : ∀ (l : Nat) (pre : List α) (x : α) (W : World), w.heap.size ≤ l → (∃ r, W.heap[l]? = some (.loop r)) → I pre W → pre.length < N → w.heap.size + 2 + c ≤ W.heap.size → body.wpIn (F.inRound l) (n - 1 - 1) P (ownPostG w.heap.size Kp I Ix (pre ++ [x]) W) (A x) W)
    (hdone : ∀ (D : Nat) (xs : List α) (W : World), w.heap.size ≤ D → S xs → I xs W → w.heap.size + 2 + c ≤ W.heap.size → W.heap[D]? = some (.deferred (some [])) → Q .normal { a with defers := { target := .collected D, args := #[] } :: a.defers } W)
    (hstop : ∀ (D : Nat) (c : Code) (pre : List α) (W : World), w.heap.size ≤ D → Sp pre → Ix c pre W → W.heap[D]? = some (.deferred (some [])) → c.wpIn F n P Q { a with defers := { target := .collected D, args := #[] } :: a.defers } W) :
    (Code.rangeFunc g ps assign body).wpIn F n P Q a w := by
  refine wpIn_rangeFunc fun fn hfn => ?_
  obtain ⟨B, hB⟩ : ∃ B, w.heap.size = B := ⟨_, rfl⟩
  rw [hB] at hseq hKb hI hIx hbody hdone hstop
  obtain ⟨W1, hW1⟩ : ∃ W1, (w.alloc (.deferred (some []))).alloc (recO B fn a.tmps ps assign body .ready none) = W1 := ⟨_, rfl⟩
  have hs1 : W1.heap.size = B + 2 := by rw [← hW1, ← hB]; simp
  have l1 : W1.heap[B + 1]? = some (recO B fn a.tmps ps assign body .ready none) := by rw [← hW1, ← hB]; exact heap_alloc2_new w _ _
  have d1 : W1.heap[B]? = some (.deferred (some [])) := by rw [← hW1, ← hB]; exact heap_alloc2_old w _ _
  have i1 : I [] W1 := by rw [← hW1]; exact hI.alloc _ (hI.alloc _ h0)
  have b1 : Below w0.heap.size w0 W1 := by
    rw [← hW1]; exact hb0.trans ((((Below.refl _ w).alloc (Nat.le_refl _) _).alloc (by simp) _).mono hb0.size)
  refine ⟨B + 1, [{ target := .collected B, args := #[] }], W1, { target := .fn (.func gf) lb, args := #[.func (.yield (B + 1)) #[] #[]] }, W1, gf, #[.func (.yield (B + 1)) #[] #[]] ++ lb, W1, ?_, ?_, ?_, ?_, fun _ => h1, ?_⟩
  · rw [hro, ← hW1, ← hB]; exact run_enterLoop_outer _ _ _ _ _
  · simp only [resolve, hg]; simp [go_sem]
  · intro f' hf'; simp [Target.leads] at hf'; subst hf'; exact hFg
  · simp [invoke, go_sem, eg]
  · refine (hseq (B + 1) (fun pre W => I pre W ∧ W.heap[B + 1]? = some (recO B fn a.tmps ps assign body .ready none) ∧ W.heap[B]? = some (.deferred (some [])))
      (fun pre W => ∃ c, Ix c pre W ∧ W.heap[B + 1]? = some (recO B fn a.tmps ps assign body .done (some c)) ∧ W.heap[B]? = some (.deferred (some []))) W1 b1 hs1
      (OwnFrom.both (OwnFrom.later hI (show B ≤ B + 2 by omega)) (OwnFrom.both (OwnFrom.block (show B + 1 < B + 2 by omega)) (OwnFrom.block (show B < B + 2 by omega))))
      (OwnFrom.some fun c => OwnFrom.both (OwnFrom.later (hIx c) (show B ≤ B + 2 by omega)) (OwnFrom.both (OwnFrom.block (show B + 1 < B + 2 by omega)) (OwnFrom.block (show B < B + 2 by omega))))
      (fun pre x W hJ hlen hC => yield_O (Kp := Kp) hfn hps hKt hKb hI hIx (fun W K => hassign (B + 1) x W K) hC (fun W hr hi hC => hbody (B + 1) pre x W (by omega) hr hi hlen hC) hJ.1 hJ.2.1 hJ.2.2) ⟨i1, l1, d1⟩).mono ?_
    rintro e W2 ⟨⟨v, rfl⟩, (⟨xs, hS, ⟨hi, hl, hd⟩, hc⟩ | ⟨pre, hSp, c, hi, hl, hd⟩)⟩
    · exact ⟨none, _, run_endLoop hl (by simp), hdone B xs _ (Nat.le_refl _) hS (hI.putObj _ hi (by omega) hl rfl) (by simp; omega) ((World.putObj_heap_other (by omega)).trans hd)⟩
    · exact ⟨some c, _, run_endLoop hl (by simp), hstop B c pre _ (Nat.le_refl _) hSp ((hIx c).putObj _ hi (by omega) hl rfl) ((World.putObj_heap_other (by omega)).trans hd)⟩

end Go.Proofs.YtoepbhacpidcbaaGreatDoor
