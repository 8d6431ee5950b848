/- Nearest first comes to the least sums by steps: plain. -/

import Derived.Test.YtoepbhacpidcbaaGreatDoorQBase
import Derived.Test.YtoepbhacpidcbaaGreatDoorQIdx
import Derived.Test.YtoepbhacpidcbaaGreatDoorQIdxB
import Derived.Test.YtoepbhacpidcbaaGreatDoorQPerm
import Derived.Test.YtoepbhacpidcbaaGreatDoorQRef
import Derived.Test.YtoepbhacpidcbaaGreatDoorQBig
import Derived.Test.YtoepbhacpidcbaaGreatDoorQUnref
import Derived.Test.YtoepbhacpidcbaaGreatDoorQUnE
import Derived.Test.YtoepbhacpidcbaaGreatDoorQItr
import Derived.Test.YtoepbhacpidcbaaGreatDoorQDst
import Derived.Test.YtoepbhacpidcbaaGreatDoorQLnk
import Derived.Test.YtoepbhacpidcbaaGreatDoorQRow2
import Derived.Test.YtoepbhacpidcbaaGreatDoorQGr
import Derived.Test.YtoepbhacpidcbaaGreatDoorQGOps
import Derived.Test.YtoepbhacpidcbaaGreatDoorQBld
import Derived.Test.YtoepbhacpidcbaaGreatDoorQBW
import Derived.Test.YtoepbhacpidcbaaGreatDoorQHpK
import Derived.Test.YtoepbhacpidcbaaGreatDoorQG8
import Derived.Test.YtoepbhacpidcbaaGreatDoorQSqO
import Derived.Test.YtoepbhacpidcbaaGreatDoorQGoes
import Derived.Test.YtoepbhacpidcbaaGreatDoorQUp
import Derived.Test.YtoepbhacpidcbaaGreatDoorQSetP
import Derived.Test.YtoepbhacpidcbaaGreatDoorQWay
import Derived.Test.YtoepbhacpidcbaaGreatDoorQIn1
import Derived.Test.YtoepbhacpidcbaaGreatDoorQAll
import Derived.Test.YtoepbhacpidcbaaGreatDoorQAw6
import Derived.Test.YtoepbhacpidcbaaGreatDoorQMe
import Derived.Test.YtoepbhacpidcbaaGreatDoorQDv1

set_option linter.unusedVariables false
namespace Go.Proofs.YtoepbhacpidcbaaGreatDoor

/-- The edges that are told are the steps that M says. -/
structure EdM (n : Nat) (E : Edges) (M : Mat) : Prop where
  ok : ∀ u, u < n → ∀ e ∈ E u, e.1 < n ∧ Bd e.2 ∧ (u = e.1 ∨ M u e.1 ≤ e.2)
  ex : ∀ u w, u < n → w < n → u ≠ w → M u w = 4611686018427387906 ∨ (w, M u w) ∈ E u

theorem SFarT.lst {n s : Nat} {E : Edges} {M : Mat} {U : Nat → Int} (hM : ∀ i j, Bd (M i j)) (he : EdM n E M) (hs : s < n) (h : SFarT n E [(s, 0)] (fun _ _ => False) U) : Lst n M s U := by
  refine ⟨h.rng, ?_, fun u w hu hw hne => ?_, fun K hK h0 hcl v hv => ?_⟩
  · have h1 : U s ≤ 0 := h.ini (s, 0) (by simp)
    have h2 := (h.rng s hs).1
    omega
  · rcases he.ex u w hu hw hne with e | e
    · rw [e, tw_comm, tw_none]; exact (h.rng w hw).2
    · have h1 := (h.out u hu).resolve_right (fun h => h) _ e
      rw [ad_tw (h.rng u hu) (hM u w)] at h1
      exact h1
  · have hg : SGood n E [(s, 0)] (fun v => if v < n then K v else 0) := by
      refine ⟨fun v => ?_, fun e h1 => ?_, fun v hv e h1 d hd h2 h3 => ?_⟩
      · show (if v < n then K v else 0) ≤ 4611686018427387906
        split
        · rename_i h; exact (hK v h).2
        · omega
      · have : e = (s, 0) := by simpa using h1
        subst this
        show (if s < n then K s else 0) ≤ 0
        rw [if_pos hs, h0]; omega
      · obtain ⟨h4, h5, h6⟩ := he.ok v hv e h1
        simp only [if_pos hv] at hd
        show (if e.1 < n then K e.1 else 0) ≤ ad d e.2
        rw [if_pos h4, ad_tw ⟨h2, h3⟩ h5]
        rcases h6 with h6 | h6
        · rw [← h6]
          exact Int.le_trans hd (tw_le ⟨h2, h3⟩ h5)
        · by_cases hne : v = e.1
          · rw [← hne]; exact Int.le_trans hd (tw_le ⟨h2, h3⟩ h5)
          · exact Int.le_trans (hcl v e.1 hv h4 hne) (tw_mono (hK v hv).1 (hM v e.1).1 hd h6 h3 h5.2)
    have := h.low _ hg v hv
    simp only [if_pos hv] at this
    exact this

/-- The edges of ways in. -/
def iE (x : Ix) (fl : Nat) : Edges := fun v => if x.rk v < fl then x.ued true v else []
theorem iE_M {x : Ix} (hok : x.Ok) (fl : Nat) : EdM x.n (iE x fl) (iM x fl) := by
  refine ⟨fun u hu e he => ?_, fun u w hu hw hne => ?_⟩
  · unfold iE at he
    by_cases hf : x.rk u < fl
    · rw [if_pos hf] at he
      obtain ⟨h1, h2, h3⟩ := hok.ued_mem hu he
      have hne : e.1 ≠ u := fun h => by rw [h] at h2; omega
      refine ⟨h1, by rw [h3]; exact hok.ew_b true u e.1, .inr ?_⟩
      unfold iM
      rw [if_pos ⟨hf, h2⟩, at_nat (two_nat h1 hu hne), h3]
      exact Int.le_refl _
    · rw [if_neg hf] at he; cases he
  · unfold iM iE
    by_cases hf : x.rk u < fl ∧ x.rk u < x.rk w
    · rw [if_pos hf, if_pos hf.1, at_nat (two_nat hw hu (fun h => hne h.symm))]
      rcases hok.ued_or true hu hw hf.2 with h | h
      · exact .inr h
      · exact .inl h
    · rw [if_neg hf]; exact .inl rfl

/-- The edges of ways out. -/
def oE (G : Gr) (x : Ix) (fl : Nat) : Edges := fun v => if x.rk v < fl then x.ued false v else
  (G.upL x fl (selI (G.outs (v : Nat)))).map (fun el => ((G.arc el.1.1.toNat).h.toNat, (G.arc el.1.1.toNat).w)) ++ (x.dvTo v fl).map (fun el => (x.by_ el.1, (x.at_ (v : Nat) (x.by_ el.1 : Nat)).w))
theorem Ix.dvTo_mem (x : Ix) (v : Nat) (el : x.DvEl v) : ∀ k, el ∈ x.dvTo v k ↔ el.1 < k
  | 0 => by unfold Ix.dvTo; simp
  | k + 1 => by
    rw [Ix.dvTo_succ]
    split
    · rename_i h
      rw [List.mem_append, Ix.dvTo_mem x v el k, List.mem_singleton]
      constructor
      · rintro (h1 | rfl)
        · omega
        · show k < k + 1; omega
      · intro h1
        by_cases e : el.1 = k
        · exact .inr (Subtype.ext e)
        · exact .inl (by omega)
    · rename_i h
      rw [Ix.dvTo_mem x v el k]
      constructor
      · intro h1; omega
      · intro h1
        by_cases e : el.1 = k
        · exact absurd (e ▸ el.2) h
        · omega

theorem Gr.upL_mem (G : Gr) (x : Ix) (fl : Nat) (zs : List Id64) (el : G.UpEl x fl) : el ∈ G.upL x fl zs ↔ el.1 ∈ zs := by
  unfold Gr.upL
  rw [List.mem_filterMap]
  constructor
  · rintro ⟨a, ha, h⟩
    split at h
    · injection h with h; rw [← h]; exact ha
    · cases h
  · intro h
    exact ⟨el.1, h, by rw [dif_pos el.2]⟩
theorem selI_in (p : Nat → Bool) (z : Id64) : z ∈ selI p ↔ ∃ k : Nat, k < 64 ∧ p k = true ∧ z.1 = k := by
  unfold selI
  simp only [List.mem_map, List.mem_filter, List.mem_range]
  constructor
  · rintro ⟨k, ⟨h1, h2⟩, rfl⟩
    exact ⟨k, h1, h2, toId_val h1⟩
  · rintro ⟨k, h1, h2, h3⟩
    exact ⟨k, ⟨h1, h2⟩, Subtype.ext (by rw [toId_val h1, h3])⟩
theorem oE_M {G : Gr} {x : Ix} (hok : x.Ok) (hw : G.Wt) (hd : G.Hd x.n) {fl : Nat} (hfl : fl ≤ x.n) : EdM x.n (oE G x fl) (oM G x fl) := by
  refine ⟨fun u hu e he => ?_, fun u w hu hw' hne => ?_⟩
  · unfold oE at he
    by_cases hf : x.rk u < fl
    · rw [if_pos hf] at he
      obtain ⟨h1, h2, h3⟩ := hok.ued_mem hu he
      have hne : u ≠ e.1 := fun h => by rw [← h] at h2; omega
      refine ⟨h1, by rw [h3]; exact hok.ew_b false u e.1, .inr ?_⟩
      unfold oM
      rw [if_pos hf, if_pos h2, at_nat (two_nat hu h1 hne), h3]
      exact Int.le_refl _
    · rw [if_neg hf, List.mem_append, List.mem_map, List.mem_map] at he
      rcases he with ⟨el, hel, rfl⟩ | ⟨el, hel, rfl⟩
      · rw [Gr.upL_mem, selI_in] at hel
        obtain ⟨k, hk, hout, hz⟩ := hel
        have hz' : el.1.1.toNat = k := by rw [hz]; exact Int.toNat_natCast k
        have h2 := el.2
        rw [hz'] at h2 ⊢
        obtain ⟨p1, p2⟩ := hd.2 k hk
        have ho : G.tk k = true ∧ (G.arc k).t = u := by
          unfold Gr.outs at hout
          simpa using hout
        obtain ⟨g, hg⟩ := Int.eq_ofNat_of_zero_le p1
        have hgn : g < x.n := by omega
        have hrk : x.rank (G.arc k).h = x.rk g := by
          rw [hg]; unfold Ix.rank; rw [if_pos ⟨by omega, by omega⟩]; simp
        have hb := hw k hk ho.1
        have hl := G.best_least hk ho.1 h2.1
        have h3 := h2.2
        rw [hrk] at h3
        rw [ho.2] at hl
        have ht : (G.arc k).h.toNat = g := by rw [hg]; simp
        rw [ht]
        refine ⟨hgn, ⟨by show 0 ≤ (G.arc k).w; omega, by show (G.arc k).w ≤ _; omega⟩, .inr ?_⟩
        unfold oM
        simp only []
        rw [if_neg hf, if_neg (by omega)]
        unfold Gr.bst
        rw [hg] at hl
        exact hl
      · rw [Ix.dvTo_mem] at hel
        obtain ⟨h1, h2⟩ := hok.by_ el.1 el.2.1
        refine ⟨h1, (by have := hok.at_b (u : Nat) (x.by_ el.1 : Nat); exact ⟨by show 0 ≤ (x.at_ (u : Nat) (x.by_ el.1 : Nat)).w; omega, this.2⟩), .inr ?_⟩
        unfold oM
        simp only []
        rw [if_neg hf, if_pos (by rw [h2]; exact hel)]
        exact Int.le_refl _
  · unfold oM oE
    by_cases hf : x.rk u < fl
    · rw [if_pos hf, if_pos hf]
      by_cases hlt : x.rk u < x.rk w
      · rw [if_pos hlt, at_nat (two_nat hu hw' hne)]
        rcases hok.ued_or false hu hw' hlt with h | h
        · exact .inr h
        · exact .inl h
      · rw [if_neg hlt]; exact .inl rfl
    · rw [if_neg hf, if_neg hf]
      by_cases hwf : x.rk w < fl
      · rw [if_pos hwf]
        by_cases hnone : (x.at_ (u : Nat) (w : Nat)).w = 4611686018427387906
        · exact .inl hnone
        · right
          rw [List.mem_append]; right
          rw [List.mem_map]
          have hb := (hok.rk w hw')
          exact ⟨⟨x.rk w, hb.1, by rw [hb.2]; exact hnone⟩, (Ix.dvTo_mem x u _ fl).2 hwf, by simp only [hb.2]⟩
      · rw [if_neg hwf]
        rcases G.best_is (u : Nat) (w : Nat) with e | ⟨k, hk, htk, ht, hh, hc, hlt, e⟩
        · left; unfold Gr.bst; rw [e]
        · right
          rw [List.mem_append]; left
          have hv : (toId k).1.toNat = k := by rw [toId_val hk]; exact Int.toNat_natCast k
          have hrk : x.rank (G.arc k).h = x.rk w := by
            rw [hh]; unfold Ix.rank; rw [if_pos ⟨by omega, by omega⟩]; simp
          rw [List.mem_map]
          refine ⟨⟨toId k, by rw [hv]; exact ⟨hc, by rw [hrk]; omega⟩⟩, (Gr.upL_mem _ _ _ _ _).2 ((selI_in _ _).2 ⟨k, hk, by unfold Gr.outs; simp [htk, ht], toId_val hk⟩), ?_⟩
          simp only [hv]
          rw [hh]
          unfold Gr.bst
          rw [e]
          simp

end Go.Proofs.YtoepbhacpidcbaaGreatDoor
/- Steps; by which step each vertex is reached: plain. -/
set_option linter.unusedVariables false
set_option linter.unusedSimpArgs false
namespace Go.Proofs.YtoepbhacpidcbaaGreatDoor
open Go.RowKit Go.Deep

/-- A step along an arc, or along an entry; how long it is. -/
inductive Stp where
  | arc (i t h g : Int) (c : Bool)
  | ent (a b g : Int)
def Stp.val : Stp → Value
  | .arc i t h g c => .iface 252 (.agg #[.int .i64 i, .int .i64 t, .int .i64 h, .int .i64 g, .bool c])
  | .ent a b _ => .iface 224 (.agg #[.int .i64 a, .int .i64 b])
def Stp.w : Stp → Int
  | .arc _ _ _ g _ => g
  | .ent _ _ g => g
def Stp.fr : Stp → Int
  | .arc _ t _ _ _ => t
  | .ent a _ _ => a
def Stp.to : Stp → Int
  | .arc _ _ h _ _ => h
  | .ent _ b _ => b
/-- Where a step leads, and where it comes from; against it the other way round. -/
def Stp.key (ag : Bool) (e : Stp) : Int := if ag then e.fr else e.to
def Stp.src (ag : Bool) (e : Stp) : Int := if ag then e.to else e.fr
abbrev StEl (n : Nat) (ag : Bool) := { e : Stp // 0 ≤ e.key ag ∧ e.key ag < n }
def stEnc {n : Nat} {ag : Bool} (el : StEl n ag) : Array Value := #[el.1.val, .int .i64 el.1.w]
def stEdge {n : Nat} {ag : Bool} (el : StEl n ag) : Nat × Int := ((el.1.key ag).toNat, el.1.w)
abbrev By := Nat → Option Stp
def ByUp (b : By) (k : Nat) (e : Stp) : By := fun i => if i = k then some e else b i
/-- What is nil, or a step. -/
def byV : Option Stp → Value
  | none => .nilIface
  | some e => e.val

/-- How far it is, and by which step, corrected by one step. -/
def rxb (ag : Bool) (d : Int) (p : SpS × By) (e : Stp) : SpS × By :=
  (relax d p.1 ((e.key ag).toNat, e.w), if ad d e.w < p.1.far (e.key ag).toNat then ByUp p.2 (e.key ag).toNat e else p.2)
def rxs {n : Nat} {ag : Bool} (d : Int) (p : SpS × By) (l : List (StEl n ag)) : SpS × By := l.foldl (fun p el => rxb ag d p el.1) p
theorem rxs_snoc {n : Nat} {ag : Bool} (d : Int) (p : SpS × By) (l : List (StEl n ag)) (el : StEl n ag) : rxs d p (l ++ [el]) = rxb ag d (rxs d p l) el.1 := by
  unfold rxs; rw [List.foldl_append]; rfl
theorem rxs_fst {n : Nat} {ag : Bool} (d : Int) : ∀ (l : List (StEl n ag)) (p : SpS × By), (rxs d p l).1 = (l.map stEdge).foldl (relax d) p.1
  | [], p => rfl
  | el :: l, p => by
    show (rxs d (rxb ag d p el.1) l).1 = _
    rw [rxs_fst d l]
    rfl
theorem rxb_far {ag : Bool} {d : Int} {p : SpS × By} {e : Stp} (h : ¬ ad d e.w < p.1.far (e.key ag).toNat) : rxb ag d p e = p := by
  unfold rxb
  rw [if_neg h]
  unfold relax
  rw [if_neg h]
theorem rxb_near {ag : Bool} {d : Int} {p : SpS × By} {e : Stp} (h : ad d e.w < p.1.far (e.key ag).toNat) :
    rxb ag d p e = (⟨updI p.1.far (e.key ag).toNat (ad d e.w), setS p.1.S (e.key ag).toNat true, putP p.1.S p.1.pr (e.key ag).toNat (ad d e.w)⟩, ByUp p.2 (e.key ag).toNat e) := by
  unfold rxb
  rw [if_pos h]
  unfold relax
  rw [if_pos h]

/-- Each vertex that is reached is reached by a step from one that is no farther than it was. -/
structure ByOk {n : Nat} {ag : Bool} (SL : Nat → List (StEl n ag)) (s : Nat) (far : Nat → Int) (b : By) : Prop where
  f0 : far s = 0
  s0 : b s = none
  no : ∀ v, v < n → v ≠ s → b v = none → far v = 4611686018427387906
  yes : ∀ v, v < n → ∀ e, b v = some e → ∃ u, u < n ∧ (∃ el ∈ SL u, el.1 = e) ∧ e.key ag = (v : Nat) ∧ ∃ d, far u ≤ d ∧ 0 ≤ d ∧ d ≤ 4611686018427387906 ∧ far v = ad d e.w
theorem ByOk.first {n : Nat} {ag : Bool} {SL : Nat → List (StEl n ag)} {s : Nat} : ByOk SL s (fun v => if v = s then 0 else 4611686018427387906) (fun _ => none) :=
  ⟨if_pos rfl, rfl, fun v _ h _ => if_neg h, fun v _ e h => by cases h⟩
theorem ByOk.step {n : Nat} {ag : Bool} {SL : Nat → List (StEl n ag)} {s u : Nat} {d : Int} {p : SpS × By} (h : ByOk SL s p.1.far p.2) (hu : u < n) (hd : 0 ≤ d ∧ d ≤ 4611686018427387906) (hfu : p.1.far u ≤ d) {el : StEl n ag} (hel : el ∈ SL u) (hw : 1 ≤ el.1.w ∧ el.1.w ≤ 4611686018427387906) :
    ByOk SL s (rxb ag d p el.1).1.far (rxb ag d p el.1).2 ∧ (rxb ag d p el.1).1.far u ≤ d := by
  have hb := ad_b hd hw
  have hk := el.2
  by_cases hlt : ad d el.1.w < p.1.far (el.1.key ag).toNat
  · rw [rxb_near hlt]
    obtain ⟨k, hk'⟩ : ∃ k, (el.1.key ag).toNat = k := ⟨_, rfl⟩
    have hkk : el.1.key ag = (k : Nat) := by omega
    rw [hk'] at hlt ⊢
    have hks : s ≠ k := fun e => by rw [← e, h.f0] at hlt; omega
    have hmono : ∀ i, updI p.1.far k (ad d el.1.w) i ≤ p.1.far i := fun i => by
      unfold updI
      by_cases e : i = k
      · rw [if_pos e, e]; omega
      · rw [if_neg e]; exact Int.le_refl _
    refine ⟨⟨?_, ?_, fun v hv hvs hbv => ?_, fun v hv e hbv => ?_⟩, Int.le_trans (hmono u) hfu⟩
    · show updI p.1.far k (ad d el.1.w) s = 0
      rw [updI_ne _ _ hks]; exact h.f0
    · show (if s = k then some el.1 else p.2 s) = none
      rw [if_neg hks]; exact h.s0
    · have hbv : (if v = k then some el.1 else p.2 v) = none := hbv
      by_cases e : v = k
      · rw [if_pos e] at hbv; cases hbv
      · rw [if_neg e] at hbv
        show updI p.1.far k (ad d el.1.w) v = _
        rw [updI_ne _ _ e]; exact h.no v hv hvs hbv
    · replace hbv : (if v = k then some el.1 else p.2 v) = some e := hbv
      by_cases ev : v = k
      · rw [if_pos ev] at hbv
        have he : el.1 = e := Option.some.inj hbv
        subst ev
        refine ⟨u, hu, ⟨el, hel, he⟩, by rw [← he]; exact hkk, d, Int.le_trans (hmono u) hfu, hd.1, hd.2, ?_⟩
        rw [← he]
        exact updI_eq _ _ _
      · rw [if_neg ev] at hbv
        obtain ⟨u', hu', h1, h2, d', h3, h4, h5, h6⟩ := h.yes v hv e hbv
        exact ⟨u', hu', h1, h2, d', Int.le_trans (hmono u') h3, h4, h5, by
          show updI p.1.far k (ad d el.1.w) v = _
          rw [updI_ne _ _ ev]; exact h6⟩
  · rw [rxb_far hlt]
    exact ⟨h, hfu⟩
theorem ByOk.steps {n : Nat} {ag : Bool} {SL : Nat → List (StEl n ag)} {s u : Nat} {d : Int} (hu : u < n) (hd : 0 ≤ d ∧ d ≤ 4611686018427387906) : ∀ (l : List (StEl n ag)) (p : SpS × By), (∀ el ∈ l, el ∈ SL u ∧ 1 ≤ el.1.w ∧ el.1.w ≤ 4611686018427387906) →
    ByOk SL s p.1.far p.2 → p.1.far u ≤ d → ByOk SL s (rxs d p l).1.far (rxs d p l).2
  | [], p, _, h, _ => h
  | el :: l, p, hl, h, hf => by
    have h1 := hl el (by simp)
    obtain ⟨a, b⟩ := h.step hu hd hf h1.1 h1.2
    exact ByOk.steps hu hd l (rxb ag d p el.1) (fun e he => hl e (by simp [he])) a b

/-- At the end each vertex that is reached is as far as its step from where that comes from. -/
structure ByR {n : Nat} {ag : Bool} (SL : Nat → List (StEl n ag)) (s : Nat) (U : Nat → Int) (b : By) : Prop where
  s0 : b s = none
  no : ∀ v, v < n → v ≠ s → b v = none → U v = 4611686018427387906
  yes : ∀ v, v < n → ∀ e, b v = some e → ∃ u, u < n ∧ (∃ el ∈ SL u, el.1 = e) ∧ e.key ag = (v : Nat) ∧ U v = ad (U u) e.w
theorem ByOk.last {n : Nat} {ag : Bool} {SL : Nat → List (StEl n ag)} {E : Edges} {I : List (Nat × Int)} {s : Nat} {U : Nat → Int} {b : By} (h : ByOk SL s U b) (hE : ∀ v, v < n → E v = (SL v).map stEdge) (hO : ∀ v, v < n → EOk n (E v)) (hf : SFarT n E I (fun _ _ => False) U) : ByR SL s U b := by
  refine ⟨h.s0, h.no, fun v hv e hb => ?_⟩
  obtain ⟨u, hu, ⟨el, hel, he⟩, hk, d, h1, h2, h3, h4⟩ := h.yes v hv e hb
  refine ⟨u, hu, ⟨el, hel, he⟩, hk, ?_⟩
  have hm : stEdge el ∈ E u := by rw [hE u hu]; exact List.mem_map.2 ⟨el, hel, rfl⟩
  have hok := hO u hu _ hm
  have hin : U (stEdge el).1 ≤ ad (U u) (stEdge el).2 := by
    rcases hf.out u hu with h5 | h5
    · exact h5 _ hm
    · exact h5.elim
  have e1 : (stEdge el).1 = v := by show (el.1.key ag).toNat = v; rw [he, hk]; exact Int.toNat_natCast v
  have e2 : (stEdge el).2 = e.w := by show el.1.w = e.w; rw [he]
  rw [e1, e2] at hin
  rw [e2] at hok
  have hmo := ad_mono (hf.rng u hu).1 h1 h3 hok.2
  omega

end Go.Proofs.YtoepbhacpidcbaaGreatDoor
/- By an index that is right below a floor it is as far by ways out, and then in, as in the graph: plain. -/
set_option linter.unusedVariables false
set_option linter.unusedSimpArgs false
namespace Go.Proofs.YtoepbhacpidcbaaGreatDoor
open Go.RowKit Go.Deep

/-- x is the index Y below the floor. -/
structure Blw (x Y : Ix) (fl : Nat) : Prop where
  n : Y.n = x.n
  rk : Y.rk = x.rk
  by_ : Y.by_ = x.by_
  e : ∀ u v, u < x.n → v < x.n → u ≠ v → min (x.rk u) (x.rk v) < fl → x.ent u v = Y.ent u v
theorem Blw.refl (x : Ix) (fl : Nat) : Blw x x fl := ⟨rfl, rfl, rfl, fun _ _ _ _ _ _ => rfl⟩
theorem Blw.zero {x Y : Ix} (hn : Y.n = x.n) (hr : Y.rk = x.rk) (hb : Y.by_ = x.by_) : Blw x Y 0 := ⟨hn, hr, hb, fun _ _ _ _ _ h => absurd h (by omega)⟩

section
variable {G : Gr} {x Y : Ix} {fl : Nat} (hB : Blw x Y fl) (h : Whole G Y) (hok : Y.Ok) (hx : x.Ok) (ho : G.Ok) (hw : G.Wt) (hn : G.n = x.n)
include hB h hok hx ho hw hn

theorem Blw.at_w {u v : Nat} (hu : u < x.n) (hv : v < x.n) (hne : u ≠ v) (hm : min (x.rk u) (x.rk v) < fl) : (x.at_ (u : Nat) (v : Nat)).w = (Y.ent u v).w := by
  have _ := And.intro h (And.intro hok (And.intro hx (And.intro ho (And.intro hw hn))))
  rw [at_nat (two_nat hu hv hne), hB.e u v hu hv hne hm]
theorem Blw.far_ent {u v : Nat} (hu : u < x.n) (hv : v < x.n) (hne : u ≠ v) : G.far u v ≤ (Y.ent u v).w :=
  have _ := And.intro hx ho
  h.far_ent hok hw (by rw [hB.n]; exact hn) (by rw [hB.n]; exact hu) (by rw [hB.n]; exact hv) hne
theorem Blw.oM_far {u v : Nat} (hu : u < x.n) (hv : v < x.n) (hne : u ≠ v) : G.far u v ≤ oM G x fl u v := by
  have hb := Gr.far_b hw u v (by omega) (by omega)
  unfold oM
  split
  · split
    · rw [hB.at_w h hok hx ho hw hn hu hv hne (by omega)]; exact hB.far_ent h hok hx ho hw hn hu hv hne
    · exact hb.2
  · split
    · rw [hB.at_w h hok hx ho hw hn hu hv hne (by omega)]; exact hB.far_ent h hok hx ho hw hn hu hv hne
    · exact Gr.far_bst hw (by omega) (by omega)
theorem Blw.iM_far {u v : Nat} (hu : u < x.n) (hv : v < x.n) (hne : u ≠ v) : G.far u v ≤ iM x fl v u := by
  have hb := Gr.far_b hw u v (by omega) (by omega)
  unfold iM
  split
  · rw [hB.at_w h hok hx ho hw hn hu hv hne (by omega)]; exact hB.far_ent h hok hx ho hw hn hu hv hne
  · exact hb.2
/-- No way out is shorter than a walk. -/
theorem Blw.out_ge {s : Nat} (hs : s < x.n) {U : Nat → Int} (hU : Lst x.n (oM G x fl) s U) : ∀ v, v < x.n → G.far s v ≤ U v :=
  hU.low (fun v => G.far s v) (fun v hv => Gr.far_b hw s v (by omega) (by omega)) (Gr.far_self hw (by omega)) (fun u w hu hw' hne => by
    have h1 := Gr.far_b hw s u (by omega) (by omega)
    have h2 := Gr.far_b hw u w (by omega) (by omega)
    exact Int.le_trans (Gr.far_tri hw (by omega) (show u < G.n by omega) (by omega)) (tw_mono h1.1 h2.1 (Int.le_refl _) (hB.oM_far h hok hx ho hw hn hu hw' hne) h1.2 (oM_b hx hw fl u w).2))
theorem Blw.in_ge {t : Nat} (ht : t < x.n) {W : Nat → Int} (hW : Lst x.n (iM x fl) t W) : ∀ v, v < x.n → G.far v t ≤ W v :=
  hW.low (fun v => G.far v t) (fun v hv => Gr.far_b hw v t (by omega) (by omega)) (Gr.far_self hw (by omega)) (fun u w hu hw' hne => by
    have h1 := Gr.far_b hw u t (by omega) (by omega)
    have h2 := Gr.far_b hw w u (by omega) (by omega)
    refine Int.le_trans (Gr.far_tri hw (show w < G.n by omega) (show u < G.n by omega) (by omega)) ?_
    rw [tw_comm]
    exact tw_mono h1.1 h2.1 (Int.le_refl _) (hB.iM_far h hok hx ho hw hn hw' hu (fun e => hne e.symm)) h1.2 (iM_b hx fl u w).2)

theorem Blw.least {l : List Nat} {u v : Nat} (hu : u < x.n) (hv : v < x.n) (hne : u ≠ v) (hk : Wk G u l v) (hz : ∀ z ∈ G.mds l, x.rk z < min (x.rk u) (x.rk v)) : (Y.ent u v).w ≤ sat (G.len l) :=
  have _ := hx
  h.least' hok ho hw (by rw [hB.n]; exact hn) l.length l u v (Nat.le_refl _) (by rw [hB.n]; exact hu) (by rw [hB.n]; exact hv) hne hk (fun z hz' => by rw [hB.rk]; exact .inr (.inr (hz z hz')))

/-- Along a walk that is as short as can be, by steps of ways out. -/
theorem Blw.out_le {s : Nat} {U : Nat → Int} (hU : Lst x.n (oM G x fl) s U) : ∀ (N : Nat) (l : List Nat) (u b : Nat), l.length ≤ N → u < x.n → b < x.n → u ≠ b → G.Sh u l b →
    (fl ≤ x.rk b ∨ ((∀ z ∈ G.mds l, x.rk z < x.rk b) ∧ (fl ≤ x.rk u ∨ x.rk u < x.rk b))) → U b ≤ tw (U u) (sat (G.len l)) := by
  intro N
  induction N with
  | zero =>
    intro l u b hl _ _ hne hS _
    have : l = [] := List.length_eq_zero_iff.1 (by omega)
    subst this
    exact absurd hS.1 hne
  | succ N ih =>
    intro l u b hl hu hb hne hS hc
    have hlen := sat_b (hS.1.len0 hw)
    have bU := hU.b u hu
    have step : oM G x fl u b ≤ sat (G.len l) → U b ≤ tw (U u) (sat (G.len l)) := fun hle =>
      Int.le_trans (hU.tri u b hu hb hne) (tw_mono bU.1 (oM_b hx hw fl u b).1 (Int.le_refl _) hle bU.2 hlen.2)
    have direct : ¬ (fl ≤ x.rk u ∧ fl ≤ x.rk b) → (fl ≤ x.rk u ∨ x.rk u < x.rk b) → (∀ z ∈ G.mds l, x.rk z < min (x.rk u) (x.rk b)) → U b ≤ tw (U u) (sat (G.len l)) := fun h1 h2 h3 => by
      refine step ?_
      have hle := hB.least h hok hx ho hw hn hu hb hne hS.1 h3
      have hat := hB.at_w h hok hx ho hw hn hu hb hne (by omega)
      unfold oM
      by_cases hf : x.rk u < fl
      · rw [if_pos hf, if_pos (by omega), hat]; exact hle
      · rw [if_neg hf, if_pos (by omega), hat]; exact hle
    by_cases h0 : G.mds l = []
    · by_cases hbo : fl ≤ x.rk u ∧ fl ≤ x.rk b
      · match l, hS with
        | [], hS => exact absurd hS.1 hne
        | [k], hS =>
          obtain ⟨k1, k2, k3, k4, k5⟩ := hS.1
          have hok' := ho.arc k k1 k2
          have hb1 : G.bst u b ≤ (G.arc k).w := Gr.bst_arc k1 k2 k3 k4 (by have k5 : (G.arc k).h.toNat = b := k5; omega)
          have hwk := hw k k1 k2
          refine step ?_
          unfold oM
          rw [if_neg (by omega), if_neg (by omega), Gr.len_cons, Gr.len_nil, Int.add_zero, sat_id hwk.2]
          exact hb1
        | k :: k' :: l', hS => exact absurd h0 (by simp [Gr.mds])
      · exact direct hbo (by omega) (fun z hz => by rw [h0] at hz; cases hz)
    · obtain ⟨m, hm, htop⟩ := top_of x.rk (G.mds l) h0
      have hmn : m < x.n := by rw [← hn]; exact hS.1.mds_lt ho hm
      have hmu : u ≠ m := fun e => hS.first_new hw (by rw [e]; exact hm)
      have hmb : m ≠ b := fun e => hS.end_new hw (by rw [← e]; exact hm)
      have iu : x.rk u ≠ x.rk m := fun e => hmu (hx.inj hu hmn e)
      have ib : x.rk m ≠ x.rk b := fun e => hmb (hx.inj hmn hb e)
      by_cases hd : ¬ (fl ≤ x.rk u ∧ fl ≤ x.rk b) ∧ x.rk m < x.rk u ∧ x.rk m < x.rk b
      · exact direct hd.1 (by omega) (fun z hz => by have := htop z hz; omega)
      · obtain ⟨a, c, e, ha, hc', h1, h2, h3, h4⟩ := hS.1.at hm
        have la : 0 < a.length := List.length_pos_iff.2 ha
        have lc : 0 < c.length := List.length_pos_iff.2 hc'
        have hll : l.length = a.length + c.length := by rw [e, List.length_append]
        have hS' := hS
        rw [e] at hS'
        obtain ⟨sa, sc⟩ := hS'.cut h1 h2
        have hmb' : x.rk m < x.rk b ∨ fl ≤ x.rk b := by
          rcases hc with hc | hc
          · exact .inr hc
          · exact .inl (hc.1 m hm)
        have i1 := ih a u m (by omega) hu hmn hmu sa (by
          by_cases hf : fl ≤ x.rk m
          · exact .inl hf
          · refine .inr ⟨fun z hz => ?_, by omega⟩
            have hzn : z < x.n := by rw [← hn]; exact h1.mds_lt ho hz
            have h5 := htop z (h3 z hz)
            have h6 : x.rk z ≠ x.rk m := fun e2 => sa.end_new hw (by rw [← hx.inj hzn hmn e2]; exact hz)
            omega)
        have i2 := ih c m b (by omega) hmn hb hmb sc (by
          rcases hc with hc | hc
          · exact .inl hc
          · exact .inr ⟨fun z hz => hc.1 z (h4 z hz), .inr (hc.1 m hm)⟩)
        have pa := h1.len0 hw
        have pc := h2.len0 hw
        rw [e, Gr.len_app, ← sat_tw pa pc, ← tw_assoc bU (sat_b pa) (sat_b pc)]
        exact Int.le_trans i2 (tw_mono (hU.b m hmn).1 (sat_b pc).1 i1 (Int.le_refl _) (tw_b bU (sat_b pa)).2 (sat_b pc).2)
/-- And by steps of ways in. -/
theorem Blw.in_le {t : Nat} {W : Nat → Int} (hW : Lst x.n (iM x fl) t W) : ∀ (N : Nat) (l : List Nat) (u b : Nat), l.length ≤ N → u < x.n → b < x.n → G.Sh u l b →
    x.rk b < fl → x.rk b < x.rk u → (∀ z ∈ G.mds l, x.rk z < x.rk u ∧ x.rk z < fl) → W u ≤ tw (sat (G.len l)) (W b) := by
  intro N
  induction N with
  | zero =>
    intro l u b hl _ _ hS _ hbu _
    have : l = [] := List.length_eq_zero_iff.1 (by omega)
    subst this
    have : u = b := hS.1
    rw [this] at hbu; omega
  | succ N ih =>
    intro l u b hl hu hb hS hbf hbu hz
    have hne : u ≠ b := fun e => by rw [e] at hbu; omega
    have hlen := sat_b (hS.1.len0 hw)
    have bW := hW.b b hb
    have direct : (∀ z ∈ G.mds l, x.rk z < x.rk b) → W u ≤ tw (sat (G.len l)) (W b) := fun h3 => by
      have hle := hB.least h hok hx ho hw hn hu hb hne hS.1 (fun z hz' => by have := h3 z hz'; omega)
      have hat := hB.at_w h hok hx ho hw hn hu hb hne (by omega)
      refine Int.le_trans (hW.tri b u hb hu (fun e => hne e.symm)) ?_
      rw [tw_comm]
      refine tw_mono (iM_b hx fl b u).1 bW.1 ?_ (Int.le_refl _) hlen.2 bW.2
      unfold iM
      rw [if_pos ⟨hbf, hbu⟩, hat]; exact hle
    by_cases h0 : G.mds l = []
    · exact direct (fun z hz => by rw [h0] at hz; cases hz)
    · obtain ⟨m, hm, htop⟩ := top_of x.rk (G.mds l) h0
      have hmn : m < x.n := by rw [← hn]; exact hS.1.mds_lt ho hm
      have hmb : m ≠ b := fun e => hS.end_new hw (by rw [← e]; exact hm)
      have ib : x.rk m ≠ x.rk b := fun e => hmb (hx.inj hmn hb e)
      by_cases hd : x.rk m < x.rk b
      · exact direct (fun z hz => by have := htop z hz; omega)
      · obtain ⟨a, c, e, ha, hc', h1, h2, h3, h4⟩ := hS.1.at hm
        have la : 0 < a.length := List.length_pos_iff.2 ha
        have lc : 0 < c.length := List.length_pos_iff.2 hc'
        have hll : l.length = a.length + c.length := by rw [e, List.length_append]
        have hS' := hS
        rw [e] at hS'
        obtain ⟨sa, sc⟩ := hS'.cut h1 h2
        have hm' := hz m hm
        have i1 := ih a u m (by omega) hu hmn sa hm'.2 hm'.1 (fun z hz' => hz z (h3 z hz'))
        have i2 := ih c m b (by omega) hmn hb sc hbf (by omega) (fun z hz' => by
          have hzn : z < x.n := by rw [← hn]; exact h2.mds_lt ho hz'
          have h5 := htop z (h4 z hz')
          have h6 : x.rk z ≠ x.rk m := fun e2 => sc.first_new hw (by rw [← hx.inj hzn hmn e2]; exact hz')
          exact ⟨by omega, (hz z (h4 z hz')).2⟩)
        have pa := h1.len0 hw
        have pc := h2.len0 hw
        rw [e, Gr.len_app, ← sat_tw pa pc, tw_assoc (sat_b pa) (sat_b pc) bW]
        exact Int.le_trans i1 (tw_mono (sat_b pa).1 (hW.b m hmn).1 (Int.le_refl _) i2 (sat_b pa).2 (tw_b (sat_b pc) bW).2)
end

/-- The last of some that is so. -/
theorem last_of (p : Nat → Prop) : ∀ L : List Nat, (∃ z ∈ L, p z) → ∃ a z c, L = a ++ z :: c ∧ p z ∧ ∀ y ∈ c, ¬ p y
  | [], ⟨z, hz, _⟩ => by cases hz
  | y :: L, hz => by
    by_cases h : ∃ z ∈ L, p z
    · obtain ⟨a, z, c, e, h1, h2⟩ := last_of p L h
      exact ⟨y :: a, z, c, by rw [e]; rfl, h1, h2⟩
    · obtain ⟨z, hz, hp⟩ := hz
      rcases List.mem_cons.1 hz with rfl | hz
      · exact ⟨[], z, L, rfl, hp, fun w hw hpw => h ⟨w, hw, hpw⟩⟩
      · exact absurd ⟨z, hz, hp⟩ h

section
variable {G : Gr} {x Y : Ix} {fl : Nat} (hB : Blw x Y fl) (h : Whole G Y) (hok : Y.Ok) (hx : x.Ok) (ho : G.Ok) (hw : G.Wt) (hn : G.n = x.n)
include hB h hok hx ho hw hn
/-- Where the two sides meet. -/
theorem Blw.meet {s t : Nat} (hs : s < x.n) (ht : t < x.n) {U W : Nat → Int} (hU : Lst x.n (oM G x fl) s U) (hW : Lst x.n (iM x fl) t W) : lst2 U W x.n = G.far s t := by
  have h1 : ∀ v, v < x.n → G.far s t ≤ tw (U v) (W v) := fun v hv => by
    have b1 := Gr.far_b hw s v (by omega) (by omega)
    have b2 := Gr.far_b hw v t (by omega) (by omega)
    exact Int.le_trans (Gr.far_tri hw (by omega) (show v < G.n by omega) (by omega)) (tw_mono b1.1 b2.1 (hB.out_ge h hok hx ho hw hn hs hU v hv) (hB.in_ge h hok hx ho hw hn ht hW v hv) (hU.b v hv).2 (hW.b v hv).2)
  refine lst2_meet h1 ?_ (Gr.far_b hw s t (by omega) (by omega)).2
  by_cases hr : ∃ l, G.Sh s l t
  · right
    obtain ⟨l, hS⟩ := hr
    have key : ∃ m a b, m < x.n ∧ l = a ++ b ∧ G.Sh s a m ∧ G.Sh m b t ∧ U m ≤ sat (G.len a) ∧ W m ≤ sat (G.len b) := by
      have hcut : ∀ (pa : List Nat) (m : Nat) (pc : List Nat), s :: l.map G.hd = pa ++ m :: pc → m < x.n ∧ ∃ a b, l = a ++ b ∧ G.Sh s a m ∧ G.Sh m b t ∧ b.map G.hd = pc ∧ (∀ z ∈ a.map G.hd, z ∈ l.map G.hd) ∧ (∀ z ∈ b.map G.hd, z ∈ l.map G.hd) := fun pa m pc e => by
        obtain ⟨a, b, e1, w1, w2, e2, e3, e4⟩ := Wk.cut pa m pc hS.1 e
        have hS' := hS
        rw [e1] at hS'
        obtain ⟨sa, sb⟩ := hS'.cut w1 w2
        have hm : m ∈ s :: l.map G.hd := by rw [e]; simp
        refine ⟨?_, a, b, e1, sa, sb, ?_, fun z hz => ?_, fun z hz => ?_⟩
        · rcases List.mem_cons.1 hm with rfl | hm
          · exact hs
          · rw [← hn]; exact Wk.hds ho hS.1 m hm
        · injection e4
        · rw [e1, List.map_append]; exact List.mem_append_left _ hz
        · rw [e1, List.map_append]; exact List.mem_append_right _ hz
      have hmd : ∀ {a : List Nat} {z : Nat}, z ∈ G.mds a → z ∈ a.map G.hd := fun {a z} hz => by
        unfold Gr.mds at hz
        obtain ⟨k, hk', rfl⟩ := List.mem_map.1 hz
        exact List.mem_map.2 ⟨k, List.dropLast_subset _ hk', rfl⟩
      have hz0 : ∀ {a : List Nat} {m : Nat}, G.Sh s a m → (m ≠ s → U m ≤ tw (U s) (sat (G.len a))) → U m ≤ sat (G.len a) := fun {a m} sa hh => by
        have hb := sat_b (sa.1.len0 hw)
        by_cases e : m = s
        · rw [e, hU.s0]; exact hb.1
        · have := hh e
          rw [hU.s0, tw_self0 hb] at this; exact this
      have hz1 : ∀ {b : List Nat} {m : Nat}, G.Sh m b t → (m ≠ t → W m ≤ tw (sat (G.len b)) (W t)) → W m ≤ sat (G.len b) := fun {b m} sb hh => by
        have hb := sat_b (sb.1.len0 hw)
        by_cases e : m = t
        · rw [e, hW.s0]; exact hb.1
        · have := hh e
          rw [hW.s0, tw_zero' hb] at this; exact this
      by_cases hup : ∃ z ∈ s :: l.map G.hd, fl ≤ x.rk z
      · obtain ⟨pa, m, pc, e, hp, hpc⟩ := last_of (fun z => fl ≤ x.rk z) _ hup
        obtain ⟨hmn, a, b, e1, sa, sb, eb, _, _⟩ := hcut pa m pc e
        refine ⟨m, a, b, hmn, e1, sa, sb, hz0 sa (fun e => hB.out_le h hok hx ho hw hn hU a.length a s m (Nat.le_refl _) hs hmn (fun e2 => e e2.symm) sa (.inl hp)), hz1 sb (fun e => ?_)⟩
        have hb0 : b ≠ [] := fun eb => e (by subst eb; exact sb.1)
        have htb : t ∈ b.map G.hd := by rw [← Wk.vs sb.1 hb0]; simp
        have htg := hpc t (by rw [← eb]; exact htb)
        exact hB.in_le h hok hx ho hw hn hW b.length b m t (Nat.le_refl _) hmn ht sb (by omega) (by omega) (fun z hz => by
          have := hpc z (by rw [← eb]; exact hmd hz)
          omega)
      · have hall : ∀ z ∈ s :: l.map G.hd, x.rk z < fl := fun z hz => by
          rcases Nat.lt_or_ge (x.rk z) fl with h1 | h1
          · exact h1
          · exact absurd ⟨z, hz, h1⟩ hup
        obtain ⟨m, hm, htop⟩ := top_of x.rk (s :: l.map G.hd) (by simp)
        obtain ⟨pa, pc, e⟩ := List.append_of_mem hm
        obtain ⟨hmn, a, b, e1, sa, sb, eb, ma, mb⟩ := hcut pa m pc e
        refine ⟨m, a, b, hmn, e1, sa, sb, hz0 sa (fun e => hB.out_le h hok hx ho hw hn hU a.length a s m (Nat.le_refl _) hs hmn (fun e2 => e e2.symm) sa (.inr ⟨fun z hz => ?_, .inr ?_⟩)), hz1 sb (fun e => ?_)⟩
        · have hzn : z < x.n := by rw [← hn]; exact sa.1.mds_lt ho hz
          have h5 := htop z (List.mem_cons_of_mem _ (ma z (hmd hz)))
          have h6 : x.rk z ≠ x.rk m := fun e2 => sa.end_new hw (by rw [← hx.inj hzn hmn e2]; exact hz)
          omega
        · have h5 := htop s (by simp)
          have h6 : x.rk s ≠ x.rk m := fun e2 => e (hx.inj hs hmn e2).symm
          omega
        · have hb0 : b ≠ [] := fun eb => e (by subst eb; exact sb.1)
          have htb : t ∈ b.map G.hd := by rw [← Wk.vs sb.1 hb0]; simp
          have ht1 := htop t (List.mem_cons_of_mem _ (mb t htb))
          have h6 : x.rk t ≠ x.rk m := fun e2 => e (hx.inj ht hmn e2).symm
          exact hB.in_le h hok hx ho hw hn hW b.length b m t (Nat.le_refl _) hmn ht sb (hall t (List.mem_cons_of_mem _ (mb t htb))) (by omega) (fun z hz => by
            have hzn : z < x.n := by rw [← hn]; exact sb.1.mds_lt ho hz
            have hzl := List.mem_cons_of_mem s (mb z (hmd hz))
            have h5 := htop z hzl
            have h7 : x.rk z ≠ x.rk m := fun e2 => sb.first_new hw (by rw [← hx.inj hzn hmn e2]; exact hz)
            exact ⟨by omega, hall z hzl⟩)
    obtain ⟨m, a, b, hmn, e1, sa, sb, u1, u2⟩ := key
    have pa' := sa.1.len0 hw
    have pb' := sb.1.len0 hw
    have hle : tw (U m) (W m) ≤ sat (G.len (a ++ b)) := by
      rw [Gr.len_app, ← sat_tw pa' pb']
      exact tw_mono (hU.b m hmn).1 (hW.b m hmn).1 u1 u2 (sat_b pa').2 (sat_b pb').2
    rw [e1] at hS
    have hf := hS.far hw (by omega) (by omega)
    have := h1 m hmn
    exact ⟨m, hmn, by omega⟩
  · left
    have h2 := Gr.rl_far hw (show s < G.n by omega) (show t < G.n by omega)
    rw [Gr.rl_no hr] at h2
    have := (Gr.far_b hw s t (by omega) (by omega)).2
    omega
/-- To an upper vertex ways out are as short as in the graph. -/
theorem Blw.up_far {s v : Nat} (hs : s < x.n) (hv : v < x.n) {U : Nat → Int} (hU : Lst x.n (oM G x fl) s U) (hf : fl ≤ x.rk v) : U v = G.far s v := by
  have h1 := hB.out_ge h hok hx ho hw hn hs hU v hv
  have h2 : U v ≤ G.far s v := by
    by_cases e : v = s
    · rw [e, hU.s0, Gr.far_self hw (by omega)]; exact Int.le_refl _
    · by_cases hr : ∃ l, G.Sh s l v
      · obtain ⟨l, hS⟩ := hr
        have := hB.out_le h hok hx ho hw hn hU l.length l s v (Nat.le_refl _) hs hv (fun e2 => e e2.symm) hS (.inl hf)
        rw [hU.s0, tw_self0 (sat_b (hS.1.len0 hw))] at this
        exact Int.le_trans this (hS.far hw (by omega) (by omega))
      · have h2 := Gr.rl_far hw (show s < G.n by omega) (show v < G.n by omega)
        rw [Gr.rl_no hr] at h2
        have := (hU.b v hv).2
        omega
  omega
end
/-- With the floor 0 no way in leads anywhere. -/
theorem Lst.in_zero {x : Ix} {t : Nat} (ht : t < x.n) {W : Nat → Int} (hW : Lst x.n (iM x 0) t W) {v : Nat} (hv : v < x.n) : W v = if v = t then 0 else 4611686018427387906 := by
  by_cases e : v = t
  · rw [if_pos e, e]; exact hW.s0
  · rw [if_neg e]
    have := hW.low (fun v => if v = t then 0 else 4611686018427387906) (fun v _ => by unfold Bd; split <;> omega) (if_pos rfl) (fun u w _ _ _ => by
      have : iM x 0 u w = 4611686018427387906 := by unfold iM; rw [if_neg (by omega)]
      rw [this, none_tw]; split <;> omega) v hv
    simp only [if_neg e] at this
    have := (hW.b v hv).2
    omega

end Go.Proofs.YtoepbhacpidcbaaGreatDoor
/- The steps by which a vertex is reached, traced back; what they stand for is a walk in the graph: plain. -/
set_option linter.unusedVariables false
set_option linter.unusedSimpArgs false
namespace Go.Proofs.YtoepbhacpidcbaaGreatDoor
open Go.RowKit Go.Deep

/-- Steps that follow each other. -/
def FC : Int → List Stp → Int → Prop
  | u, [], v => u = v
  | u, e :: l, v => e.fr = u ∧ FC e.to l v
theorem FC.app : ∀ {a : List Stp} {u m : Int} {b : List Stp} {v : Int}, FC u a m → FC m b v → FC u (a ++ b) v
  | [], u, m, b, v, h1, h2 => by obtain rfl : u = m := h1; exact h2
  | e :: a, u, m, b, v, h1, h2 => ⟨h1.1, FC.app h1.2 h2⟩
def lenS (l : List Stp) : Int := (l.map Stp.w).sum
theorem lenS_app (a b : List Stp) : lenS (a ++ b) = lenS a + lenS b := by simp [lenS]
theorem lenS_one (e : Stp) : lenS [e] = e.w := by simp [lenS]
theorem lenS_rev (a : List Stp) : lenS a.reverse = lenS a := by unfold lenS; rw [List.map_reverse, List.sum_reverse]

/-- What lies behind a vertex while steps are traced back to the first. -/
structure Trc {n : Nat} {ag : Bool} (SL : Nat → List (StEl n ag)) (U : Nat → Int) (at_ v : Nat) (l : List Stp) : Prop where
  hv : v < n
  fc : if ag then FC (at_ : Nat) l (v : Nat) else FC (v : Nat) l.reverse (at_ : Nat)
  len : lenS l + U v = U at_
  mem : ∀ e ∈ l, ∃ u, u < n ∧ ∃ el ∈ SL u, el.1 = e
  few : ∃ L : List Nat, L.length = l.length ∧ L.Nodup ∧ ∀ z ∈ L, z < n ∧ U v < U z
  pos : 0 ≤ lenS l
theorem Trc.first {n : Nat} {ag : Bool} {SL : Nat → List (StEl n ag)} {U : Nat → Int} {v : Nat} (hv : v < n) : Trc SL U v v [] :=
  ⟨hv, by cases ag <;> exact rfl, by simp [lenS], fun e h => (by cases h), ⟨[], rfl, List.nodup_nil, fun z h => (by cases h)⟩, by simp [lenS]⟩
theorem Trc.short {n : Nat} {ag : Bool} {SL : Nat → List (StEl n ag)} {U : Nat → Int} {at_ v : Nat} {l : List Stp} (h : Trc SL U at_ v l) : l.length < n := by
  obtain ⟨L, h1, h2, h3⟩ := h.few
  have hd : (v :: L).Nodup := List.nodup_cons.2 ⟨fun hm => by have := (h3 v hm).2; omega, h2⟩
  have := nodup_le n (v :: L) hd (fun z hz => by
    rcases List.mem_cons.1 hz with rfl | hz
    · exact h.hv
    · exact (h3 z hz).1)
  simp at this; omega
/-- One step back. -/
theorem Trc.step {n : Nat} {ag : Bool} {SL : Nat → List (StEl n ag)} {U : Nat → Int} {s at_ v : Nat} {l : List Stp} {b : By} {e : Stp} (h : Trc SL U at_ v l) (hb : ByR SL s U b) (hU : ∀ v, v < n → Bd (U v)) (hs : ∀ u, u < n → ∀ el ∈ SL u, el.1.src ag = (u : Nat)) (hw : ∀ u, u < n → ∀ el ∈ SL u, 1 ≤ el.1.w ∧ el.1.w ≤ 4611686018427387906)
    (ha : U at_ ≤ 4611686018427387904) (he : b v = some e) : ∃ u : Nat, e.src ag = u ∧ Trc SL U at_ u (l ++ [e]) ∧ U u < U v := by
  obtain ⟨u, hu, ⟨el, hel, rfl⟩, hk, hU'⟩ := hb.yes v h.hv e he
  have h1 := hs u hu el hel
  have h2 := hw u hu el hel
  have h3 := hU u hu
  have h4 := h.len
  have h5 := h.pos
  rw [ad_eq h3 h2] at hU'
  have h6 : U v = U u + el.1.w := by
    split at hU'
    · omega
    · split at hU' <;> omega
  refine ⟨u, h1, ⟨hu, ?_, by rw [lenS_app, lenS_one]; omega, fun e' he' => ?_, ?_, by rw [lenS_app, lenS_one]; omega⟩, by omega⟩
  · have hfc := h.fc
    unfold Stp.src at h1
    unfold Stp.key at hk
    cases ag with
    | false =>
      rw [if_neg (by decide)] at h1 hk hfc
      rw [if_neg (by decide), List.reverse_append]
      exact ⟨h1, by rw [hk]; exact hfc⟩
    | true =>
      rw [if_pos rfl] at h1 hk hfc
      rw [if_pos rfl]
      exact FC.app hfc ⟨hk, h1⟩
  · rcases List.mem_append.1 he' with h' | h'
    · exact h.mem e' h'
    · rw [List.mem_singleton] at h'
      exact ⟨u, hu, el, hel, h'.symm⟩
  · obtain ⟨L, l1, l2, l3⟩ := h.few
    refine ⟨v :: L, by simp [l1], List.nodup_cons.2 ⟨fun hm => by have := (l3 v hm).2; omega, l2⟩, fun z hz => ?_⟩
    rcases List.mem_cons.1 hz with rfl | hz
    · exact ⟨h.hv, by omega⟩
    · have := l3 z hz; exact ⟨this.1, by omega⟩
/-- Nothing more: it is the first one. -/
theorem Trc.last {n : Nat} {ag : Bool} {SL : Nat → List (StEl n ag)} {U : Nat → Int} {s at_ v : Nat} {l : List Stp} {b : By} (h : Trc SL U at_ v l) (hb : ByR SL s U b) (ha : U at_ ≤ 4611686018427387904) (he : b v = none) : v = s := by
  have h4 := h.len
  have h5 := h.pos
  by_cases e : v = s
  · exact e
  · have := hb.no v h.hv e he
    omega

/-- A walk in a graph is no shorter than it is far. -/
theorem Wk.far_le {G : Gr} (ho : G.Ok) (hw : G.Wt) : ∀ {l : List Nat} {u v : Nat}, u < G.n → Wk G u l v → G.far u v ≤ sat (G.len l)
  | [], u, v, hu, h => by
    obtain rfl : u = v := h
    rw [Gr.far_self hw hu, Gr.len_nil]; decide
  | k :: l, u, v, hu, h => by
    obtain ⟨k1, k2, k3, k4, k5⟩ := h
    have hok := ho.arc k k1 k2
    have hm : (G.arc k).h.toNat < G.n := by omega
    have hv : v < G.n := by
      by_cases hl : l = []
      · subst hl; obtain rfl : (G.arc k).h.toNat = v := k5; exact hm
      · have := Wk.vs k5 hl
        exact Wk.hds ho k5 v (by rw [← this]; simp)
    have ih := Wk.far_le ho hw hm k5
    have hb1 : G.bst u (G.arc k).h.toNat ≤ (G.arc k).w := Gr.bst_arc k1 k2 k3 k4 (by omega)
    have hb2 := Gr.far_bst hw hu hm
    have hwk := hw k k1 k2
    have b1 := Gr.far_b hw u (G.arc k).h.toNat hu hm
    have b2 := Gr.far_b hw (G.arc k).h.toNat v hm hv
    have hl0 := k5.len0 hw
    refine Int.le_trans (Gr.far_tri hw hu hm hv) ?_
    rw [Gr.len_cons, ← sat_tw (by omega) hl0, sat_id hwk.2]
    exact tw_mono b1.1 b2.1 (by omega) ih (by omega) (sat_b hl0).2
/-- A walk as long as it is far is as short as can be. -/
theorem Wk.sh {G : Gr} (ho : G.Ok) (hw : G.Wt) {l : List Nat} {u v : Nat} (hu : u < G.n) (h : Wk G u l v) (hl : G.len l = G.far u v) (hm : G.len l ≤ 4611686018427387904) : G.Sh u l v := by
  refine ⟨h, fun l' h' => ?_⟩
  have h1 := Wk.far_le ho hw hu h'
  have h2 := h'.len0 hw
  unfold sat at h1
  split at h1 <;> omega
/-- Such a walk is simple. -/
theorem Gr.Sh.nodup {G : Gr} (ho : G.Ok) (hw : G.Wt) {l : List Nat} {u v : Nat} (hu : u < G.n) (h : G.Sh u l v) : (u :: l.map G.hd).Nodup ∧ l.length < G.n := by
  have hs : (u :: l.map G.hd).Nodup := by
    refine Classical.byContradiction fun hd => ?_
    obtain ⟨a, y, b, c, e⟩ := dup_at _ hd
    obtain ⟨l1, l2, e1, w1, w2, e2, e3, e4⟩ := Wk.cut a y (b ++ y :: c) h.1 e
    obtain ⟨l3, l4, e5, w3, w4, e6, e7, e8⟩ := Wk.cut (y :: b) y c w2 (by rw [e4]; rfl)
    have hle := h.2 _ (w1.app w4)
    have hp := Wk.pos hw w3
    rw [List.length_cons] at e6
    rw [e1, e5, Gr.len_app, Gr.len_app, Gr.len_app] at hle
    omega
  refine ⟨hs, ?_⟩
  have := nodup_le G.n _ hs (fun z hz => by
    rcases List.mem_cons.1 hz with rfl | hz
    · exact hu
    · exact Wk.hds ho h.1 z hz)
  simp at this
  omega

section
variable {G : Gr} {x Y : Ix} {fl : Nat} (hB : Blw x Y fl) (h : Whole G Y) (hok : Y.Ok) (hx : x.Ok) (ho : G.Ok) (hw : G.Wt) (hn : G.n = x.n)
include hB h hok hx ho hw hn
theorem Blw.add_pth : ∀ (f u v : Nat) (l : List Int), u < x.n → v < x.n → u ≠ v → min (x.rk u) (x.rk v) < fl → min (x.rk u) (x.rk v) < f → (Y.ent u v).w ≤ 4611686018427387904 → l.length + (Y.pth f u v).length ≤ 23 →
    x.add f (u : Nat) (v : Nat) l = (l ++ (Y.pth f u v).map (fun k : Nat => (k : Int)), 0) := by
  have _ := And.intro ho (And.intro hw hn)
  intro f
  induction f with
  | zero => intro u v l _ _ _ _ h; omega
  | succ f ih =>
    intro u v l hu hv hne hlf hf hle hlen
    have hat : x.at_ (u : Nat) (v : Nat) = Y.ent u v := by rw [at_nat (two_nat hu hv hne), hB.e u v hu hv hne hlf]
    have hnn : Y.ent u v ≠ En.none := fun e => by rw [e] at hle; simp [En.none] at hle
    rw [Ix.pth] at hlen ⊢
    rw [Ix.add, hat, if_neg hnn]
    rcases h.cases (by rw [hB.n]; exact hu) (by rw [hB.n]; exact hv) hne with ⟨e1, _, _⟩ | ⟨e1, e2, _⟩ | ⟨j, hc, _⟩
    · exact absurd e1 hnn
    · have hm : (Y.ent u v).m < 0 := by rw [e1]; show (-1 : Int) < 0; omega
      rw [if_pos hm] at hlen ⊢
      rw [if_pos hm, if_neg (by simp at hlen; omega)]
      have ha : (((Y.ent u v).a.toNat : Nat) : Int) = (Y.ent u v).a := by rw [e1]; exact Int.toNat_of_nonneg e2
      rw [List.map_singleton, ha]
    · have hj := hc.lo
      rw [hB.rk] at hj
      have hb := hok.by_ j (by rw [hB.n]; have := (hx.rk u hu).1; omega)
      rw [hB.n, hB.rk] at hb
      have hm0 : ¬ (Y.ent u v).m < 0 := by rw [hc.m]; omega
      rw [if_neg hm0] at hlen ⊢
      rw [if_neg hm0]
      rw [hc.m] at hlen ⊢
      simp only [Int.toNat_natCast] at hlen ⊢
      obtain ⟨m, hm⟩ : ∃ m, Y.by_ j = m := ⟨_, rfl⟩
      rw [hm] at hb hlen ⊢
      have hum : u ≠ m := fun e => by subst e; omega
      have hmv : m ≠ v := fun e => by subst e; omega
      have hs := hok.sum2_by (by rw [hB.n]; exact hu) (by rw [hB.n]; exact hv) (by rw [hB.n]; exact hb.1) hum hmv
      rw [hB.rk, hb.2, ← hc.w, add1_two (hok.ent_b u m) (hok.ent_b m v)] at hs
      have b1 := hok.ent_b u m
      have b2 := hok.ent_b m v
      have hsum : (Y.ent u m).w ≤ 4611686018427387904 ∧ (Y.ent m v).w ≤ 4611686018427387904 := by
        split at hs
        · omega
        · split at hs <;> omega
      rw [List.length_append] at hlen
      have i1 := ih u m l hu hb.1 hum (by omega) (by omega) hsum.1 (by omega)
      rw [i1]
      have i2 := ih m v (l ++ (Y.pth f u m).map (fun k : Nat => (k : Int))) hb.1 hv hmv (by omega) (by omega) hsum.2 (by rw [List.length_append, List.length_map]; omega)
      rw [if_neg (by simp), i2, List.map_append, List.append_assoc]
theorem Blw.arcs {u v : Nat} (hu : u < x.n) (hv : v < x.n) (hne : u ≠ v) (hlf : min (x.rk u) (x.rk v) < fl) (hle : (Y.ent u v).w ≤ 4611686018427387904) :
    x.arcs (u : Nat) (v : Nat) = ((Y.pth 25 u v).map (fun k : Nat => (k : Int)), 0) ∧ (Y.pth 25 u v).length < x.n ∧ Wk G u (Y.pth 25 u v) v ∧ G.len (Y.pth 25 u v) = (Y.ent u v).w := by
  have hn2 := hx.n2
  have hru := (hx.rk u hu).1
  have hp := h.path hok ho hw (by rw [hB.n]; exact hn) (by rw [hB.n]; exact hu) (by rw [hB.n]; exact hv) hne hle (f := 25) (by rw [hB.rk]; omega)
  rw [hB.n] at hp
  obtain ⟨p1, p2, p3, _⟩ := h.pth hok ho hw (by rw [hB.n]; exact hn) 25 u v (by rw [hB.n]; exact hu) (by rw [hB.n]; exact hv) hne (by rw [hB.rk]; omega) hle
  refine ⟨?_, hp.2, p1, p2⟩
  unfold Ix.arcs
  rw [if_pos (two_nat hu hv hne), hB.add_pth h hok hx ho hw hn 25 u v [] hu hv hne hlf (by omega) hle (by simp; omega), List.nil_append]
end

/-- What a step stands for. -/
def Stp.ex (Y : Ix) : Stp → List Nat
  | .arc i _ _ _ _ => [i.toNat]
  | .ent a b _ => Y.pth 25 a.toNat b.toNat
/-- A step that is told stands for a walk as long. -/
structure StOk (G : Gr) (x Y : Ix) (fl : Nat) (e : Stp) : Prop where
  fr : 0 ≤ e.fr ∧ e.fr < x.n
  tt : 0 ≤ e.to ∧ e.to < x.n
  w : 1 ≤ e.w
  arc : ∀ i t h g c, e = .arc i t h g c → 0 ≤ i ∧ i < 64 ∧ G.tk i.toNat = true ∧ (G.arc i.toNat).c = false ∧ (G.arc i.toNat).t = t ∧ (G.arc i.toNat).h = h ∧ (G.arc i.toNat).w = g
  ent : ∀ a b g, e = .ent a b g → a ≠ b ∧ min (x.rk a.toNat) (x.rk b.toNat) < fl ∧ (x.ent a.toNat b.toNat).w = g
theorem StOk.ex {G : Gr} {x Y : Ix} {fl : Nat} {e : Stp} (hB : Blw x Y fl) (h : Whole G Y) (hok : Y.Ok) (hx : x.Ok) (ho : G.Ok) (hw : G.Wt) (hn : G.n = x.n) (he : StOk G x Y fl e) (hle : e.w ≤ 4611686018427387904) :
    Wk G e.fr.toNat (e.ex Y) e.to.toNat ∧ G.len (e.ex Y) = e.w := by
  have h1 := he.fr
  have h2 := he.tt
  match e, he with
  | .arc i t hh g c, he =>
    obtain ⟨a1, a2, a3, a4, a5, a6, a7⟩ := he.arc i t hh g c rfl
    have h1 : 0 ≤ t ∧ t < x.n := h1
    refine ⟨⟨by omega, a3, a4, by show _ = ((t.toNat : Nat) : Int); rw [a5]; omega, by show (G.arc i.toNat).h.toNat = hh.toNat; rw [a6]⟩, ?_⟩
    show G.len [i.toNat] = g
    rw [Gr.len_cons, Gr.len_nil, a7]; omega
  | .ent a b g, he =>
    obtain ⟨e1, e2, e3⟩ := he.ent a b g rfl
    have h1 : 0 ≤ a ∧ a < x.n := h1
    have h2 : 0 ≤ b ∧ b < x.n := h2
    have hne : a.toNat ≠ b.toNat := fun e => e1 (by omega)
    have hw' : (Y.ent a.toNat b.toNat).w = g := by rw [← hB.e _ _ (by omega) (by omega) hne e2]; exact e3
    have hle : g ≤ 4611686018427387904 := hle
    obtain ⟨_, _, p3, p4⟩ := hB.arcs h hok hx ho hw hn (u := a.toNat) (v := b.toNat) (by omega) (by omega) hne e2 (by omega)
    exact ⟨p3, by show G.len (Y.pth 25 a.toNat b.toNat) = g; rw [p4, hw']⟩
/-- Steps that follow each other stand for a walk. -/
theorem FC.wk {G : Gr} {x Y : Ix} {fl : Nat} (hB : Blw x Y fl) (h : Whole G Y) (hok : Y.Ok) (hx : x.Ok) (ho : G.Ok) (hw : G.Wt) (hn : G.n = x.n) : ∀ {l : List Stp} {u v : Nat}, FC (u : Nat) l (v : Nat) → (∀ e ∈ l, StOk G x Y fl e) → lenS l ≤ 4611686018427387904 → Wk G u (l.flatMap (Stp.ex Y)) v ∧ G.len (l.flatMap (Stp.ex Y)) = lenS l ∧ (∀ e ∈ l, e.w ≤ 4611686018427387904) ∧ 0 ≤ lenS l
  | [], u, v, hf, _, _ => ⟨Int.ofNat.inj hf, rfl, fun e he => (by cases he), Int.le_refl _⟩
  | e :: l, u, v, hf, hm, hl => by
    have he := hm e (by simp)
    have e1 : lenS (e :: l) = e.w + lenS l := by simp [lenS]
    have hto := he.tt
    have hw1 := he.w
    rw [e1] at hl
    have hrest : lenS l ≤ 4611686018427387904 := by omega
    obtain ⟨a1, a2, a3, a4⟩ := FC.wk hB h hok hx ho hw hn (l := l) (u := e.to.toNat) (v := v) (by rw [Int.toNat_of_nonneg hto.1]; exact hf.2) (fun e' he' => hm e' (by simp [he'])) hrest
    have hle : e.w ≤ 4611686018427387904 := by omega
    obtain ⟨b1, b2⟩ := he.ex hB h hok hx ho hw hn hle
    have hu : e.fr.toNat = u := by rw [hf.1]; exact Int.toNat_natCast u
    rw [hu] at b1
    rw [List.flatMap_cons, e1]
    refine ⟨b1.app a1, by rw [Gr.len_app, b2, a2], fun e' he' => ?_, by omega⟩
    rcases List.mem_cons.1 he' with rfl | he'
    · exact hle
    · exact a3 e' he'

end Go.Proofs.YtoepbhacpidcbaaGreatDoor
/- The steps of ways out, and of ways in, as what they are: plain. -/
set_option linter.unusedVariables false
set_option linter.unusedSimpArgs false
namespace Go.Proofs.YtoepbhacpidcbaaGreatDoor
open Go.RowKit Go.Deep

theorem Ix.Ok.row_by {x : Ix} (hok : x.Ok) {v : Nat} {back : Bool} (el : x.RowEl v back) : x.by_ el.1 < x.n := (hok.by_ el.1 el.2.2.1).1
/-- From a ground vertex, up. -/
def stL {x : Ix} (hok : x.Ok) (v : Nat) (el : x.RowEl v false) : StEl x.n false := ⟨.ent (v : Nat) (x.by_ el.1 : Nat) (x.rowE v false el.1).w, by
  have := hok.row_by el
  show 0 ≤ ((x.by_ el.1 : Nat) : Int) ∧ ((x.by_ el.1 : Nat) : Int) < x.n
  omega⟩
/-- To a ground vertex, from higher ones. -/
def stI {x : Ix} (hok : x.Ok) (v : Nat) (el : x.RowEl v true) : StEl x.n true := ⟨.ent (x.by_ el.1 : Nat) (v : Nat) (x.rowE v true el.1).w, by
  have := hok.row_by el
  show 0 ≤ ((x.by_ el.1 : Nat) : Int) ∧ ((x.by_ el.1 : Nat) : Int) < x.n
  omega⟩
/-- Along an open arc between upper vertices. -/
def stU {G : Gr} {x : Ix} (hd : G.Hd x.n) (fl : Nat) (el : G.UpEl x fl) : StEl x.n false := ⟨.arc el.1.1 (G.arc el.1.1.toNat).t (G.arc el.1.1.toNat).h (G.arc el.1.1.toNat).w (G.arc el.1.1.toNat).c, by
  have h1 := el.1.2
  have := hd.2 el.1.1.toNat (by have := h1.2; omega)
  exact this⟩
/-- From an upper vertex to a ground one. -/
def stD {x : Ix} (hok : x.Ok) (v : Nat) (el : x.DvEl v) : StEl x.n false := ⟨.ent (v : Nat) (x.by_ el.1 : Nat) (x.at_ (v : Nat) (x.by_ el.1 : Nat)).w, by
  have := (hok.by_ el.1 el.2.1).1
  show 0 ≤ ((x.by_ el.1 : Nat) : Int) ∧ ((x.by_ el.1 : Nat) : Int) < x.n
  omega⟩
theorem stL_enc {x : Ix} (hok : x.Ok) (v : Nat) (el : x.RowEl v false) : stEnc (stL hok v el) = outEnc x v el := rfl
theorem stI_enc {x : Ix} (hok : x.Ok) (v : Nat) (el : x.RowEl v true) : stEnc (stI hok v el) = inEnc x v el := rfl
theorem stU_enc {G : Gr} {x : Ix} (hd : G.Hd x.n) (fl : Nat) (el : G.UpEl x fl) : stEnc (stU hd fl el) = upEnc G x fl el := rfl
theorem stD_enc {x : Ix} (hok : x.Ok) (v : Nat) (el : x.DvEl v) : stEnc (stD hok v el) = dvEnc x v el := rfl

def oS (G : Gr) {x : Ix} (hok : x.Ok) (hd : G.Hd x.n) (fl : Nat) : Nat → List (StEl x.n false) := fun v =>
  if x.rk v < fl then (x.rowTo v false 24).map (stL hok v) else (G.upL x fl (selI (G.outs (v : Nat)))).map (stU hd fl) ++ (x.dvTo v fl).map (stD hok v)
def iS {x : Ix} (hok : x.Ok) (fl : Nat) : Nat → List (StEl x.n true) := fun v => (inL x v fl).map (stI hok v)
theorem oS_edge {G : Gr} {x : Ix} (hok : x.Ok) (hd : G.Hd x.n) (fl v : Nat) : oE G x fl v = (oS G hok hd fl v).map stEdge := by
  unfold oE oS
  split
  · unfold Ix.ued
    rw [List.map_map]
    refine List.map_congr_left fun el _ => ?_
    show (x.by_ el.1, (x.rowE v false el.1).w) = (((x.by_ el.1 : Nat) : Int).toNat, (x.rowE v false el.1).w)
    rw [Int.toNat_natCast]
  · rw [List.map_append, List.map_map, List.map_map]
    refine congr (congrArg _ (List.map_congr_left fun el _ => rfl)) (List.map_congr_left fun el _ => ?_)
    show (x.by_ el.1, (x.at_ (v : Nat) (x.by_ el.1 : Nat)).w) = (((x.by_ el.1 : Nat) : Int).toNat, (x.at_ (v : Nat) (x.by_ el.1 : Nat)).w)
    rw [Int.toNat_natCast]
theorem iS_edge {x : Ix} (hok : x.Ok) (fl v : Nat) : iE x fl v = (iS hok fl v).map stEdge := by
  unfold iE iS inL
  split
  · unfold Ix.ued
    rw [List.map_map]
    refine List.map_congr_left fun el _ => ?_
    show (x.by_ el.1, (x.rowE v true el.1).w) = (((x.by_ el.1 : Nat) : Int).toNat, (x.rowE v true el.1).w)
    rw [Int.toNat_natCast]
  · rfl
theorem iS_src {x : Ix} (hok : x.Ok) (fl u : Nat) (el : StEl x.n true) (h : el ∈ iS hok fl u) : el.1.src true = (u : Nat) := by
  unfold iS at h
  obtain ⟨e, _, rfl⟩ := List.mem_map.1 h
  rfl
theorem iS_ok {G : Gr} {x : Ix} (Y : Ix) (hok : x.Ok) {fl u : Nat} (hu : u < x.n) (el : StEl x.n true) (h : el ∈ iS hok fl u) : StOk G x Y fl el.1 := by
  unfold iS at h
  obtain ⟨e, he, rfl⟩ := List.mem_map.1 h
  have hf : x.rk u < fl := by
    unfold inL at he
    by_cases hf : x.rk u < fl
    · exact hf
    · rw [if_neg hf] at he; cases he
  have hb := hok.by_ e.1 e.2.2.1
  have h1 := e.2.1
  have hw : (x.rowE u true e.1).w = (x.ent (x.by_ e.1) u).w := by unfold Ix.rowE; rw [if_pos ⟨h1, e.2.2.1⟩, if_pos rfl]
  have hew := hok.ent_b (x.by_ e.1) u
  have hne : x.by_ e.1 ≠ u := fun c => by have := hb.2; rw [c] at this; omega
  refine ⟨?_, ?_, ?_, fun i t hh g c e' => (by cases e'), fun a b g e' => ?_⟩
  · show 0 ≤ ((x.by_ e.1 : Nat) : Int) ∧ ((x.by_ e.1 : Nat) : Int) < x.n; omega
  · show 0 ≤ ((u : Nat) : Int) ∧ ((u : Nat) : Int) < x.n; omega
  · show 1 ≤ (x.rowE u true e.1).w; omega
  · have e' : Stp.ent ((x.by_ e.1 : Nat) : Int) ((u : Nat) : Int) (x.rowE u true e.1).w = .ent a b g := e'
    injection e' with e1 e2 e3
    rw [← e1, ← e2, ← e3]
    simp only [Int.toNat_natCast]
    exact ⟨fun c => hne (by omega), by omega, hw.symm⟩
theorem oS_src {G : Gr} {x : Ix} (hok : x.Ok) (hd : G.Hd x.n) (fl u : Nat) (el : StEl x.n false) (h : el ∈ oS G hok hd fl u) : el.1.src false = (u : Nat) := by
  unfold oS at h
  split at h
  · obtain ⟨e, _, rfl⟩ := List.mem_map.1 h
    rfl
  · rcases List.mem_append.1 h with h | h
    · obtain ⟨e, he, rfl⟩ := List.mem_map.1 h
      rw [Gr.upL_mem, selI_in] at he
      obtain ⟨k, hk, ho, hz⟩ := he
      show (G.arc e.1.1.toNat).t = _
      rw [hz, Int.toNat_natCast]
      unfold Gr.outs at ho
      simp at ho
      exact ho.2
    · obtain ⟨e, _, rfl⟩ := List.mem_map.1 h
      rfl
theorem oS_ok {G : Gr} {x : Ix} (Y : Ix) (hok : x.Ok) (hd : G.Hd x.n) (hw : G.Wt) {fl u : Nat} (hu : u < x.n) (el : StEl x.n false) (h : el ∈ oS G hok hd fl u) : StOk G x Y fl el.1 := by
  unfold oS at h
  by_cases hf : x.rk u < fl
  · rw [if_pos hf] at h
    obtain ⟨e, he, rfl⟩ := List.mem_map.1 h
    have hb := hok.by_ e.1 e.2.2.1
    have h1 := e.2.1
    have hw' : (x.rowE u false e.1).w = (x.ent u (x.by_ e.1)).w := by unfold Ix.rowE; rw [if_pos ⟨h1, e.2.2.1⟩, if_neg (by decide)]
    have hew := hok.ent_b u (x.by_ e.1)
    have hne : x.by_ e.1 ≠ u := fun c => by have := hb.2; rw [c] at this; omega
    refine ⟨?_, ?_, ?_, fun i t hh g c e' => (by cases e'), fun a b g e' => ?_⟩
    · show 0 ≤ ((u : Nat) : Int) ∧ ((u : Nat) : Int) < x.n; omega
    · show 0 ≤ ((x.by_ e.1 : Nat) : Int) ∧ ((x.by_ e.1 : Nat) : Int) < x.n; omega
    · show 1 ≤ (x.rowE u false e.1).w; omega
    · have e' : Stp.ent ((u : Nat) : Int) ((x.by_ e.1 : Nat) : Int) (x.rowE u false e.1).w = .ent a b g := e'
      injection e' with e1 e2 e3
      rw [← e1, ← e2, ← e3]
      simp only [Int.toNat_natCast]
      exact ⟨fun c => hne (by omega), by omega, hw'.symm⟩
  · rw [if_neg hf] at h
    rcases List.mem_append.1 h with h | h
    · obtain ⟨e, he, rfl⟩ := List.mem_map.1 h
      have hel := e.2
      rw [Gr.upL_mem, selI_in] at he
      obtain ⟨k, hk, ho, hz⟩ := he
      have hz' : e.1.1.toNat = k := by rw [hz]; exact Int.toNat_natCast k
      have ho : G.tk k = true ∧ (G.arc k).t = u := by
        unfold Gr.outs at ho
        simpa using ho
      have hhd := hd.2 k hk
      have hwk := hw k hk ho.1
      rw [hz'] at hel
      refine ⟨?_, ?_, ?_, fun i t hh g c e' => ?_, fun a b g e' => (by cases e')⟩
      · show 0 ≤ (G.arc e.1.1.toNat).t ∧ (G.arc e.1.1.toNat).t < x.n
        rw [hz', ho.2]; omega
      · show 0 ≤ (G.arc e.1.1.toNat).h ∧ (G.arc e.1.1.toNat).h < x.n
        rw [hz']; exact hhd
      · show 1 ≤ (G.arc e.1.1.toNat).w
        rw [hz']; exact hwk.1
      · have e' : Stp.arc e.1.1 (G.arc e.1.1.toNat).t (G.arc e.1.1.toNat).h (G.arc e.1.1.toNat).w (G.arc e.1.1.toNat).c = .arc i t hh g c := e'
        injection e' with e1 e2 e3 e4 e5
        rw [← e1, ← e2, ← e3, ← e4, hz']
        exact ⟨by rw [hz]; omega, by rw [hz]; omega, ho.1, hel.1, rfl, rfl, rfl⟩
    · obtain ⟨e, he, rfl⟩ := List.mem_map.1 h
      rw [Ix.dvTo_mem] at he
      have hb := hok.by_ e.1 e.2.1
      have hne : u ≠ x.by_ e.1 := fun c => by have := hb.2; rw [← c] at this; omega
      have hew := hok.at_b (u : Nat) (x.by_ e.1 : Nat)
      refine ⟨?_, ?_, ?_, fun i t hh g c e' => (by cases e'), fun a b g e' => ?_⟩
      · show 0 ≤ ((u : Nat) : Int) ∧ ((u : Nat) : Int) < x.n; omega
      · show 0 ≤ ((x.by_ e.1 : Nat) : Int) ∧ ((x.by_ e.1 : Nat) : Int) < x.n; omega
      · show 1 ≤ (x.at_ (u : Nat) (x.by_ e.1 : Nat)).w; omega
      · have e' : Stp.ent ((u : Nat) : Int) ((x.by_ e.1 : Nat) : Int) (x.at_ (u : Nat) (x.by_ e.1 : Nat)).w = .ent a b g := e'
        injection e' with e1 e2 e3
        rw [← e1, ← e2, ← e3]
        simp only [Int.toNat_natCast]
        exact ⟨fun c => hne (by omega), by omega, by rw [at_nat (two_nat hu hb.1 hne)]⟩

end Go.Proofs.YtoepbhacpidcbaaGreatDoor
