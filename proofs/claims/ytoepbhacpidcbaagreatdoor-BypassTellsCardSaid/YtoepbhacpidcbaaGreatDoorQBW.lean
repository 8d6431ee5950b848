/- What a range over build.pairs hands out; walked. -/
import Derived.StillTail
import Derived.Test.YtoepbhacpidcbaaGreatDoorQBase
import Derived.Test.YtoepbhacpidcbaaGreatDoorQIdx
import Derived.Test.YtoepbhacpidcbaaGreatDoorQIdxB
import Derived.Test.YtoepbhacpidcbaaGreatDoorQPerm
import Derived.Test.YtoepbhacpidcbaaGreatDoorQRef
import Derived.Test.YtoepbhacpidcbaaGreatDoorQBig
import Derived.Test.YtoepbhacpidcbaaGreatDoorQUnref
import Derived.Test.YtoepbhacpidcbaaGreatDoorQUnE
import Derived.Test.YtoepbhacpidcbaaGreatDoorQItr
import Derived.Test.YtoepbhacpidcbaaGreatDoorQDst
import Derived.Test.YtoepbhacpidcbaaGreatDoorQLnk
import Derived.Test.YtoepbhacpidcbaaGreatDoorQRow2
import Derived.Test.YtoepbhacpidcbaaGreatDoorQGr
import Derived.Test.YtoepbhacpidcbaaGreatDoorQGOps
import Derived.Test.YtoepbhacpidcbaaGreatDoorQBld

set_option linter.unusedVariables false
set_option linter.unusedSimpArgs false
namespace Go.Proofs.YtoepbhacpidcbaaGreatDoor
open Go.RowKit Go.Shelf Go.Deep

attribute [local go_sem] Oper.semAt_some

/-- There is an index of that many vertices, by that order. -/
def Shape (L : IxLoc) (n : Nat) (bf : Nat → Nat) (W : World) : Prop := ∃ y : Ix, IxMem W L y ∧ y.n = n ∧ y.by_ = bf
theorem Shape.no {L : IxLoc} {n : Nat} {bf : Nat → Nat} {W W' : World} (h : Shape L n bf W) (hf : Fr No W W') : Shape L n bf W' := by
  obtain ⟨y, h1, h2⟩ := h
  exact ⟨y, h1.no hf, h2⟩
/-- What a round of such a range keeps. -/
def PK (F : Nat → Prop) (L : IxLoc) (n : Nat) (bf : Nat → Nat) (W W' : World) : Prop := Fr F W W' ∧ (Shape L n bf W → Shape L n bf W')
theorem PK.trans {F : Nat → Prop} {L : IxLoc} {n : Nat} {bf : Nat → Nat} {A B C : World} (h : PK F L n bf A B) (k : PK F L n bf B C) : PK F L n bf A C := ⟨h.1.trans k.1, fun s => k.2 (h.2 s)⟩
theorem PK.no {F : Nat → Prop} {L : IxLoc} {n : Nat} {bf : Nat → Nat} {A B : World} (h : Fr No A B) : PK F L n bf A B := ⟨h.no, fun s => s.no h⟩
end Go.Proofs.YtoepbhacpidcbaaGreatDoor

/- A region that draws its order, whose operations but for its last few leave what lay there (they may make memory), its last few in one order: one walk serves every order; also within a round of a range over a function. (The kit's theorems on still regions with a tail and on quiet regions, put together.) -/
set_option linter.unusedVariables false
set_option linter.unusedSimpArgs false
namespace Go.Proofs.YtoepbhacpidcbaaGreatDoor
open Go.RowKit Go.Deep

section
variable {P : Program} {ops : Array Oper} {md : Region.Mode} {C : World → Prop}

def wpAnyLQ (P : Program) (md : Region.Mode) (ops : Array Oper) (C : World → Prop) (n : Nat) (L : Array Bool → Act → Prop) : Nat → Array Bool → Act → Prop
  | 0, listed, a => L listed a
  | f + 1, listed, a =>
    Region.ready md ops listed ≠ [] ∧ ∀ i ∈ Region.ready md ops listed, i < n ∧ qOp P ops C i (wpAnyLQ P md ops C n L f (listed.setIfInBounds i true)) a

theorem wpAnyLQ_first {n i : Nat} {oi : Oper} {v : Value} {L : Array Bool → Act → Prop} (hi : ops[i]? = some oi) (hsel : ∀ (j : Nat) (o : Oper) cs b, ops[j]? = some o → o.op ≠ .select cs b)
    (hs : Region.sinkB md ops n = true) (hc : Region.chainB md ops n = true) (hn : n < ops.size) (hin : i < n)
    (hdone : ∀ listed a, L listed a → ∀ j ∈ Region.ready md ops listed, n ≤ j) :
    ∀ (f : Nat) (listed : Array Bool) (a : Act), HeadInv md ops n listed →
      (∀ j oj, ops[j]? = some oj → j ≠ i → listed.getD j true = false → (∀ e ∈ oj.after, Region.binds md e = true → e.on ≠ i) → oi.apart ops oj = true) →
      i ∈ Region.ready md ops listed → YieldsIn P ops C oi v a →
      wpAnyLQ P md ops C n L f (listed.setIfInBounds i true) (a.put oi.dst v) → wpAnyLQ P md ops C n L (f + 1) listed a := by
  intro f
  induction f with
  | zero =>
    intro listed a inv _ hr hy H
    have hun := (mem_ready.1 hr).1
    refine ⟨fun h => (by rw [h] at hr; cases hr), fun j hj => ?_⟩
    have hjn : j < n := by
      rcases Nat.lt_or_ge j n with h | h
      · exact h
      · exact absurd hj (tail_waits hs hc hn inv _ i rfl hin hun j h)
    refine ⟨hjn, ?_⟩
    by_cases hji : j = i
    · subst hji; exact hy.qOp hi H
    · have := hdone _ _ H j (ready_mono hj hji)
      omega
  | succ f ih =>
    intro listed a inv hfree hr hy H
    have hun := (mem_ready.1 hr).1
    refine ⟨fun h => (by rw [h] at hr; cases hr), fun j hj => ?_⟩
    have hjn : j < n := by
      rcases Nat.lt_or_ge j n with h | h
      · exact h
      · exact absurd hj (tail_waits hs hc hn inv _ i rfl hin hun j h)
    refine ⟨hjn, ?_⟩
    by_cases hji : j = i
    · subst hji; exact hy.qOp hi H
    · have h1 := (H.2 j (ready_mono hj hji)).2
      obtain ⟨hjun, oj, hoj, hall⟩ := mem_ready.1 hj
      have hnot : ∀ e ∈ oj.after, Region.binds md e = true → e.on ≠ i := fun e he hb heq => by
        have h1 := hall e he hb
        rw [heq, getD_both hun] at h1
        cases h1
      have h2 := qOp_put hoj (hfree j oj hoj hji hjun hnot) (fun cs b => hsel i oi cs b hi) (fun cs b => hsel j oj cs b hoj) hy h1
      have hfree' : ∀ k ok, ops[k]? = some ok → k ≠ i → (listed.setIfInBounds j true).getD k true = false →
          (∀ e ∈ ok.after, Region.binds md e = true → e.on ≠ i) → oi.apart ops ok = true := fun k ok hk hki hun hno => by
        refine hfree k ok hk hki ?_ hno
        by_cases hjk : j = k
        · subst hjk; exact hjun
        · rw [getD_set_ne true hjk] at hun; exact hun
      refine qOp_mono (fun a' h3 => ih (listed.setIfInBounds j true) a' (inv.set hj hjn) hfree' (ready_mono hr (Ne.symm hji)) h3.1 ?_) h2
      rw [Array.setIfInBounds_comm _ _ hji]
      exact h3.2

theorem wpAnyLQ_lex {n g : Nat} {Lq : Act → Prop} (hsel : Region.noSelect ops = true) (hs : Region.sinkB md ops n = true) (hc : Region.chainB md ops n = true) (hn : n < ops.size) :
    ∀ (l : List Oper) (k : Nat) (listed : Array Bool) (a : Act), (∀ j, j < l.length → l[j]? = ops[k + j]?) → k + l.length = n → HeadInv md ops n listed →
    Region.lexHead md ops g l.length k listed = true → wpQuiet P ops C Lq l a →
    wpAnyLQ P md ops C n (fun listed' a' => Region.seqB md ops g n listed' = true ∧ Lq a') l.length listed a
  | [], k, listed, a, _, hk, _, hB, h => by
    have : k = n := by simpa using hk
    subst this
    exact ⟨by simpa [Region.lexHead] using hB, h⟩
  | o :: l, k, listed, a, hl, hk, inv, hB, h => by
    have h0 : ops[k]? = some o := by simpa using (hl 0 (by simp)).symm
    simp only [List.length_cons, Region.lexHead, Bool.and_eq_true] at hB
    obtain ⟨⟨hr, hf⟩, hB'⟩ := hB
    have hkn : k < n := by simp only [List.length_cons] at hk; omega
    have hr' : k ∈ Region.ready md ops listed := by simpa using hr
    have hst : qOp P ops C k (wpQuiet P ops C Lq l) a := by unfold qOp; simp only [h0]; exact h
    obtain ⟨v, hy, hK⟩ := yieldsIn_of_qOp h0 hst
    exact wpAnyLQ_first h0 (Region.noSelect_spec hsel) hs hc hn hkn (fun listed' a' hL => seqB_ready hL.1) l.length listed a inv (Region.free_spec h0 hf) hr' hy
      (wpAnyLQ_lex hsel hs hc hn l (k + 1) _ _ (fun j hj => by have := hl (j + 1) (by simp; omega); simpa [Nat.add_assoc, Nat.add_comm 1 j] using this) (by simp only [List.length_cons] at hk; omega) (inv.set hr' hkn) hB' hK)

theorem wpAny_of_headQ {n g : Nat} {L : Array Bool → Act → Prop} {Q' : Exit → Act → World → Prop} (hL : ∀ listed a w, C w → L listed a → wpAny P md ops Q' g listed a w) :
    ∀ (f : Nat) (listed : Array Bool) (a : Act) (w : World), C w → wpAnyLQ P md ops C n L f listed a → wpAny P md ops Q' (f + g) listed a w
  | 0, listed, a, w, hw, h => by rw [Nat.zero_add]; exact hL _ _ _ hw h
  | f + 1, listed, a, w, hw, h => by
    rw [show f + 1 + g = (f + g) + 1 by omega]
    exact ⟨fun h0 => absurd h0 h.1, fun i hi => wpOp_of_qOp hw (fun a' w' hw' h' => wpAny_of_headQ hL f _ a' w' hw' h') (h.2 i hi).2⟩
end

theorem wp_region_fam_tail {P : Program} {id : Nat} {Q : Exit → Act → World → Prop} {a : Act} {w : World} {l : List Oper} (n : Nat) (hm : P.follows .mixedOrders = true) (hB : Region.lexTailB .any l.toArray n = true)
    (h : wpQuiet P l.toArray (fun w' => ∃ n : Fam w, w' = n.v) (fun a' => ∀ w', (∃ n : Fam w, w' = n.v) → wpList P l.toArray Q (l.drop n) a' w') (l.take n) a) : (Code.region id l.toArray true).wp P Q a w := by
  simp only [Region.lexTailB, Bool.and_eq_true, decide_eq_true_eq] at hB
  obtain ⟨⟨⟨⟨hsel, hn⟩, hs⟩, hc⟩, hlex⟩ := hB
  have hn' : n < l.length := by simpa using hn
  have htl : (l.take n).length = n := by simp; omega
  have hdl : (l.drop n).length = l.toArray.size - n := by simp
  have inv0 : HeadInv .any l.toArray n (Array.replicate l.toArray.size false) :=
    ⟨by simp, fun j oj _ hl => (by rw [getD_replicate_false] at hl; cases hl), fun t _ ht => getD_in (by simpa using ht) (getD_replicate_false _ _)⟩
  have H := wpAnyLQ_lex (C := fun w' => ∃ n : Fam w, w' = n.v) (md := .any) (g := l.toArray.size - n) hsel hs hc hn (l.take n) 0 _ a (fun j hj => by
    have hj' : j < n := by rw [htl] at hj; exact hj
    simp [hj']) (by simpa using htl) inv0 (by rw [htl]; exact hlex) h
  refine wp_region_any hm ?_
  have := wpAny_of_headQ (Q' := Q) (g := l.toArray.size - n) (fun listed a' w' hw' hL => by
    have := wpAny_of_seq (md := .any) (Q' := Q) (l.drop n) n listed a' w' (fun j => by simp [List.getElem?_drop]) (by rw [hdl]; exact hL.1) (hL.2 w' hw')
    rwa [hdl] at this) _ _ _ _ (⟨⟨w.drew, (Fr.refl No w).drew⟩, rfl⟩ : ∃ n : Fam w, ({ w with drawn := w.drawn + 1 } : World) = n.v) H
  rw [htl, show n + (l.toArray.size - n) = l.toArray.size by omega] at this
  exact this

end Go.Proofs.YtoepbhacpidcbaaGreatDoor

/- build.Build: the index of a graph and an order; walked. -/
set_option linter.unusedVariables false
set_option linter.unusedSimpArgs false
namespace Go.Proofs.YtoepbhacpidcbaaGreatDoor
open Go.RowKit Go.Shelf Go.Deep

attribute [local go_sem] Oper.semAt_some

theorem Shape.putObj {L : IxLoc} {n : Nat} {bf : Nat → Nat} {W : World} {N : Nat} (h : Shape L n bf W) (l : Nat) (o : Obj) (hl : N ≤ l) (h1 : L.b < N) (h2 : L.br < N) (h3 : L.bb < N) (h4 : 0 < N) : Shape L n bf (W.putObj l o) := by
  obtain ⟨y, hy, h5⟩ := h
  exact ⟨y, hy.fr (fr_putObj (F := One l) W l o rfl) (fun (e : L.b = l) => by omega) (fun (e : L.br = l) => by omega) (fun (e : L.bb = l) => by omega) (fun (e : 0 = l) => by omega), h5⟩

end Go.Proofs.YtoepbhacpidcbaaGreatDoor

/- A region that draws its order, one of whose operations writes or makes memory, those ahead and those behind being quiet: one walk serves every order. -/
set_option linter.unusedVariables false
set_option linter.unusedSimpArgs false
namespace Go.Proofs.YtoepbhacpidcbaaGreatDoor
open Go.RowKit Go.Deep

section
variable {P : Program} {ops : Array Oper} {md : Region.Mode} {C : World → Prop}

def afterB (md : Region.Mode) (ops : Array Oper) (n : Nat) : Bool :=
  (List.range ops.size).all fun t => decide (t ≤ n) || (List.range t).any fun s => decide (n ≤ s) && Region.waitsFor md ops t s

/-- Each operation ahead of n, from lo on, is waited for by one up to n. -/
def sinkFrom (md : Region.Mode) (ops : Array Oper) (lo n : Nat) : Bool :=
  (List.range n).all fun i => decide (i < lo) || (List.range (n + 1)).any fun j => decide (i < j) && Region.waitsFor md ops j i
theorem tail_waits2 {lo n : Nat} {listed : Array Bool} (hs : sinkFrom md ops lo n = true) (hc : afterB md ops n = true) (hn : n < ops.size) (inv : HeadInv md ops n listed) :
    ∀ (d i : Nat), n - i = d → lo ≤ i → i < n → listed.getD i true = false → ∀ t, n ≤ t → t ∉ Region.ready md ops listed := by
  intro d
  induction d using Nat.strongRecOn with
  | _ d ih =>
    intro i hd hlo hi hun t ht hr
    obtain ⟨_, ot, hot, hall⟩ := mem_ready.1 hr
    have htlt : t < ops.size := (Array.getElem?_eq_some_iff.1 hot).1
    by_cases htn : t = n
    · subst htn
      have h1 := List.all_eq_true.1 hs i (List.mem_range.2 hi)
      have h1' : ((List.range (t + 1)).any fun j => decide (i < j) && Region.waitsFor md ops j i) = true := by
        rcases Bool.or_eq_true _ _ |>.mp h1 with h | h
        · have := of_decide_eq_true h; omega
        · exact h
      obtain ⟨j, hj, hj2⟩ := List.any_eq_true.1 h1'
      simp only [Bool.and_eq_true, decide_eq_true_eq] at hj2
      obtain ⟨oj, hoj, e, he, hb, hon⟩ := Region.waitsFor_spec hj2.2
      have hjle : j ≤ t := by have := List.mem_range.1 hj; omega
      by_cases hjt : j = t
      · subst hjt
        have : oj = ot := Option.some.inj (hoj.symm.trans hot)
        subst this
        have h2 := hall e he hb
        rw [hon, getD_both hun] at h2
        cases h2
      · cases hl : listed.getD j false with
        | true =>
          have h2 := inv.closed j oj hoj hl e he hb
          rw [hon, getD_both hun] at h2
          cases h2
        | false =>
          have hjs : j < listed.size := by rw [inv.size]; omega
          exact ih (t - j) (by omega) j rfl (by omega) (by omega) (getD_in hjs hl) t (Nat.le_refl _) hr
    · have h1 := List.all_eq_true.1 hc t (List.mem_range.2 htlt)
      simp only [Bool.or_eq_true, decide_eq_true_eq] at h1
      rcases h1 with h1 | h1
      · omega
      · obtain ⟨s, hs1, hs2⟩ := List.any_eq_true.1 h1
        simp only [Bool.and_eq_true, decide_eq_true_eq] at hs2
        have hst := List.mem_range.1 hs1
        obtain ⟨o', ho', e, he, hb, hon⟩ := Region.waitsFor_spec hs2.2
        have : o' = ot := Option.some.inj (ho'.symm.trans hot)
        subst this
        have h2 := hall e he hb
        rw [hon, getD_both (inv.tail s hs2.1 (by omega))] at h2
        cases h2

theorem wpAnyLQ_first2 {lo n i : Nat} {oi : Oper} {v : Value} {L : Array Bool → Act → Prop} (hi : ops[i]? = some oi) (hsel : ∀ (j : Nat) (o : Oper) cs b, ops[j]? = some o → o.op ≠ .select cs b)
    (hs : sinkFrom md ops lo n = true) (hc : afterB md ops n = true) (hn : n < ops.size) (hlo : lo ≤ i) (hin : i < n)
    (hdone : ∀ listed a, L listed a → ∀ j ∈ Region.ready md ops listed, n ≤ j) :
    ∀ (f : Nat) (listed : Array Bool) (a : Act), HeadInv md ops n listed →
      (∀ j oj, ops[j]? = some oj → j ≠ i → listed.getD j true = false → (∀ e ∈ oj.after, Region.binds md e = true → e.on ≠ i) → oi.apart ops oj = true) →
      i ∈ Region.ready md ops listed → YieldsIn P ops C oi v a →
      wpAnyLQ P md ops C n L f (listed.setIfInBounds i true) (a.put oi.dst v) → wpAnyLQ P md ops C n L (f + 1) listed a := by
  intro f
  induction f with
  | zero =>
    intro listed a inv _ hr hy H
    have hun := (mem_ready.1 hr).1
    refine ⟨fun h => (by rw [h] at hr; cases hr), fun j hj => ?_⟩
    have hjn : j < n := by
      rcases Nat.lt_or_ge j n with h | h
      · exact h
      · exact absurd hj (tail_waits2 hs hc hn inv _ i rfl hlo hin hun j h)
    refine ⟨hjn, ?_⟩
    by_cases hji : j = i
    · subst hji; exact hy.qOp hi H
    · have := hdone _ _ H j (ready_mono hj hji)
      omega
  | succ f ih =>
    intro listed a inv hfree hr hy H
    have hun := (mem_ready.1 hr).1
    refine ⟨fun h => (by rw [h] at hr; cases hr), fun j hj => ?_⟩
    have hjn : j < n := by
      rcases Nat.lt_or_ge j n with h | h
      · exact h
      · exact absurd hj (tail_waits2 hs hc hn inv _ i rfl hlo hin hun j h)
    refine ⟨hjn, ?_⟩
    by_cases hji : j = i
    · subst hji; exact hy.qOp hi H
    · have h1 := (H.2 j (ready_mono hj hji)).2
      obtain ⟨hjun, oj, hoj, hall⟩ := mem_ready.1 hj
      have hnot : ∀ e ∈ oj.after, Region.binds md e = true → e.on ≠ i := fun e he hb heq => by
        have h1 := hall e he hb
        rw [heq, getD_both hun] at h1
        cases h1
      have h2 := qOp_put hoj (hfree j oj hoj hji hjun hnot) (fun cs b => hsel i oi cs b hi) (fun cs b => hsel j oj cs b hoj) hy h1
      have hfree' : ∀ k ok, ops[k]? = some ok → k ≠ i → (listed.setIfInBounds j true).getD k true = false →
          (∀ e ∈ ok.after, Region.binds md e = true → e.on ≠ i) → oi.apart ops ok = true := fun k ok hk hki hun hno => by
        refine hfree k ok hk hki ?_ hno
        by_cases hjk : j = k
        · subst hjk; exact hjun
        · rw [getD_set_ne true hjk] at hun; exact hun
      refine qOp_mono (fun a' h3 => ih (listed.setIfInBounds j true) a' (inv.set hj hjn) hfree' (ready_mono hr (Ne.symm hji)) h3.1 ?_) h2
      rw [Array.setIfInBounds_comm _ _ hji]
      exact h3.2

/-- Some operations come up one by one, then the others in any order. -/
def midBase (md : Region.Mode) (ops : Array Oper) : Nat → Nat → Array Bool → Bool
  | 0, k, listed => Region.lexFrom md ops (ops.size - k) k listed
  | c + 1, k, listed => decide (Region.ready md ops listed = [k]) && midBase md ops c (k + 1) (listed.setIfInBounds k true)
def lexHead2 (md : Region.Mode) (ops : Array Oper) (c : Nat) : Nat → Nat → Array Bool → Bool
  | 0, k, listed => midBase md ops (c + 1) k listed
  | f + 1, k, listed => (Region.ready md ops listed).contains k && Region.free md ops listed k && lexHead2 md ops c f (k + 1) (listed.setIfInBounds k true)
def lexMidB (md : Region.Mode) (ops : Array Oper) (n c : Nat) : Bool :=
  Region.noSelect ops && decide (n + c < ops.size) && sinkFrom md ops 0 n && afterB md ops n && lexHead2 md ops c n 0 (Array.replicate ops.size false)

theorem midBase_ready {c k : Nat} {listed : Array Bool} (h : midBase md ops (c + 1) k listed = true) : ∀ j ∈ Region.ready md ops listed, k ≤ j := by
  intro j hj
  simp only [midBase, Bool.and_eq_true, decide_eq_true_eq] at h
  rw [h.1] at hj
  have : j = k := by simpa using hj
  omega

theorem wpAnyLQ_lex2 {lo n c : Nat} {Lq : Act → Prop} (hsel : Region.noSelect ops = true) (hs : sinkFrom md ops lo n = true) (hc : afterB md ops n = true) (hn : n < ops.size) :
    ∀ (l : List Oper) (k : Nat) (listed : Array Bool) (a : Act), (∀ j, j < l.length → l[j]? = ops[k + j]?) → k + l.length = n → lo ≤ k → HeadInv md ops n listed →
    lexHead2 md ops c l.length k listed = true → wpQuiet P ops C Lq l a →
    wpAnyLQ P md ops C n (fun listed' a' => midBase md ops (c + 1) n listed' = true ∧ Lq a') l.length listed a
  | [], k, listed, a, _, hk, _, _, hB, h => by
    have : k = n := by simpa using hk
    subst this
    exact ⟨by simpa [lexHead2] using hB, h⟩
  | o :: l, k, listed, a, hl, hk, hlo, inv, hB, h => by
    have h0 : ops[k]? = some o := by simpa using (hl 0 (by simp)).symm
    simp only [List.length_cons, lexHead2, Bool.and_eq_true] at hB
    obtain ⟨⟨hr, hf⟩, hB'⟩ := hB
    have hkn : k < n := by simp only [List.length_cons] at hk; omega
    have hr' : k ∈ Region.ready md ops listed := by simpa using hr
    have hst : qOp P ops C k (wpQuiet P ops C Lq l) a := by unfold qOp; simp only [h0]; exact h
    obtain ⟨v, hy, hK⟩ := yieldsIn_of_qOp h0 hst
    exact wpAnyLQ_first2 h0 (Region.noSelect_spec hsel) hs hc hn hlo hkn (fun listed' a' hL => midBase_ready hL.1) l.length listed a inv (Region.free_spec h0 hf) hr' hy
      (wpAnyLQ_lex2 hsel hs hc hn l (k + 1) _ _ (fun j hj => by have := hl (j + 1) (by simp; omega); simpa [Nat.add_assoc, Nat.add_comm 1 j] using this) (by simp only [List.length_cons] at hk; omega) (by omega) (inv.set hr' hkn) hB' hK)

/-- What may end normally alone. -/
def sureQ (X : Act → World → Prop) : Exit → Act → World → Prop
  | .normal, a, w => X a w
  | _, _, _ => False
theorem letsOut_sure {X : Act → World → Prop} (h : LetsOut (sureQ X)) : False := by
  obtain ⟨_, _, h⟩ := h
  exact h
theorem Oper.wp_sure {o : Oper} {a : Act} {w : World} {K : Act → World → Prop} {X : Act → World → Prop} {Q : Exit → Act → World → Prop} (hh : o.wp P a w K (sureQ X)) : o.wp P a w K Q := by
  unfold Oper.wp at *
  generalize (execOp a.eval o).run P w = r at *
  cases r with
  | ok n w' =>
    cases n <;> simp only [Oper.upon] at hh ⊢ <;>
      first
        | exact hh
        | exact hh.elim
        | (refine Calls.mono hh ?_
           intro e w'' h2
           cases e with
           | returned v => exact h2
           | panicked c => exact h2.elim
           | outgrown => exact (letsOut_sure h2).elim)
  | halt x w' =>
    cases x <;> simp only [Oper.upon] at hh ⊢
    all_goals first
      | exact hh.elim
      | exact hh
theorem wpAny_sure {Q : Exit → Act → World → Prop} : ∀ (fuel : Nat) (listed : Array Bool) (a : Act) (w : World), wpAny P md ops (sureQ (Q .normal)) fuel listed a w → wpAny P md ops Q fuel listed a w
  | 0, _, _, _, h => h
  | fuel + 1, listed, a, w, h => ⟨h.1, fun i hi => by
    have h1 := h.2 i hi
    have h2 := wpOp_mono (fun a' w' h' => wpAny_sure fuel (listed.setIfInBounds i true) a' w' h') h1
    unfold wpOp at h2 ⊢
    split
    · rename_i ho; simpa [ho] using h2
    · rename_i o ho
      simp only [ho] at h2
      split
      · rename_i hw
        simp only [hw, if_true] at h2
        rcases h2 with h3 | ⟨_, h3⟩
        · exact .inl (Oper.wp_sure h3)
        · exact (letsOut_sure h3).elim
      · rename_i hw
        simp only [hw] at h2
        exact h2⟩

/-- What the operations behind the ones that write are asked for. -/
def restQ (P : Program) (ops : Array Oper) (rest : List Oper) (Q : Exit → Act → World → Prop) (a : Act) (w : World) : Prop :=
  wpQuiet P ops (fun w' => ∃ n : Fam w, w' = n.v) (fun a3 => ∀ w3, (∃ n : Fam w, w3 = n.v) → Q .normal a3 w3) rest a
theorem sureQ_rest {rest : List Oper} {Q : Exit → Act → World → Prop} {a : Act} {w : World} (h : wpQuiet P ops (fun w' => ∃ n : Fam w, w' = n.v) (fun a3 => ∀ w3, (∃ n : Fam w, w3 = n.v) → Q .normal a3 w3) rest a) : sureQ (restQ P ops rest Q) .normal a w := h
theorem wpAny_of_mid {Q : Exit → Act → World → Prop} {rest : List Oper} (hsel : Region.noSelect ops = true) : ∀ (L : List Oper) (k : Nat) (listed : Array Bool) (a : Act) (w : World), (∀ j, j < L.length → L[j]? = ops[k + j]?) → (∀ j, rest[j]? = ops[k + L.length + j]?) → rest.length = ops.size - (k + L.length) →
    midBase md ops L.length k listed = true → wpList P ops (sureQ (restQ P ops rest Q)) L a w → wpAny P md ops (sureQ (Q .normal)) (L.length + rest.length) listed a w
  | [], k, listed, a, w, _, hr, hs, hB, h => by
    simp only [List.length_nil, Nat.zero_add]
    have h2 : restQ P ops rest Q a w := h
    refine wpAny_of_quiet (Q' := sureQ (Q .normal)) (C := fun w' => ∃ n : Fam w, w' = n.v) (Q := fun a3 => ∀ w3, (∃ n : Fam w, w3 = n.v) → Q .normal a3 w3) (fun _ w' hw' h => h w' hw') _ _ _ _ ⟨⟨w, Fr.refl No w⟩, rfl⟩ ?_
    have hB' : Region.lexFrom md ops rest.length k listed = true := by
      simp only [midBase, List.length_nil] at hB
      rw [hs]; exact hB
    exact wpAnyQ_lex hsel rest k _ a (fun j => by simpa using hr j) hB' h2
  | o :: L, k, listed, a, w, hl, hr, hs, hB, h => by
    have h0 : ops[k]? = some o := by simpa using (hl 0 (by simp)).symm
    simp only [List.length_cons, midBase, Bool.and_eq_true, decide_eq_true_eq] at hB
    rw [show (o :: L).length + rest.length = (L.length + rest.length) + 1 by simp; omega]
    refine ⟨fun h1 => (by rw [hB.1] at h1; cases h1), fun i hi => ?_⟩
    rw [hB.1] at hi
    have hik : i = k := by simpa using hi
    subst hik
    have hw : wpOp P ops (sureQ (restQ P ops rest Q)) i (wpList P ops (sureQ (restQ P ops rest Q)) L) a w := by unfold wpOp; simp only [h0]; exact h
    have hw2 := wpOp_mono (fun a' w' h' => wpAny_of_mid (Q := Q) hsel L (i + 1) (listed.setIfInBounds i true) a' w' (fun j hj => by have := hl (j + 1) (by simp; omega); simpa [Nat.add_assoc, Nat.add_comm 1 j] using this)
      (fun j => by have := hr j; rw [List.length_cons] at this; rw [this]; congr 1; omega) (by rw [hs, List.length_cons]; omega) hB.2 h') hw
    unfold wpOp at hw2 ⊢
    simp only [h0] at hw2 ⊢
    split
    · rename_i hwn
      simp only [hwn, if_true] at hw2
      rcases hw2 with h3 | ⟨_, h3⟩
      · exact .inl (Oper.wp_sure h3)
      · exact (letsOut_sure h3).elim
    · rename_i hwn
      simp only [hwn] at hw2
      exact hw2
end

/-- The operations from n on, c + 1 of them, may write; those ahead and those behind are quiet. -/
theorem wp_region_fam_mid {P : Program} {id : Nat} {Q : Exit → Act → World → Prop} {a : Act} {w : World} {l : List Oper} (n c : Nat) (hm : P.follows .mixedOrders = true) (hB : lexMidB .any l.toArray n c = true)
    (h : wpQuiet P l.toArray (fun w' => ∃ n : Fam w, w' = n.v) (fun a' => ∀ w', (∃ n : Fam w, w' = n.v) →
      wpList P l.toArray (sureQ (restQ P l.toArray (l.drop (n + (c + 1))) Q)) ((l.drop n).take (c + 1)) a' w') (l.take n) a) :
    (Code.region id l.toArray true).wp P Q a w := by
  simp only [lexMidB, Bool.and_eq_true, decide_eq_true_eq] at hB
  obtain ⟨⟨⟨⟨hsel, hn⟩, hs⟩, hc⟩, hlex⟩ := hB
  have hn' : n + c < l.length := by simpa using hn
  have htl : (l.take n).length = n := by simp; omega
  have hml : ((l.drop n).take (c + 1)).length = c + 1 := by simp; omega
  have inv0 : HeadInv .any l.toArray n (Array.replicate l.toArray.size false) :=
    ⟨by simp, fun j oj _ hl => (by rw [getD_replicate_false] at hl; cases hl), fun t _ ht => getD_in (by simpa using ht) (getD_replicate_false _ _)⟩
  have H := wpAnyLQ_lex2 (C := fun w' => ∃ n : Fam w, w' = n.v) (md := .any) (lo := 0) (c := c) hsel hs hc (by omega) (l.take n) 0 _ a (fun j hj => by
    have hj' : j < n := by rw [htl] at hj; exact hj
    simp [hj']) (by simpa using htl) (Nat.zero_le _) inv0 (by rw [htl]; exact hlex) h
  refine wp_region_any hm (wpAny_sure _ _ _ _ ?_)
  have := wpAny_of_headQ (Q' := sureQ (Q .normal)) (g := l.toArray.size - n) (fun listed a' w' hw' hL => by
    have h3 := wpAny_of_mid (md := .any) (Q := Q) (rest := l.drop (n + (c + 1))) hsel ((l.drop n).take (c + 1)) n listed a' w' (fun j hj => by
      rw [hml] at hj
      rw [List.getElem?_take_of_lt hj, List.getElem?_drop]; simp) (fun j => by rw [hml, List.getElem?_drop]; simp) (by rw [hml]; simp) (by rw [hml]; exact hL.1) (hL.2 w' hw')
    rw [hml] at h3
    have hlen : c + 1 + (l.drop (n + (c + 1))).length = l.toArray.size - n := by simp; omega
    rw [hlen] at h3
    exact h3) _ _ _ _ (⟨⟨w.drew, (Fr.refl No w).drew⟩, rfl⟩ : ∃ n : Fam w, ({ w with drawn := w.drawn + 1 } : World) = n.v) H
  rw [htl, show n + (l.toArray.size - n) = l.toArray.size by omega] at this
  exact this

def lexMidB0 (md : Region.Mode) (ops : Array Oper) (n c : Nat) : Bool :=
  Region.noSelect ops && decide (n + c < ops.size) && decide (1 ≤ n) && sinkFrom md ops 1 n && afterB md ops n && (Region.ready md ops (Array.replicate ops.size false)).contains 0 && Region.free md ops (Array.replicate ops.size false) 0 && lexHead2 md ops c (n - 1) 1 ((Array.replicate ops.size false).setIfInBounds 0 true)
/-- The same where the first operation is a move that nothing waits for but what writes. -/
theorem wp_region_fam_mid0 {P : Program} {id : Nat} {Q : Exit → Act → World → Prop} {a : Act} {w : World} {o0 : Oper} {l : List Oper} (n c : Nat) (x : Operand) (hx : o0.op = .move x) (hg : o0.guard = none) (hm : P.follows .mixedOrders = true) (hB : lexMidB0 .any (o0 :: l).toArray (n + 1) c = true)
    (h : wpQuiet P (o0 :: l).toArray (fun w' => ∃ n : Fam w, w' = n.v) (fun a' => ∀ w', (∃ n : Fam w, w' = n.v) →
      wpList P (o0 :: l).toArray (sureQ (restQ P (o0 :: l).toArray (l.drop (n + (c + 1))) Q)) ((l.drop n).take (c + 1)) a' w') (l.take n) (a.put o0.dst (a.eval x))) :
    (Code.region id (o0 :: l).toArray true).wp P Q a w := by
  simp only [lexMidB0, Bool.and_eq_true, decide_eq_true_eq] at hB
  obtain ⟨⟨⟨⟨⟨⟨⟨hsel, hn⟩, h1n⟩, hs⟩, hc⟩, hr0⟩, hf0⟩, hlex⟩ := hB
  have hn' : n + 1 + c < l.length + 1 := by simpa using hn
  have htl : (l.take n).length = n := by simp; omega
  have hml : ((l.drop n).take (c + 1)).length = c + 1 := by simp; omega
  have h00 : (o0 :: l).toArray[0]? = some o0 := by simp
  have hr0' : 0 ∈ Region.ready .any (o0 :: l).toArray (Array.replicate (o0 :: l).toArray.size false) := by simpa using hr0
  have inv00 : HeadInv .any (o0 :: l).toArray (n + 1) (Array.replicate (o0 :: l).toArray.size false) :=
    ⟨by simp, fun j oj _ hl => (by rw [getD_replicate_false] at hl; cases hl), fun t _ ht => getD_in (by simpa using ht) (getD_replicate_false _ _)⟩
  have inv0 := inv00.set hr0' (by omega)
  have H := wpAnyLQ_lex2 (C := fun w' => ∃ n : Fam w, w' = n.v) (md := .any) (lo := 1) (n := n + 1) (c := c) hsel hs hc (by omega) (l.take n) 1 _ (a.put o0.dst (a.eval x)) (fun j hj => by
    have hj' : j < n := by rw [htl] at hj; exact hj
    rw [Nat.add_comm 1 j]; simp [hj']) (by rw [htl]; omega) (Nat.le_refl _) inv0 (by rw [htl]; simpa using hlex) h
  refine wp_region_any hm (wpAny_sure _ _ _ _ ?_)
  have := wpAny_of_headQ (Q' := sureQ (Q .normal)) (g := (o0 :: l).toArray.size - (n + 1)) (fun listed a' w' hw' hL => by
    have h3 := wpAny_of_mid (md := .any) (Q := Q) (rest := l.drop (n + (c + 1))) hsel ((l.drop n).take (c + 1)) (n + 1) listed a' w' (fun j hj => by
      rw [hml] at hj
      rw [List.getElem?_take_of_lt hj, List.getElem?_drop, show n + 1 + j = (n + j) + 1 by omega]; simp) (fun j => by rw [hml, List.getElem?_drop, show n + 1 + (c + 1) + j = (n + (c + 1) + j) + 1 by omega]; simp) (by rw [hml]; simp; omega) (by rw [hml]; exact hL.1) (hL.2 w' hw')
    rw [hml] at h3
    have hlen : c + 1 + (l.drop (n + (c + 1))).length = (o0 :: l).toArray.size - (n + 1) := by simp; omega
    rw [hlen] at h3
    exact h3) _ _ _ _ (⟨⟨w.drew, (Fr.refl No w).drew⟩, rfl⟩ : ∃ n : Fam w, ({ w with drawn := w.drawn + 1 } : World) = n.v) H
  rw [htl, show n + ((o0 :: l).toArray.size - (n + 1)) = l.length by simp; omega] at this
  have hy : Yields P (o0 :: l).toArray o0 (a.eval x) a := by
    refine .inl ⟨by unfold Region.wanted; rw [hg], fun w' => ?_⟩
    unfold execOp; rw [hx]; rfl
  have ht := wpAny_take (Q := sureQ (Q .normal)) h00 hsel hf0 hr0 (fun c a w h => h.elim) hy this
  simpa using ht

end Go.Proofs.YtoepbhacpidcbaaGreatDoor
