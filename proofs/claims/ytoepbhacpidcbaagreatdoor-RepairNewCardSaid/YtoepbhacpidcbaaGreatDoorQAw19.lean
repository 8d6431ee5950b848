/- A keeper's steps, one behind the other: an iterator that turns memory between its yields; walked. -/
import Derived.Sort.LoopGhostIn
import Derived.Test.YtoepbhacpidcbaaGreatDoorQBase
import Derived.Test.YtoepbhacpidcbaaGreatDoorQIdx
import Derived.Test.YtoepbhacpidcbaaGreatDoorQPerm
import Derived.Test.YtoepbhacpidcbaaGreatDoorQIdxB
import Derived.Test.YtoepbhacpidcbaaGreatDoorQRef
import Derived.Test.YtoepbhacpidcbaaGreatDoorQUnref
import Derived.Test.YtoepbhacpidcbaaGreatDoorQItr
import Derived.Test.YtoepbhacpidcbaaGreatDoorQUnE
import Derived.Test.YtoepbhacpidcbaaGreatDoorQDst
import Derived.Test.YtoepbhacpidcbaaGreatDoorQLnk
import Derived.Test.YtoepbhacpidcbaaGreatDoorQLks
import Derived.Test.YtoepbhacpidcbaaGreatDoorQMid
import Derived.Test.YtoepbhacpidcbaaGreatDoorQBig
import Derived.Test.YtoepbhacpidcbaaGreatDoorQCp2
import Derived.Test.YtoepbhacpidcbaaGreatDoorQGoes
import Derived.Test.YtoepbhacpidcbaaGreatDoorQGOps
import Derived.Test.YtoepbhacpidcbaaGreatDoorQGB
import Derived.Test.YtoepbhacpidcbaaGreatDoorQG8
import Derived.Test.YtoepbhacpidcbaaGreatDoorQWh
import Derived.Test.YtoepbhacpidcbaaGreatDoorQDMov
import Derived.Test.YtoepbhacpidcbaaGreatDoorQWk
import Derived.Test.YtoepbhacpidcbaaGreatDoorQBt1
import Derived.Test.YtoepbhacpidcbaaGreatDoorQHpK
import Derived.Test.YtoepbhacpidcbaaGreatDoorQOc
import Derived.Test.YtoepbhacpidcbaaGreatDoorQSqO
import Derived.Test.YtoepbhacpidcbaaGreatDoorQAps
import Derived.Test.YtoepbhacpidcbaaGreatDoorQKq
import Derived.Test.YtoepbhacpidcbaaGreatDoorQRBt
import Derived.Test.YtoepbhacpidcbaaGreatDoorQAll
import Derived.Test.YtoepbhacpidcbaaGreatDoorQWhl
import Derived.Test.YtoepbhacpidcbaaGreatDoorQKl
import Derived.Test.YtoepbhacpidcbaaGreatDoorQRB
import Derived.Test.YtoepbhacpidcbaaGreatDoorQRbd
import Derived.Test.YtoepbhacpidcbaaGreatDoorQBuL
import Derived.Test.YtoepbhacpidcbaaGreatDoorQClb
import Derived.Test.YtoepbhacpidcbaaGreatDoorQKs

set_option linter.unusedVariables false
set_option linter.unusedSimpArgs false
namespace Go.Proofs.YtoepbhacpidcbaaGreatDoor
open Go.RowKit Go.Shelf Go.Deep

attribute [local go_sem] Oper.semAt_some

/-- What an iterator owes that turns the blocks M between its yields: T is how it stands behind so many yields. -/
def SeqM {α : Type} (F : Fence) (n : Nat) (P : Program) (g : Nat) (lb : Array Value) (encs : α → Array Value) (M : Nat → Prop) (T : List α → World → Prop) (S : List α → Prop) : Prop :=
  ∀ (l : Nat) (J Jx : List α → World → Prop) (W : World), (∀ pre A B, J pre A → Fr M A B → J pre B) →
    (∀ pre x W1, J pre W1 → T (pre ++ [x]) W1 → YieldAt F (n - 1) P l (encs x) W1 fun e W' => (e = .returned (.bool true) ∧ J (pre ++ [x]) W' ∧ T (pre ++ [x]) W') ∨ (e = .returned (.bool false) ∧ Jx (pre ++ [x]) W')) →
    J [] W → T [] W → CallsIn F n P g (#[.func (.yield l) #[] #[]] ++ lb) W fun e W' => (∃ v, e = .returned v) ∧ ((∃ xs, S xs ∧ J xs W' ∧ T xs W') ∨ (∃ pre, Jx pre W'))

/-- One round whose element is laid in a block of its own. -/
theorem yield_M {P : Program} {F : Fence} {n B : Nat} {α : Type} {encs : α → Array Value} {ps : Array Tmp} {assign body : Code} {t : Array Value} {fn : FuncId} (hfn : F.fn fn) (hps : ∀ x, (encs x).size = ps.size)
    {I : List α → World → Prop} {I1 : World → Prop} {Ix : Code → List α → World → Prop} (hI : OwnFrom B I) (hI1 : OwnFrom B (fun (_ : Unit) W => I1 W)) (hIx : ∀ c, OwnFrom B (Ix c)) {A : α → Nat → Act} {Cx : α → Array Value} {ty : TypeId} {pre : List α} {x : α} {W : World}
    (hassign : ∀ (W : World) (K : Act → World → Prop), K (A x W.heap.size) (W.alloc (.cells (Cx x) ty)) → assign.wpIn (F.inRound (B + 1)) n P (Exit.then K (fun _ _ _ => False)) { tmps := (ps.zip (encs x)).foldl (fun t (p, v) => t.setIfInBounds p v) t, defers := [] } W)
    (hbody : ∀ (W : World) (b : Nat), (∃ r, W.heap[B + 1]? = some (.loop r)) → I1 W → B + 2 ≤ b → W.heap[b]? = some (.cells (Cx x) ty) → body.wpIn (F.inRound (B + 1)) n P (ownPostG B (fun _ _ => True) I Ix (pre ++ [x]) W) (A x b) W)
    (hi : I1 W) (hl : W.heap[B + 1]? = some (recO B fn t ps assign body .ready none)) (hd : W.heap[B]? = some (.deferred (some []))) :
    YieldAt F n P (B + 1) (encs x) W fun e W' =>
      (e = .returned (.bool true) ∧ (I (pre ++ [x]) W' ∧ W'.heap[B + 1]? = some (recO B fn t ps assign body .ready none) ∧ W'.heap[B]? = some (.deferred (some [])))) ∨
      (e = .returned (.bool false) ∧ ∃ c, Ix c (pre ++ [x]) W' ∧ W'.heap[B + 1]? = some (recO B fn t ps assign body .done (some c)) ∧ W'.heap[B]? = some (.deferred (some []))) := by
  have hne : B ≠ B + 1 := by omega
  have hlt := heap_lt hl
  obtain ⟨Wa, hWa⟩ : ∃ Wa, W.alloc (.cells (Cx x) ty) = Wa := ⟨_, rfl⟩
  have fa : Fr No W Wa := by rw [← hWa]; exact (Fr.refl No W).alloc _
  have la : Wa.heap[B + 1]? = some (recO B fn t ps assign body .ready none) := (fa.block _ hlt (fun h => h)).trans hl
  have da : Wa.heap[B]? = some (.deferred (some [])) := (fa.block _ (heap_lt hd) (fun h => h)).trans hd
  have ca : Wa.heap[W.heap.size]? = some (.cells (Cx x) ty) := by rw [← hWa]; exact heap_new W _
  have ia : I1 Wa := hI1 () _ _ none hi (fr_grownBy fa) (fun r e => by cases e)
  refine ⟨fn, _, assign, body, run_yield hl (hps x), roundIn_of_wpIn hfn (hassign W _ ?_)⟩
  rw [hWa]
  refine ⟨_, run_beginRound la rfl, ?_⟩
  have hlta := heap_lt la
  obtain ⟨W2, hW2⟩ : ∃ W2, Wa.putObj (B + 1) (recO B fn t ps assign body .busy none) = W2 := ⟨_, rfl⟩
  have l2 : W2.heap[B + 1]? = some (recO B fn t ps assign body .busy none) := by rw [← hW2]; exact World.putObj_heap_same hlta
  have d2 : W2.heap[B]? = some (.deferred (some [])) := by rw [← hW2]; exact (World.putObj_heap_other hne).trans da
  have c2 : W2.heap[W.heap.size]? = some (.cells (Cx x) ty) := by rw [← hW2]; exact (World.putObj_heap_other (by omega)).trans ca
  have i2 : I1 W2 := by rw [← hW2]; exact OwnFrom.putObj (s := ()) hI1 _ ia (by omega) la rfl
  show body.wpIn _ _ _ _ _ (Wa.putObj (B + 1) (recO B fn t ps assign body .busy none))
  rw [hW2]
  refine wpIn_mono (hbody W2 _ ⟨_, l2⟩ i2 (by omega) c2) ?_
  have hend : ∀ (j : Option Code) (W3 : World), KeepsFrom B W2 W3 → (Instr.endRound (B + 1) j).run P W3 = .ok (.bool j.isNone) (W3.putObj (B + 1) (recO B fn t ps assign body (if j.isNone then .ready else .done) j)) ∧ W3.heap[B + 1]? = some (recO B fn t ps assign body .busy none) ∧ W3.heap[B]? = some (.deferred (some [])) := fun j W3 hk =>
    ⟨run_endRound j (hk.same _ _ (by omega) l2 rfl), hk.same _ _ (by omega) l2 rfl, hk.same _ _ (Nat.le_refl _) d2 rfl⟩
  have hafter : ∀ (j : Option Code) (st : LoopState) (W3 : World), W3.heap[B + 1]? = some (recO B fn t ps assign body .busy none) → W3.heap[B]? = some (.deferred (some [])) → (W3.putObj (B + 1) (recO B fn t ps assign body st j)).heap[B + 1]? = some (recO B fn t ps assign body st j) ∧ (W3.putObj (B + 1) (recO B fn t ps assign body st j)).heap[B]? = some (.deferred (some [])) := fun j st W3 h3 h4 =>
    ⟨World.putObj_heap_same (heap_lt h3), (World.putObj_heap_other hne).trans h4⟩
  intro e a3 W3 hp
  match e, hp with
  | .normal, ⟨hk, _, hi3⟩ =>
    obtain ⟨hr, l3, d3⟩ := hend none W3 hk
    obtain ⟨l4, d4⟩ := hafter none .ready W3 l3 d3
    exact ⟨_, _, hr, .inl ⟨rfl, hI.putObj _ hi3 (by omega) l3 rfl, l4, d4⟩⟩
  | .ret, ⟨hk, hi3⟩ =>
    obtain ⟨hr, l3, d3⟩ := hend (some .ret) W3 hk
    obtain ⟨l4, d4⟩ := hafter (some .ret) .done W3 l3 d3
    exact ⟨_, _, hr, .inr ⟨rfl, .ret, (hIx _).putObj _ hi3 (by omega) l3 rfl, l4, d4⟩⟩
  | .exit id, ⟨hk, hi3⟩ =>
    obtain ⟨hr, l3, d3⟩ := hend (some (.exit id)) W3 hk
    obtain ⟨l4, d4⟩ := hafter (some (.exit id)) .done W3 l3 d3
    exact ⟨_, _, hr, .inr ⟨rfl, .exit id, (hIx _).putObj _ hi3 (by omega) l3 rfl, l4, d4⟩⟩
  | .goto u, ⟨hk, hi3⟩ =>
    obtain ⟨hr, l3, d3⟩ := hend (some (.goto u)) W3 hk
    obtain ⟨l4, d4⟩ := hafter (some (.goto u)) .done W3 l3 d3
    exact ⟨_, _, hr, .inr ⟨rfl, .goto u, (hIx _).putObj _ hi3 (by omega) l3 rfl, l4, d4⟩⟩
  | .panic _, hp => exact hp.elim
  | .outgrown, hp => exact hp.elim

theorem wpIn_rangeFunc_M {P : Program} {F : Fence} {n : Nat} {α : Type} {g : Operand} {ps : Array Tmp} {assign body : Code} {Q : Exit → Act → World → Prop} {a : Act} {w : World}
    (hro : F.round = none) (h1 : 1 ≤ n) {gf : Nat} {lb : Array Value} (hg : a.eval g = .func (.func gf) #[] lb) (hFg : F.fn gf) (eg : ∀ args w, (callFunc gf args).run P w = .ok (.enter gf args) w)
    {encs : α → Array Value} {M : Nat → Prop} {T : List α → World → Prop} {S : List α → Prop} (hseq : SeqM F (n - 1) P gf lb encs M T S) (hM : ∀ j, M j → j < w.heap.size) (hps : ∀ x, (encs x).size = ps.size)
    (I : List α → World → Prop) (Ix : Code → List α → World → Prop) (hI : OwnFrom w.heap.size I) (hIx : ∀ c, OwnFrom w.heap.size (Ix c)) (hT : OwnFrom w.heap.size T) (hIM : ∀ pre A B, I pre A → Fr M A B → I pre B) (h0 : I [] w) (hT0 : T [] w) (A : α → Nat → Act) (Cx : α → Array Value) (ty : TypeId)
    (hassign : ∀ (l : Nat) (x : α) (W : World) (K : Act → World → Prop), K (A x W.heap.size) (W.alloc (.cells (Cx x) ty)) → assign.wpIn (F.inRound l) (n - 1 - 1) P (Exit.then K (fun _ _ _ => False)) { tmps := (ps.zip (encs x)).foldl (fun t (p, v) => t.setIfInBounds p v) a.tmps, defers := [] } W)
    (hbody : ∀ (l : Nat) (pre : List α) (x : α) (W : World) (b : Nat), w.heap.size ≤ l → (∃ r, W.heap[l]? = some (.loop r)) → I pre W → T (pre ++ [x]) W → w.heap.size + 2 ≤ b → W.heap[b]? = some (.cells (Cx x) ty) → body.wpIn (F.inRound l) (n - 1 - 1) P (ownPostG w.heap.size (fun _ _ => True) (fun s W => I s W ∧ T s W) Ix (pre ++ [x]) W) (A x b) W)
    (hdone : ∀ (D : Nat) (xs : List α) (W : World), w.heap.size ≤ D → S xs → I xs W → T xs W → W.heap[D]? = some (.deferred (some [])) → Q .normal { a with defers := { target := .collected D, args := #[] } :: a.defers } W)
    (hstop : ∀ (D : Nat) (c : Code) (pre : List α) (W : World), w.heap.size ≤ D → Ix c pre W → W.heap[D]? = some (.deferred (some [])) → c.wpIn F n P Q { a with defers := { target := .collected D, args := #[] } :: a.defers } W) :
    (Code.rangeFunc g ps assign body).wpIn F n P Q a w := by
  refine wpIn_rangeFunc fun fn hfn => ?_
  obtain ⟨B, hB⟩ : ∃ B, w.heap.size = B := ⟨_, rfl⟩
  rw [hB] at hM hI hIx hT hbody hdone hstop
  obtain ⟨W1, hW1⟩ : ∃ W1, (w.alloc (.deferred (some []))).alloc (recO B fn a.tmps ps assign body .ready none) = W1 := ⟨_, rfl⟩
  have hs1 : W1.heap.size = B + 2 := by rw [← hW1, ← hB]; simp
  have l1 : W1.heap[B + 1]? = some (recO B fn a.tmps ps assign body .ready none) := by rw [← hW1, ← hB]; exact heap_alloc2_new w _ _
  have d1 : W1.heap[B]? = some (.deferred (some [])) := by rw [← hW1, ← hB]; exact heap_alloc2_old w _ _
  have al : ∀ {β : Type} {R : β → World → Prop} {s : β}, OwnFrom B R → R s w → R s W1 := fun {β R s} hR h => by
    rw [← hW1]; rw [← hB] at hR; exact hR.alloc _ (hR.alloc _ h)
  have i1 : I [] W1 := al hI h0
  have t1 : T [] W1 := al hT hT0
  have hIT : OwnFrom B (fun s W => I s W ∧ T s W) := OwnFrom.both hI hT
  refine ⟨B + 1, [{ target := .collected B, args := #[] }], W1, { target := .fn (.func gf) lb, args := #[.func (.yield (B + 1)) #[] #[]] }, W1, gf, #[.func (.yield (B + 1)) #[] #[]] ++ lb, W1, ?_, ?_, ?_, ?_, fun _ => h1, ?_⟩
  · rw [hro, ← hW1, ← hB]; exact run_enterLoop_outer _ _ _ _ _
  · simp only [resolve, hg]; simp [go_sem]
  · intro f' hf'; simp [Target.leads] at hf'; subst hf'; exact hFg
  · simp [invoke, go_sem, eg]
  · refine (hseq (B + 1) (fun pre W => I pre W ∧ W.heap[B + 1]? = some (recO B fn a.tmps ps assign body .ready none) ∧ W.heap[B]? = some (.deferred (some [])))
      (fun pre W => ∃ c, Ix c pre W ∧ W.heap[B + 1]? = some (recO B fn a.tmps ps assign body .done (some c)) ∧ W.heap[B]? = some (.deferred (some []))) W1
      (fun pre A' B' h hf => ⟨hIM pre A' B' h.1 hf, (hf.block _ (heap_lt h.2.1) (fun hm => by have := hM _ hm; omega)).trans h.2.1, (hf.block _ (heap_lt h.2.2) (fun hm => by have := hM _ hm; omega)).trans h.2.2⟩)
      (fun pre x W hJ hTx => ?_) ⟨i1, l1, d1⟩ t1).mono ?_
    · refine (yield_M (I := fun s W => I s W ∧ T s W) (I1 := fun W => I pre W ∧ T (pre ++ [x]) W) (pre := pre) (x := x) (A := A) hfn hps hIT (fun _ X Y row hs hg hr => ⟨hI pre X Y row hs.1 hg hr, hT (pre ++ [x]) X Y row hs.2 hg hr⟩) hIx (fun W K => hassign (B + 1) x W K) (fun W b hr hi hb hc => hbody (B + 1) pre x W b (by omega) hr hi.1 hi.2 hb hc) ⟨hJ.1, hTx⟩ hJ.2.1 hJ.2.2).mono ?_
      rintro e W' (⟨he, ⟨h1, h2⟩, h3⟩ | ⟨he, h2⟩)
      · exact .inl ⟨he, ⟨h1, h3⟩, h2⟩
      · exact .inr ⟨he, h2⟩
    · rintro e W2 ⟨⟨v, rfl⟩, (⟨xs, hS, ⟨hi, hl, hd⟩, ht⟩ | ⟨pre, c, hi, hl, hd⟩)⟩
      · exact ⟨none, _, run_endLoop hl (by simp), hdone B xs _ (Nat.le_refl _) hS (hI.putObj _ hi (by omega) hl rfl) (hT.putObj _ ht (by omega) hl rfl) ((World.putObj_heap_other (by omega)).trans hd)⟩
      · exact ⟨some c, _, run_endLoop hl (by simp), hstop B c pre _ (Nat.le_refl _) ((hIx c).putObj _ hi (by omega) hl rfl) ((World.putObj_heap_other (by omega)).trans hd)⟩

set_option maxRecDepth 100000 in
set_option maxHeartbeats 2000000 in
theorem qlen_calls {n : Nat} {rk by_ : Nat → Nat} {d : Nat → Bool} {w : World} {Q : QLoc} (h : QMem w Q n rk by_ d) : Calls Tryz.prog 165 #[.pointer (some ⟨Q.b, 0, none⟩)] w fun e w' => ∃ r : Nat, e = .returned (.int .i64 (r : Nat)) ∧ (0 < r ↔ flo (fun r => d (by_ r)) n < n) ∧ Fr No w w' := by
  obtain ⟨s, hs1, hs2⟩ := h.s
  have c2 : w.cell? ⟨Q.b, 2, none⟩ = some (.int .u64 (s : Nat)) := hs1.cell (i := 2) (by omega)
  have hlt := hs2.lt
  have hiff : s ≠ 0 ↔ flo (fun r => d (by_ r)) n < n := by
    rcases hs2.flo with ⟨h1, h2⟩ | ⟨h1, h2, _⟩
    · constructor
      · intro h; exact absurd h1 h
      · intro h; omega
    · exact ⟨fun _ => h2, fun _ => h1⟩
  have HI := hid hiff
  clear h hs1 hs2 hiff
  go_enter Tryz.func165, Tryz.ntmps165
  go_wp2_with fail
  refine (slen_calls s hlt _).mono ?_
  rintro e w1 ⟨r, rfl, h1, h2⟩
  go_wp2
  go_ret
  exact ⟨r, rfl, h1.trans HI.out, h2⟩

noncomputable def numOf (p : Nat → Prop) : Nat := @dite _ (∃ s, SetOf s p) (Classical.propDecidable _) (fun h => h.choose) (fun _ => 0)
theorem SetOf.num {s : Nat} {p : Nat → Prop} (h : SetOf s p) : numOf p = s := by
  unfold numOf
  have hex : ∃ s, SetOf s p := ⟨s, h⟩
  rw [dif_pos hex]
  exact SetOf.eq hex.choose_spec h (fun _ => Iff.rfl)
noncomputable def wkEnc (x : Wrk) : Array Value := #[wkAgg x.v x.c x.w x.t (numOf (fun z => x.m z = true))]

structure WkT (k : KLoc) (K : Kp) (L : GLoc) (G : Gr) (B1 B2 : Nat) (pre : List Wrk) (W : World) : Prop where
  e : pre = Kp.wks G pre.length K
  km : KMem W k (Kp.run G pre.length K)
  gm : GMem W L G
  c1 : W.cell? ⟨B1, 0, none⟩ = some (.pointer (some ⟨k.b, 0, none⟩))
  c2 : W.cell? ⟨B2, 0, none⟩ = some (.pointer (some ⟨L.b, 0, none⟩))

theorem WkT.no {k : KLoc} {K : Kp} {L : GLoc} {G : Gr} {B1 B2 : Nat} {pre : List Wrk} {A B : World} (h : WkT k K L G B1 B2 pre A) (hf : Fr No A B) : WkT k K L G B1 B2 pre B :=
  ⟨h.e, h.km.no hf, h.gm.no hf, hf.cell_some h.c1 (fun h => h), hf.cell_some h.c2 (fun h => h)⟩
theorem Kp.run_snoc (G : Gr) (i : Nat) (K : Kp) (h : (Kp.run G i K).fl < (Kp.run G i K).x.n) : Kp.run G (i + 1) K = (Kp.run G i K).step G ∧ Kp.wks G (i + 1) K = Kp.wks G i K ++ [(Kp.run G i K).work G] := by
  obtain ⟨h1, h2⟩ := Kp.run_add G i 1 K
  have e1 : Kp.run G 1 (Kp.run G i K) = (Kp.run G i K).step G := by rw [Kp.run_succ, if_pos h]; rfl
  have e2 : Kp.wks G 1 (Kp.run G i K) = [(Kp.run G i K).work G] := by rw [Kp.wks_succ, if_pos h]; rfl
  exact ⟨h1.trans e1, by rw [h2, e2]⟩

set_option maxRecDepth 100000 in
set_option maxHeartbeats 4000000 in
theorem works1_M {k : KLoc} {K : Kp} {L : GLoc} {G : Gr} (hwt : G.Wt) (hsep : ∀ j, L.own G.n j → ¬ k.own j) (B1 B2 : Nat) (b1 : ¬ k.own B1) (b2 : ¬ k.own B2) :
    SeqM Fence.wide 6 Tryz.prog 164 #[.pointer (some ⟨B1, 0, none⟩), .pointer (some ⟨B2, 0, none⟩)] wkEnc k.own (WkT k K L G B1 B2) (fun xs => ¬ (Kp.run G xs.length K).fl < K.x.n) := fun l J Jx W hM hY h0 hT => by
  have HM := hid hM
  have HY := hid hY
  have H0 := hid h0
  have HT := hid hT
  have c1 := hT.c1
  have c2 := hT.c2
  have HWT := hid hwt
  have HSEP := hid hsep
  clear hM hY h0 hT hwt hsep
  refine callsIn_of_wp Tryz.func164 rfl trivial ?_ rfl
  simp only [Tryz.ntmps164, List.size_toArray, List.length_cons, List.length_nil, Nat.reduceAdd, Nat.reduceSub, Array.replicate_succ, Array.replicate_zero, List.push_toArray, List.append_toArray, List.nil_append, List.cons_append]
  gi_wp2
  clear c1 c2
  gi_loopg [] (K.x.n - K.fl) (fun g wr => ∃ pre : List Wrk, g = K.x.n - (Kp.run G pre.length K).fl ∧ J pre wr ∧ WkT k K L G B1 B2 pre wr)
  case atStart => exact ⟨[], rfl, H0.out, HT.out⟩
  case round =>
    obtain ⟨pre, hgk, hj, ht⟩ := hrel
    obtain ⟨i, hi⟩ : ∃ i, pre.length = i := ⟨_, rfl⟩
    have HI := hid hi
    have hn := (Kp.run_n G i K).1
    have hkm := ht.km
    rw [hi] at hgk hkm
    obtain ⟨C, hC⟩ : ∃ C, Kp.run G i K = C := ⟨_, rfl⟩
    rw [hC] at hgk hkm hn
    have HC := hid hC
    have HGK := hid hgk
    have c1 := ht.c1
    have c2 := ht.c2
    have cq := hkm.cq
    have HJ := hid hj
    have HTT := hid ht
    have HKM := hid hkm
    have HN := hid hn
    clear hgk hj ht hkm hC hi hn
    gi_wp2_with fail
    refine ⟨trivial, callsIn_wide.2 ((qlen_calls HKM.out.q).mono ?_)⟩
    rintro e w1 ⟨r, rfl, hr, hf1⟩
    have hfl : (0 < r ↔ C.fl < C.x.n) := hr
    have HT1 := hid (HTT.out.no hf1)
    have HJ1 := hid (HM.out pre _ _ HJ.out hf1.no)
    have HKM1 := hid (HKM.out.no hf1)
    have c1 := hf1.cell_some c1 (fun h => h)
    have c2 := hf1.cell_some c2 (fun h => h)
    clear hf1 hr HJ HTT HKM cq
    by_cases h0 : C.fl < C.x.n
    · have hrr : 0 < r := hfl.2 h0
      have hd1 : decide ((r : Int) > 0) = true := by simp; omega
      have hd2 : decide ((0 : Int) < (r : Int)) = true := by simp; omega
      have hwks := Kp.run_snoc G i K (by rw [HC.out]; exact h0)
      rw [HC.out] at hwks
      have HW := hid hwks
      have hfls := HKM1.out.ok.fl_step HWT.out h0
      have hflN : C.fl < K.x.n := by rw [← HN.out]; exact h0
      have HFS := hid (And.intro hfls hflN)
      have HFL := hid h0
      clear hfl h0 hwks hfls hflN
      gi_wp2_with fail
      refine ⟨trivial, callsIn_wide.2 ((kstep_yes HKM1.out HT1.out.gm HWT.out HSEP.out HFL.out).mono ?_)⟩
      rintro e w2 ⟨m, rfl, hm, hf2, hk2⟩
      have henc : wkEnc (C.work G) = #[wkAgg (C.work G).v (C.work G).c (C.work G).w (C.work G).t m] := by unfold wkEnc; rw [hm.num]
      unfold wkAgg at henc
      have hT2 : WkT k K L G B1 B2 (pre ++ [C.work G]) w2 := by
        have e1 : (pre ++ [C.work G]).length = i + 1 := by simp [HI.out]
        refine ⟨?_, ?_, HT1.out.gm.fr hf2 HSEP.out, hf2.cell_some c1 b1, hf2.cell_some c2 b2⟩
        · have e2 := HT1.out.e
          rw [HI.out] at e2
          rw [e1, HW.out.2, ← e2]
        · rw [e1, HW.out.1]; exact hk2
      have hJ2 : J pre w2 := HM.out pre _ _ HJ1.out hf2
      have HENC := hid henc
      have HT2 := hid hT2
      have HJ2 := hid hJ2
      obtain ⟨x, hx⟩ : ∃ x, C.work G = x := ⟨_, rfl⟩
      have HX := hid hx
      rw [hx] at HENC HT2
      unfold wkAgg
      rw [hx]
      obtain ⟨vv, hvv⟩ : ∃ v, x.v = v := ⟨_, rfl⟩
      obtain ⟨vc, hvc⟩ : ∃ v, x.c = v := ⟨_, rfl⟩
      obtain ⟨vw, hvw⟩ : ∃ v, x.w = v := ⟨_, rfl⟩
      obtain ⟨vt, hvt⟩ : ∃ v, x.t = v := ⟨_, rfl⟩
      rw [hvv, hvc, hvw, hvt] at HENC ⊢
      have f3 : Fr No w2 (w2.alloc (.cells #[.int .i64 (vv : Nat), .int .i64 (vc : Nat), .int .i64 (vw : Nat), .int .i64 (vt : Nat), .int .u64 (m : Nat)] 81)) := (Fr.refl No w2).alloc _
      have hyk := HY.out pre x _ (HM.out pre _ _ HJ2.out f3.no) (HT2.out.no f3)
      rw [HENC.out] at hyk
      obtain ⟨fn, tmps, assign, body, hy, hR⟩ := hyk
      clear hm hf2 hk2 hT2 hJ2 henc hx hvv hvc hvw hvt HJ1 HT1 HKM1 c1 c2 f3
      gi_wp2_with fail
      refine hR.mono ?_
      clear hy hR
      rintro e w6 (⟨rfl, hj6, ht6⟩ | ⟨rfl, hj6⟩)
      · have HJ6 := hid hj6
        have HT6 := hid ht6
        clear hj6 ht6
        gi_wp2_with fail
        gi_roundg (K.x.n - (C.step G).fl)
        case rel => exact ⟨pre ++ [x], by rw [show (pre ++ [x]).length = i + 1 by simp [HI.out], HW.out.1], HJ6.out, HT6.out⟩
        case measure => rw [HGK.out]; have := HFS.out; omega
      · have HJ6 := hid hj6
        clear hj6
        gi_wp2
        refine bodyPost_ret (results_none rfl _ _ _) rfl ?_
        exact ⟨⟨_, rfl⟩, .inr ⟨_, HJ6.out⟩⟩
    · have hrr : r = 0 := by
        rcases Nat.eq_zero_or_pos r with h | h
        · exact h
        · exact absurd (hfl.1 h) h0
      subst hrr
      have HFL := hid (show ¬ (Kp.run G pre.length K).fl < K.x.n by rw [HI.out, HC.out, ← HN.out]; exact h0)
      clear hfl h0
      gi_wp2
      go_end0
      exact ⟨⟨_, rfl⟩, .inl ⟨pre, HFL.out, HJ1.out, HT1.out⟩⟩

end Go.Proofs.YtoepbhacpidcbaaGreatDoor
/- A keeper's Run; walked. -/
set_option linter.unusedVariables false
set_option linter.unusedSimpArgs false
namespace Go.Proofs.YtoepbhacpidcbaaGreatDoor
open Go.RowKit Go.Shelf Go.Deep

attribute [local go_sem] Oper.semAt_some

theorem info_work : (Tryz.prog.info? 81).map (fun i => (i.zero, i.size, i.bytes)) = some (some (.agg #[.int .i64 0, .int .i64 0, .int .i64 0, .int .i64 0, .int .u64 0]), 5, 40) := by kernel_rfl
theorem i_work : ∃ i, Tryz.prog.info? 81 = some i ∧ i.zero = some (.agg #[.int .i64 0, .int .i64 0, .int .i64 0, .int .i64 0, .int .u64 0]) ∧ i.size = 5 ∧ i.bytes = 40 := by
  obtain ⟨i, hi, h⟩ := Option.map_eq_some_iff.1 info_work
  simp only [Prod.mk.injEq] at h
  exact ⟨i, hi, h.1, h.2.1, h.2.2⟩
noncomputable def wkCl (x : Wrk) : List Value := [.int .i64 (x.v : Nat), .int .i64 (x.c : Nat), .int .i64 (x.w : Nat), .int .i64 (x.t : Nat), .int .u64 (numOf (fun z => x.m z = true) : Nat)]
noncomputable def wkCells (l : List Wrk) : List Value := l.flatMap wkCl
theorem wkCells_app (l : List Wrk) (y : Wrk) : wkCells (l ++ [y]) = wkCells l ++ wkCl y := by simp [wkCells]

set_option maxRecDepth 100000 in
set_option maxHeartbeats 2000000 in
theorem works_calls (k g : Nat) (w : World) :
    Calls Tryz.prog 87 #[.pointer (some ⟨k, 0, none⟩), .pointer (some ⟨g, 0, none⟩)] w fun e w' => e = .returned (.func (.func 164) #[] #[.pointer (some ⟨w.heap.size, 0, none⟩), .pointer (some ⟨w.heap.size + 1, 0, none⟩)]) ∧ Fr No w w' ∧ w.heap.size + 2 ≤ w'.heap.size ∧ w'.cell? ⟨w.heap.size, 0, none⟩ = some (.pointer (some ⟨k, 0, none⟩)) ∧ w'.cell? ⟨w.heap.size + 1, 0, none⟩ = some (.pointer (some ⟨g, 0, none⟩)) := by
  have h1 := cell_of (heap_new w (.cells #[.pointer (some ⟨k, 0, none⟩)] 57)) 0
  have h2 := ((Fr.refl No _).alloc (.cells #[.pointer (some ⟨g, 0, none⟩)] 30)).cell_some h1 (fun h => h)
  go_enter Tryz.func87, Tryz.ntmps87
  go_wp2
  go_ret
  exact ⟨rfl, ((Fr.refl _ _).alloc _).alloc _, by simp, h2, by simp [go_sem]⟩

def KrI (F : Nat → Prop) (W1 : World) (Bo : Nat) (pre : List Wrk) (W : World) : Prop :=
  ∃ v, W.heap[Bo]? = some (.cells #[v] 78 (0, 0)) ∧ W.ownsRow W1.heap.size 81 5 v pre.length (wkCells pre) ∧ (v = .slice none 0 0 ↔ pre = []) ∧ Fr F W1 W
theorem KrI.own {F : Nat → Prop} {W1 : World} {Bo B : Nat} (hF : ∀ k, B ≤ k → F k ∨ W1.heap.size ≤ k) : OwnFrom B (KrI F W1 Bo) := fun s X Y row hs hg hr => by
  obtain ⟨v, h1, h2, h3, h4⟩ := hs
  refine ⟨v, (hg.block Bo (heap_lt h1) (fun e => ?_)).trans h1, ownRow_own h2 hg (fun r e => (hr r e).2), h3, ?_⟩
  · obtain ⟨_, o, ho, hn⟩ := hr Bo e.symm
    rw [h1] at ho
    cases ho
    cases hn
  · have : Fr (fun k => F k ∨ W1.heap.size ≤ k) X Y := grown_frO hg (fun r e => hF r (hr r e).1)
    exact h4.trans' this (fun k hk h => h.elim id (fun h => by omega))

set_option maxRecDepth 100000 in
set_option maxHeartbeats 4000000 in
theorem krun_calls {w : World} {k : KLoc} {K : Kp} (h : KMem w k K) {L : GLoc} {G : Gr} (hg : GMem w L G) (hwt : G.Wt) (hsep : ∀ j, L.own G.n j → ¬ k.own j) (most : Int) :
    Calls Tryz.prog 35 #[.pointer (some ⟨k.b, 0, none⟩), .pointer (some ⟨L.b, 0, none⟩), .int .i64 most] w fun e w' => ∃ v, e = .returned v ∧ w'.ownsRow w.heap.size 81 5 v (Kp.wks G most.toNat K).length (wkCells (Kp.wks G most.toNat K)) ∧ (v = .slice none 0 0 ↔ Kp.wks G most.toNat K = []) ∧ Fr k.own w w' ∧ KMem w' k (Kp.run G most.toNat K) := by
  by_cases hm : most < 1
  · have e0 : most.toNat = 0 := by omega
    rw [e0]
    have H := hid h
    have d1 : decide (most < 1) = true := by simpa using hm
    clear h hg hwt hsep hm e0
    refine (callsIn_wide (n := 7)).1 ?_
    refine callsIn_of_wp_marks Tryz.func35 rfl trivial ?_ rfl
    refine wpIn_wide.2 ?_
    simp only [Tryz.ntmps35, List.size_toArray, List.length_cons, List.length_nil, Nat.reduceAdd, Nat.reduceSub, Array.replicate_succ, Array.replicate_zero, List.push_toArray, List.append_toArray, List.nil_append, List.cons_append]
    go_wp2
    have f1 : Fr No w ((w.alloc (.cells #[.int .i64 most] 3)).alloc (.cells #[.slice none 0 0] 78)) := ((Fr.refl No w).alloc _).alloc _
    exact ⟨.slice none 0 0, by simp [results, Tryz.results35, go_sem], .slice none 0 0, rfl, World.ownsRow_nil _ _ _ _, ⟨fun _ => rfl, fun _ => rfl⟩, f1.no, H.out.no f1⟩
  · have d1 : decide (most < 1) = false := by simpa using hm
    obtain ⟨mm, rfl⟩ : ∃ m : Nat, most = m := ⟨most.toNat, by omega⟩
    have H := hid h
    have HG := hid hg
    have HWT := hid hwt
    have HSEP := hid hsep
    have HMM := hid hm
    clear h hg hwt hsep hm
    refine (callsIn_wide (n := 7)).1 ?_
    refine callsIn_of_wp_marks Tryz.func35 rfl trivial ?_ rfl
    refine wpIn_wide.2 ?_
    simp only [Tryz.ntmps35, List.size_toArray, List.length_cons, List.length_nil, Nat.reduceAdd, Nat.reduceSub, Array.replicate_succ, Array.replicate_zero, List.push_toArray, List.append_toArray, List.nil_append, List.cons_append]
    go_wp2_with fail
    have f2 : Fr No w ((w.alloc (.cells #[.int .i64 (mm : Nat)] 3)).alloc (.cells #[.slice none 0 0] 78)) := ((Fr.refl No w).alloc _).alloc _
    have hs2 : ((w.alloc (.cells #[.int .i64 (mm : Nat)] 3)).alloc (.cells #[.slice none 0 0] 78)).heap.size = w.heap.size + 2 := by simp
    have c5 : ((w.alloc (.cells #[.int .i64 (mm : Nat)] 3)).alloc (.cells #[.slice none 0 0] 78)).cell? ⟨w.heap.size, 0, none⟩ = some (.int .i64 (mm : Nat)) := ((Fr.refl No _).alloc _).cell_some (cell_of (heap_new w _) 0) (fun h => h)
    have o7 : ((w.alloc (.cells #[.int .i64 (mm : Nat)] 3)).alloc (.cells #[.slice none 0 0] 78)).heap[w.heap.size + 1]? = some (.cells #[.slice none 0 0] 78 (0, 0)) := by
      have := heap_new (w.alloc (.cells #[.int .i64 (mm : Nat)] 3)) (.cells #[.slice none 0 0] 78 (0, 0))
      simpa using this
    generalize ((w.alloc (.cells #[.int .i64 (mm : Nat)] 3)).alloc (.cells #[.slice none 0 0] 78)) = w2 at f2 hs2 c5 o7 ⊢
    refine (works_calls k.b L.b w2).mono ?_
    rintro e W1 ⟨rfl, hf3, hsz3, hc1, hc2⟩
    rw [hs2] at hsz3 hc1 hc2 ⊢
    have F1 := hid (f2.trans hf3)
    have c51 := hf3.cell_some c5 (fun h => h)
    have hz1 := hid ((hf3.block _ (heap_lt o7) (fun h => h)).trans o7)
    have hown : ∀ j, L.own G.n j → j < w.heap.size := fun j hj => HG.out.own_lt hj
    have HOWN := hid hown
    have HK1 := hid (H.out.no F1.out)
    have HG1 := hid (HG.out.no F1.out)
    have q1 := H.out.q.lt
    have q2 := H.out.q.hr.1
    have q3 := H.out.q.hy.1
    have q4 := H.out.q.tz.lt
    have q5 := H.out.x.lt
    have q6 := H.out.x.hr.1
    have q7 := H.out.x.hb.1
    have q8 := H.out.x.gn.lt
    have q9 := cell_lt H.out.cq
    have hlt0 : w.heap.size + 4 ≤ W1.heap.size := by omega
    have HC1 := hid hc1
    have HC2 := hid hc2
    have hko : ∀ j, k.own j → j < w.heap.size := fun j hj => by rcases hj with h | h <;> omega
    have HKO := hid hko
    have hmm : 0 < mm := by have := HMM.out; omega
    clear f2 hf3 c5 o7 hown hc1 hc2 hko
    obtain ⟨N, hN⟩ : ∃ N, w.heap.size = N := ⟨_, rfl⟩
    have HN := hid hN
    rw [hN] at hlt0 hs2 c51 hz1 HOWN HC1 HC2 HKO q1 q2 q3 q4 q5 q6 q7 q8 q9 ⊢
    go_wp2
    refine (wpIn_wide (n := 7)).1 ?_
    refine wpIn_rangeFunc_M rfl (by omega) (gf := 164) (lb := #[.pointer (some ⟨N + 2, 0, none⟩), .pointer (some ⟨N + 2 + 1, 0, none⟩)]) rfl trivial (enters_of Tryz.func164 (by kernel_rfl) rfl)
      (works1_M HWT.out HSEP.out (N + 2) (N + 2 + 1) (fun h => by have := HKO.out _ h; omega) (fun h => by have := HKO.out _ h; omega)) (fun j hj => by have := HKO.out j hj; omega) (fun _ => rfl)
      (fun pre W => KrI (fun j => k.own j ∨ j = N + 1 ∨ W1.heap.size ≤ j) W1 (N + 1) pre W ∧ pre.length < mm)
      (fun c pre W => c = .exit 0 ∧ KrI (fun j => k.own j ∨ j = N + 1 ∨ W1.heap.size ≤ j) W1 (N + 1) pre W ∧ WkT k K L G (N + 2) (N + 2 + 1) pre W ∧ pre.length = mm)
      (fun s X Y row hs hg hr => ⟨KrI.own (fun j hj => .inl (.inr (.inr (by omega)))) s X Y row hs.1 hg hr, hs.2⟩)
      ?oix ?ot (fun pre A B h hf => ?im) ⟨⟨_, hz1.out, World.ownsRow_nil _ _ _ _, ⟨fun _ => rfl, fun _ => rfl⟩, Fr.refl _ _⟩, hmm⟩
      ⟨rfl, HK1.out, HG1.out, HC1.out, HC2.out⟩
      (fun x b => { tmps := #[.pointer (some ⟨k.b, 0, none⟩), .pointer (some ⟨L.b, 0, none⟩), .int .i64 (mm : Nat), undef, undef, .pointer (some ⟨N, 0, none⟩), .slice none 0 0, .pointer (some ⟨N + 1, 0, none⟩), .pointer (some ⟨b, 0, none⟩), .int .i64 (mm : Nat), .bool false, .pointer (some ⟨k.b, 0, none⟩), .pointer (some ⟨L.b, 0, none⟩), .func (.func 164) #[] #[.pointer (some ⟨N + 2, 0, none⟩), .pointer (some ⟨N + 2 + 1, 0, none⟩)], .agg (wkCl x).toArray, undef, undef, undef, undef, undef, undef, undef, undef, undef], defers := [] })
      (fun x => (wkCl x).toArray) 81 ?assign ?body ?done ?stop
    case ot =>
      intro s X Y row hs hg hr
      have h2 : Fr (fun j => W1.heap.size ≤ j) X Y := ⟨hg.os, hg.tape, hg.output, hg.size, fun j hj hnk => hg.block j hj (fun e => hnk (hr j e.symm).1)⟩
      exact ⟨hs.e, hs.km.fr h2 (by omega) (by omega) (by omega) (by omega) (by omega) (by omega) (by omega) (by omega) (by omega), hs.gm.fr h2 (fun j hj h => by have := HOWN.out j hj; omega), h2.cell_some hs.c1 (show ¬ (W1.heap.size ≤ N + 2) by omega), h2.cell_some hs.c2 (show ¬ (W1.heap.size ≤ N + 2 + 1) by omega)⟩
    case oix =>
      intro c s X Y row hs hg hr
      have h2 : Fr (fun j => W1.heap.size ≤ j) X Y := ⟨hg.os, hg.tape, hg.output, hg.size, fun j hj hnk => hg.block j hj (fun e => hnk (hr j e.symm).1)⟩
      exact ⟨hs.1, KrI.own (fun j hj => .inl (.inr (.inr (by omega)))) s X Y row hs.2.1 hg hr, ⟨hs.2.2.1.e, hs.2.2.1.km.fr h2 (by omega) (by omega) (by omega) (by omega) (by omega) (by omega) (by omega) (by omega) (by omega), hs.2.2.1.gm.fr h2 (fun j hj h => by have := HOWN.out j hj; omega), h2.cell_some hs.2.2.1.c1 (show ¬ (W1.heap.size ≤ N + 2) by omega), h2.cell_some hs.2.2.1.c2 (show ¬ (W1.heap.size ≤ N + 2 + 1) by omega)⟩, hs.2.2.2⟩
    case im =>
      obtain ⟨⟨v, h1, h2, h3, h4⟩, h5⟩ := h
      exact ⟨⟨v, (hf.block _ (heap_lt h1) (fun hk => by have := HKO.out _ hk; omega)).trans h1, own_frH h2 hf (fun j hj hk => by have := (h2.lt j hj).1; have := HKO.out _ hk; omega), h3, h4.trans (hf.mono (fun j _ h => .inl h))⟩, h5⟩
    case assign =>
      intro l x W K' hK
      simp only [wkEnc, wkAgg, wkCl] at hK ⊢
      gi_wp2
      simpa using hK
    case stop =>
      rintro D c pre W hD ⟨rfl, ⟨v, hv, hown, hnil, hfr⟩, hT, hlen⟩ hKD
      have k1 := cell_of hv 0
      have e1 := hT.e
      have hkm := hT.km
      rw [hlen] at e1 hkm
      rw [e1] at hown hnil
      have HOWN2 := hid hown
      have HNIL := hid hnil
      have HFR := hid hfr
      have HKM := hid hkm
      have lt1 := heap_lt hv
      have HK := hid hKD
      have hsw := hfr.size
      clear hT hown hnil hfr hkm hv hKD e1
      refine wpIn_wide.2 ?_
      go_wp2
      refine ⟨by simp, .inl ⟨_, _, rfl, run_takeDeferred HK.out, ?_⟩⟩
      have f4 : Fr (One D) W (W.putObj D (.deferred none)) := fr_putObj (F := One D) _ D _ rfl
      refine ⟨v, by simp [results, Tryz.results35, go_sem], v, rfl, ownRow_base (ownRow_own HOWN2.out (grownBy_putObj' _ _ _) (fun r e => ⟨.deferred (some []), by injection e with e; rw [← e]; exact HK.out, rfl⟩)) (by omega), HNIL.out, ?_, ?_⟩
      · exact ((F1.out.no (F := k.own)).trans' HFR.out (fun j hj h => h.elim id (fun h => by rw [HN.out] at hj; omega))).trans' f4 (fun j hj (h : j = D) => by rw [HN.out] at hj; omega)
      · exact HKM.out.fr f4 (fun (e : _ = D) => by omega) (fun (e : _ = D) => by omega) (fun (e : _ = D) => by omega) (fun (e : _ = D) => by omega) (fun (e : _ = D) => by omega) (fun (e : _ = D) => by omega) (fun (e : _ = D) => by omega) (fun (e : _ = D) => by omega) (fun (e : _ = D) => by omega)
    case done =>
      rintro D xs W hD hS ⟨⟨v, hv, hown, hnil, hfr⟩, hlen⟩ hT hKD
      have k1 := cell_of hv 0
      have hnd : ¬ (Kp.run G xs.length K).fl < (Kp.run G xs.length K).x.n := by rw [(Kp.run_n G xs.length K).1]; exact hS
      obtain ⟨a1, a2⟩ := Kp.run_add G xs.length (mm - xs.length) K
      obtain ⟨a3, a4⟩ := Kp.run_done G (mm - xs.length) _ hnd
      rw [show xs.length + (mm - xs.length) = mm by omega, a3] at a1
      rw [show xs.length + (mm - xs.length) = mm by omega, a4, List.append_nil, ← hT.e] at a2
      have hkm := hT.km
      rw [← a1] at hkm
      rw [← a2] at hown hnil
      have HOWN2 := hid hown
      have HNIL := hid hnil
      have HFR := hid hfr
      have HKM := hid hkm
      have lt1 := heap_lt hv
      have HK := hid hKD
      have hsw := hfr.size
      clear hT hown hnil hfr hkm hv hKD a1 a2 a3 a4 hnd hS
      go_wp2
      refine ⟨by simp, .inl ⟨_, _, rfl, run_takeDeferred HK.out, ?_⟩⟩
      have f4 : Fr (One D) W (W.putObj D (.deferred none)) := fr_putObj (F := One D) _ D _ rfl
      refine ⟨v, by simp [results, Tryz.results35, go_sem], v, rfl, ownRow_base (ownRow_own HOWN2.out (grownBy_putObj' _ _ _) (fun r e => ⟨.deferred (some []), by injection e with e; rw [← e]; exact HK.out, rfl⟩)) (by omega), HNIL.out, ?_, ?_⟩
      · exact ((F1.out.no (F := k.own)).trans' HFR.out (fun j hj h => h.elim id (fun h => by rw [HN.out] at hj; omega))).trans' f4 (fun j hj (h : j = D) => by rw [HN.out] at hj; omega)
      · exact HKM.out.fr f4 (fun (e : _ = D) => by omega) (fun (e : _ = D) => by omega) (fun (e : _ = D) => by omega) (fun (e : _ = D) => by omega) (fun (e : _ = D) => by omega) (fun (e : _ = D) => by omega) (fun (e : _ = D) => by omega) (fun (e : _ = D) => by omega) (fun (e : _ = D) => by omega)
    case body =>
      rintro l' pre x W b hl hloop ⟨⟨v, hv, hown, hnil, hfr⟩, hlen⟩ hT hb hcb
      have hl24 : pre.length + 1 ≤ 24 := by
        have h1 := (H.out.ok.wks_len HWT.out (pre ++ [x]).length).1
        rw [← hT.e] at h1
        have := H.out.x.ok.n2
        simp at h1; omega
      have k1 := cell_of hv 0
      have lt1 := heap_lt hv
      have hzW : Blk W (N + 1) 1 78 (fun _ => v) := ⟨_, hv, rfl, fun i hi => by match i, hi with | 0, _ => rfl⟩
      have c5 := hfr.cell_some c51 (show ¬ (k.own N ∨ N = N + 1 ∨ W1.heap.size ≤ N) from fun h => by
        rcases h with h | h | h
        · have := HKO.out _ h; omega
        · omega
        · omega)
      obtain ⟨vv, hvv⟩ : ∃ v, x.v = v := ⟨_, rfl⟩
      obtain ⟨vc, hvc⟩ : ∃ v, x.c = v := ⟨_, rfl⟩
      obtain ⟨vw, hvw⟩ : ∃ v, x.w = v := ⟨_, rfl⟩
      obtain ⟨vt, hvt⟩ : ∃ v, x.t = v := ⟨_, rfl⟩
      obtain ⟨vm, hvm⟩ : ∃ m, numOf (fun z => x.m z = true) = m := ⟨_, rfl⟩
      have hcl : wkCl x = [.int .i64 (vv : Nat), .int .i64 (vc : Nat), .int .i64 (vw : Nat), .int .i64 (vt : Nat), .int .u64 (vm : Nat)] := by unfold wkCl; rw [hvv, hvc, hvw, hvt, hvm]
      rw [hcl] at hcb ⊢
      have HCL := hid hcl
      have HCB := hid hcb
      have e0 := cell_of hcb 0
      have e1 := cell_of hcb 1
      have e2 := cell_of hcb 2
      have e3 := cell_of hcb 3
      have e4 := cell_of hcb 4
      have HZW := hid hzW
      have HV := hid hv
      have HOWNV := hid hown
      have HFR := hid hfr
      have HTT := hid hT
      have hvb : ∀ k, v.ownBlock = some k → W1.heap.size ≤ k := fun k hk => (hown.lt k hk).1
      have HVB := hid hvb
      have hsw := hfr.size
      clear hown hnil hfr hzW hv hvb hloop hT hcb hcl hvv hvc hvw hvt hvm
      obtain ⟨i0, hi, hz0, hz1', hz2⟩ := i_work
      have HI := hid hi
      have HZ0 := hid hz0
      have HZ1 := hid hz1'
      have HZ2 := hid hz2
      clear hi hz0 hz1' hz2
      gi_wp2_with (gi_at_builtin; refine @wpListIn_append_own_at _ _ _ _ _ _ _ _ _ rfl (.tmp 15) (.tmp 17) 78 rfl W1.heap.size 81 i0 (.agg #[.int .i64 0, .int .i64 0, .int .i64 0, .int .i64 0, .int .u64 0]) 5 40 Tryz.underlying78 HI.out HZ0.out HZ1.out HZ2.out rfl (by decide) v pre.length _ rfl (HOWNV.out.alloc _) ⟨W.heap.size, 0, none⟩ 1 1 [.int .i64 (vv : Nat), .int .i64 (vc : Nat), .int .i64 (vw : Nat), .int .i64 (vt : Nat), .int .u64 (vm : Nat)] rfl rfl ?n1 ?n2 ?n3 ?n4 ?n5 ?n6)
      case n1 =>
        intro j u hu
        rw [Addr.add_mid, Nat.zero_add, cell_of (heap_new W _)]
        simpa using hu
      case n2 =>
        intro u hu
        simp at hu
        rcases hu with rfl | rfl | rfl | rfl | rfl <;> rfl
      case n3 => unfold maxLen; omega
      case n4 => omega
      case n5 => simp; omega
      intro v' w3 hown3 hg3 hnil3 hat3
      have HOWN3 := hid hown3
      have HG3 := hid hg3
      obtain ⟨g', cap', rfl⟩ : ∃ g' cap', v' = .slice (some ⟨g', 0, none⟩) (pre.length + 1) cap' := by
        rcases hown3.2 with ⟨_, h0⟩ | ⟨g', cap', cur', h', _⟩
        · exact absurd h0 (by omega)
        · exact ⟨g', cap', h'⟩
      clear hown3 hg3 hnil3 hat3 k1 e0 e1 e2 e3 e4
      have hvne : ∀ j, j < W1.heap.size → v.ownBlock ≠ some j := fun j hj e => by have := HVB.out _ e; omega
      have hv3 : w3.heap[N + 1]? = some (.cells #[v] 78 (0, 0)) := (HG3.out.block (N + 1) (by simp; omega) (fun e => hvne (N + 1) (by omega) e.symm)).trans ((Below.heap_alloc W _ _ lt1).trans HV.out)
      have k3 := cell_of hv3 0
      have z3 : w3.frozen? ⟨N + 1, 0, none⟩ = false := (show Blk w3 (N + 1) 1 78 (fun _ => v) from ⟨_, hv3, rfl, fun i hi => by match i, hi with | 0, _ => rfl⟩).frozen 0
      have c53 : w3.cell? ⟨N, 0, none⟩ = some (.int .i64 (mm : Nat)) := by
        have h1 : (W.alloc (.cells #[.int .i64 (vv : Nat), .int .i64 (vc : Nat), .int .i64 (vw : Nat), .int .i64 (vt : Nat), .int .u64 (vm : Nat)] 81)).cell? ⟨N, 0, none⟩ = some (.int .i64 (mm : Nat)) := ((Fr.refl No W).alloc _).cell_some c5 (fun h => h)
        exact (grown_frO (F := fun k => v.ownBlock = some k) HG3.out (fun r e => e)).cell_some h1 (fun e => hvne N (by omega) e)
      have lt3 := heap_lt hv3
      have HV3 := hid hv3
      have HVN := hid hvne
      clear hv3 hvne c5
      have f1 : Fr No W (W.alloc (.cells #[.int .i64 (vv : Nat), .int .i64 (vc : Nat), .int .i64 (vw : Nat), .int .i64 (vt : Nat), .int .u64 (vm : Nat)] 81)) := (Fr.refl No W).alloc _
      have f3 : Fr (fun k => v.ownBlock = some k) W w3 := (f1.no).trans (grown_frO HG3.out (fun r e => e))
      have f4 : Fr (fun j => j = N + 1 ∨ v.ownBlock = some j) W (w3.setCell ⟨N + 1, 0, none⟩ (.slice (some ⟨g', 0, none⟩) (pre.length + 1) cap')) := (f3.mono (fun k hk h => .inr h)).trans (((Fr.refl (One (N + 1)) w3).set1 0 _).mono (fun k hk h => .inl h))
      have f5 := f4.mono (G := fun j => k.own j ∨ j = N + 1 ∨ W1.heap.size ≤ j) (fun j hj h => h.elim (fun h => .inr (.inl h)) (fun h => .inr (.inr (HVB.out j h))))
      have hkeep : KeepsFrom W1.heap.size W (w3.setCell ⟨N + 1, 0, none⟩ (.slice (some ⟨g', 0, none⟩) (pre.length + 1) cap')) := keeps_of_cells _ f4 (fun k hk hlt => by
        rcases hk with rfl | hk
        · exact ⟨_, HV.out, rfl⟩
        · rcases HOWNV.out.2 with ⟨e, _⟩ | ⟨g2, c2, cur2, e, _, hc2, _⟩
          · rw [e] at hk; cases hk
          · rw [e] at hk
            cases hk
            exact ⟨_, hc2, rfl⟩)
      have hlow : ∀ j, j < N + 1 → ¬ (j = N + 1 ∨ v.ownBlock = some j) := fun j hj h => h.elim (fun h => by omega) (fun h => HVN.out j (by omega) h)
      have n23 : ¬ (N + 2 = N + 1 ∨ v.ownBlock = some (N + 2)) := fun h => h.elim (fun h => by omega) (fun h => HVN.out _ (by omega) h)
      have n24 : ¬ (N + 2 + 1 = N + 1 ∨ v.ownBlock = some (N + 2 + 1)) := fun h => h.elim (fun h => by omega) (fun h => HVN.out _ (by omega) h)
      have hTF : WkT k K L G (N + 2) (N + 2 + 1) (pre ++ [x]) (w3.setCell ⟨N + 1, 0, none⟩ (.slice (some ⟨g', 0, none⟩) (pre.length + 1) cap')) :=
        ⟨HTT.out.e, HTT.out.km.fr f4 (hlow _ (by omega)) (hlow _ (by omega)) (hlow _ (by omega)) (hlow _ (by omega)) (hlow _ (by omega)) (hlow _ (by omega)) (hlow _ (by omega)) (hlow _ (by omega)) (hlow _ (by omega)), HTT.out.gm.fr f4 (fun j hj => hlow j (by have := HOWN.out j hj; omega)), f4.cell_some HTT.out.c1 n23, f4.cell_some HTT.out.c2 n24⟩
      have hKF : KrI (fun j => k.own j ∨ j = N + 1 ∨ W1.heap.size ≤ j) W1 (N + 1) (pre ++ [x]) (w3.setCell ⟨N + 1, 0, none⟩ (.slice (some ⟨g', 0, none⟩) (pre.length + 1) cap')) := by
        refine ⟨_, heap_set (C := #[v]) HV3.out 0 _, ?_, ⟨(fun e => by cases e), (fun e => absurd e (by simp))⟩, HFR.out.trans f5⟩
        have h1 := own_frH HOWN3.out ((Fr.refl (One (N + 1)) w3).set1 0 (.slice (some ⟨g', 0, none⟩) (pre.length + 1) cap')) (fun j hj (e : j = N + 1) => by have := (HOWN3.out.lt j hj).1; omega)
        rw [wkCells_app, HCL.out, show (pre ++ [x]).length = pre.length + 1 by simp]
        exact h1
      have HKF := hid hKF
      have HTF := hid hTF
      have HKEEP := hid hkeep
      clear f1 f3 f4 f5 hkeep hlow n23 n24 hTF hKF
      by_cases hge : mm ≤ pre.length + 1
      · have d2 : decide ((pre.length : Int) + 1 ≥ (mm : Int)) = true := by simp; omega
        have d3 : decide ((mm : Int) ≤ (pre.length : Int) + 1) = true := by simp; omega
        have HGE := hid hge
        clear hge
        gi_wp2
        exact ⟨HKEEP.out, rfl, HKF.out, HTF.out, by have := HGE.out; simp; omega⟩
      · have d2 : decide ((pre.length : Int) + 1 ≥ (mm : Int)) = false := by simp; omega
        have d3 : decide ((mm : Int) ≤ (pre.length : Int) + 1) = false := by simp; omega
        have HGE := hid hge
        clear hge
        gi_wp2
        exact ⟨HKEEP.out, trivial, ⟨HKF.out, by have := HGE.out; simp; omega⟩, HTF.out⟩

end Go.Proofs.YtoepbhacpidcbaaGreatDoor
/- The repair law's check that its parts are awake; walked. -/
set_option linter.unusedVariables false
set_option linter.unusedSimpArgs false
namespace Go.Proofs.YtoepbhacpidcbaaGreatDoor
open Go.RowKit Go.Shelf Go.Deep

/-- All the blocks that a keeper reads. -/
def KLoc.all (k : KLoc) (j : Nat) : Prop := j = k.b ∨ j = k.Q.b ∨ j = k.Q.qr ∨ j = k.Q.qy ∨ j = 1 ∨ j = k.L.b ∨ j = k.L.br ∨ j = k.L.bb ∨ j = 0
theorem KMem.keep {w w' : World} {k : KLoc} {K : Kp} (h : KMem w k K) {F : Nat → Prop} (hf : Fr F w w') (hd : ∀ j, F j → ¬ k.all j) : KMem w' k K :=
  h.fr hf (fun e => hd _ e (.inl rfl)) (fun e => hd _ e (.inr (.inl rfl))) (fun e => hd _ e (.inr (.inr (.inl rfl)))) (fun e => hd _ e (.inr (.inr (.inr (.inl rfl))))) (fun e => hd _ e (.inr (.inr (.inr (.inr (.inl rfl)))))) (fun e => hd _ e (.inr (.inr (.inr (.inr (.inr (.inl rfl))))))) (fun e => hd _ e (.inr (.inr (.inr (.inr (.inr (.inr (.inl rfl)))))))) (fun e => hd _ e (.inr (.inr (.inr (.inr (.inr (.inr (.inr (.inl rfl))))))))) (fun e => hd _ e (.inr (.inr (.inr (.inr (.inr (.inr (.inr (.inr rfl)))))))))
theorem KMem.all_lt {w : World} {k : KLoc} {K : Kp} (h : KMem w k K) {j : Nat} (hj : k.all j) : j < w.heap.size := by
  have l1 := h.q.lt
  have l2 := h.q.hr.1
  have l3 := h.q.hy.1
  have l4 := h.q.tz.lt
  have l5 := h.x.lt
  have l6 := h.x.hr.1
  have l7 := h.x.hb.1
  have l8 := h.x.gn.lt
  have l9 := h.c.lt
  unfold KLoc.all at hj
  omega
theorem KLoc.own_all {k : KLoc} {j : Nat} (h : k.own j) : k.all j := by
  rcases h with h | h
  · exact .inr (.inl h)
  · exact .inr (.inr (.inr (.inr (.inr (.inl h)))))
/-- A graph's blocks that are grown stay apart from a keeper's. -/
theorem KMem.apart {w : World} {k : KLoc} {K : Kp} (h : KMem w k K) {L L' : GLoc} {n : Nat} (hd : ∀ j, L.own n j → ¬ k.all j) (ho : ∀ j, L'.own n j → L.own n j ∨ w.heap.size ≤ j) : ∀ j, L'.own n j → ¬ k.all j := fun j hj ha => by
  rcases ho j hj with e | e
  · exact hd j e ha
  · have := h.all_lt ha; omega
theorem kfloor_calls {w : World} {k : KLoc} {K : Kp} (h : KMem w k K) : Calls Tryz.prog 34 #[.pointer (some ⟨k.Q.b, 0, none⟩)] w fun e w' => e = .returned (.int .i64 (K.fl : Nat)) ∧ Fr No w w' := qfloor_calls h.ok.ok.od h.q
def a9f (j : Nat) : Int := [1, 0, 0].getD j 0
theorem a9_noperm : ¬ (0 < 3 ∧ PermF 3 a9f) := fun h => h.2.2.2 1 2 (by omega) (by omega) (by decide)
theorem num_none : numOf (fun z => (fun _ : Nat => false) z = true) = 0 := (SetOf.nil (fun _ h => by cases h)).num
theorem a9_d0 {t : Nat} (h : SetOf t (fun v => a9K.d v = true)) : t = 7 := SetOf.eq h (t := 7) (q := fun i => i < 3) ⟨by decide, fun i => by
  rcases Nat.lt_or_ge i 3 with h | h
  · constructor
    · intro; exact h
    · intro
      have : i = 0 ∨ i = 1 ∨ i = 2 := by omega
      rcases this with rfl | rfl | rfl <;> decide
  · constructor
    · intro h'
      rw [Nat.testBit_lt_two_pow (Nat.lt_of_lt_of_le (show 7 < 2 ^ 3 by decide) (Nat.pow_le_pow_right (by decide) h))] at h'
      cases h'
    · intro h'; omega⟩ (fun i => by show decide (i < 3) = true ↔ i < 3; simp)

theorem Kp.Ok.dirty0 {K : Kp} (h : K.Ok) (hf : K.fl = K.x.n) {t : Nat} (ht : SetOf t (fun v => K.d v = true)) : t = 0 := ht.zero_iff.2 fun i hi => by rw [h.clean.1 hf i] at hi; cases hi

set_option maxRecDepth 100000 in
set_option maxHeartbeats 4000000 in
theorem awake19_calls (w : World) (hN : NoneVar w) (hT : TzVar w) : Calls Tryz.prog 26 #[] w fun e w' => e = .returned (.bool true) ∧ Fr No w w' := by
  have HN := hid hN
  have HT := hid hT
  clear hN hT
  go_enter Tryz.func26, Tryz.ntmps26
  go_wp2_with fail
  refine (gnew2_calls 3 4 (by omega) (by omega) (by omega) (by omega) _).mono ?_
  rintro e w1 ⟨L0, rfl, hg, hf, hown⟩
  have HG := hid hg
  have F1 := hid hf
  have HO := hid hown
  clear hg hf hown
  go_wp2_with fail
  have fa := (Fr.refl No w1).alloc (.cells #[.int .i64 1, .int .i64 0, .int .i64 2] 3)
  refine (knew_calls (some ⟨w1.heap.size, 0, none⟩) 3 3 awf (lit_ints 3 awf (by intro j hj; (have : j = 0 ∨ j = 1 ∨ j = 2 := by omega); rcases this with rfl | rfl | rfl <;> rfl)) (by decide) aw_perm awg aw_g1 aw_g2 (HN.out.fr (F1.out.trans fa) (fun h => h)) (HT.out.no (F1.out.trans fa))).mono ?_
  rintro e w2 ⟨k, rfl, hf, hm, hfrom⟩
  have M2 := hid (show KMem w2 k a9K from hm)
  have hsA : (w1.alloc (.cells #[.int .i64 1, .int .i64 0, .int .i64 2] 3)).heap.size = w1.heap.size + 1 := by simp
  rw [hsA] at hfrom
  have hsep : ∀ j, L0.own 3 j → ¬ k.all j := fun j hj ha => by
    have h1 : j < w1.heap.size := HG.out.own_lt hj
    have h2 := HO.out j hj
    have h3 := HN.out.lt
    have h4 := HT.out.lt
    obtain ⟨f1, f2, f3, f4, f5, f6, f7⟩ := hfrom
    unfold KLoc.all at ha
    omega
  have hkw : ∀ j, k.own j → w.heap.size ≤ j := fun j hj => by
    have h0 := F1.out.size
    obtain ⟨f1, f2, f3, f4, f5, f6, f7⟩ := hfrom
    rcases hj with e | e <;> omega
  have HKW := hid hkw
  have HSEP := hid hsep
  have HG2 := hid (HG.out.no (fa.trans hf))
  have F2 := hid (F1.out.trans (fa.trans hf))
  clear hf hm hfrom fa hsA hsep hkw F1 HG
  go_wp2_with fail
  have fa := (Fr.refl No w2).alloc (.cells #[.int .i64 1, .int .i64 0, .int .i64 0] 3)
  refine (knew_no (some ⟨w2.heap.size, 0, none⟩) 3 3 a9f (lit_ints 3 a9f (by intro j hj; (have : j = 0 ∨ j = 1 ∨ j = 2 := by omega); rcases this with rfl | rfl | rfl <;> rfl)) (by decide) a9_noperm).mono ?_
  rintro e w3 ⟨rfl, hf⟩
  have M3 := hid (M2.out.no (fa.trans hf))
  have HG3 := hid (HG2.out.no (fa.trans hf))
  have F3 := hid (F2.out.trans (fa.trans hf))
  clear hf fa M2 HG2 F2
  go_wp2_with fail
  refine (gins_yes HG3.out 7 (by omega) 0 1 2 false (by decide) (by decide) (by omega) (by omega) rfl a6_c0).mono ?_
  rintro e w4 ⟨rfl, L1, hg, hb1, _, hf, hown⟩
  have F4 := hid (F3.out.trans' hf (fun i hi hj => by have := HO.out i hj; omega))
  have HO1 : Hid (∀ j, L1.own 3 j → w.heap.size ≤ j) := hid fun j hj => by
    rcases hown j hj with h | h
    · exact HO.out j h
    · have := F3.out.size; omega
  have M4 := hid (M3.out.keep hf HSEP.out)
  have HSEP1 := hid (M3.out.apart HSEP.out hown)
  have HG4 := hid hg
  rw [← hb1]
  clear hg hf hown hb1 HG3 HO F3 M3 HSEP
  go_wp2_with fail
  refine (gins_yes HG4.out 8 (by omega) 1 2 3 false (by decide) (by decide) (by omega) (by omega) rfl a6_c1).mono ?_
  rintro e w5 ⟨rfl, L2, hg, hb2, _, hf, hown⟩
  have F5 := hid (F4.out.trans' hf (fun i hi hj => by have := HO1.out i hj; omega))
  have M5 := hid (M4.out.keep hf HSEP1.out)
  have hsep2 := M4.out.apart HSEP1.out hown
  have HSEP2 := hid (show ∀ j, L2.own 3 j → ¬ k.own j from fun j hj h => hsep2 j hj (KLoc.own_all h))
  have HG5 : Hid (GMem w5 L2 a6g) := hid hg
  rw [← hb2]
  have cq := M5.out.cq
  clear hg hf hown hb2 HG4 HO1 F4 M4 HSEP1 hsep2
  go_wp2_with fail
  refine (kfloor_calls M5.out).mono ?_
  rintro e w6 ⟨rfl, hf⟩
  rw [a9_f0.fl a9_ok (by decide)]
  have M6 := hid (M5.out.no hf)
  have HG6 := hid (HG5.out.no hf)
  have F6 := hid (F5.out.trans hf)
  clear hf cq M5 HG5 F5
  go_wp2_with fail
  refine (kdirty_calls M6.out).mono ?_
  rintro e w7 ⟨t, rfl, ht, hf⟩
  obtain rfl := a9_d0 ht
  have M7 := hid (M6.out.no hf)
  have HG7 := hid (HG6.out.no hf)
  have F7 := hid (F6.out.trans hf)
  clear ht hf M6 HG6 F6
  go_wp2_with fail
  refine (krun_calls M7.out HG7.out a6_wt HSEP2.out 9).mono ?_
  rintro e w8 ⟨v, rfl, hown, _, hf, hm⟩
  obtain ⟨c, hwks, hfl⟩ := a9_run
  rw [show (9 : Int).toNat = 9 from rfl, hwks] at hown
  rw [show (9 : Int).toNat = 9 from rfl] at hm
  have hcl : wkCells [⟨1, 2, 0, 0, fun _ => false⟩, ⟨0, 1, 0, 0, fun _ => false⟩, ⟨2, c, 0, 0, fun _ => false⟩] = [.int .i64 1, .int .i64 2, .int .i64 0, .int .i64 0, .int .u64 0, .int .i64 0, .int .i64 1, .int .i64 0, .int .i64 0, .int .u64 0, .int .i64 2, .int .i64 (c : Nat), .int .i64 0, .int .i64 0, .int .u64 0] := by
    simp only [wkCells, List.flatMap_cons, List.flatMap_nil, wkCl, num_none]; rfl
  rw [hcl] at hown
  have hown : w8.ownsRow w7.heap.size 81 5 v 3 [.int .i64 1, .int .i64 2, .int .i64 0, .int .i64 0, .int .u64 0, .int .i64 0, .int .i64 1, .int .i64 0, .int .i64 0, .int .u64 0, .int .i64 2, .int .i64 (c : Nat), .int .i64 0, .int .i64 0, .int .u64 0] := hown
  obtain ⟨g', cap', rfl⟩ : ∃ g' cap', v = .slice (some ⟨g', 0, none⟩) 3 cap' := by
    rcases hown.2 with ⟨_, h0⟩ | ⟨g', cap', cur', h', _⟩
    · exact absurd h0 (by omega)
    · exact ⟨g', cap', h'⟩
  have hcs := hown.cells (g := g') rfl
  have key : ∀ j u, [Value.int .i64 1, .int .i64 2, .int .i64 0, .int .i64 0, .int .u64 0, .int .i64 0, .int .i64 1, .int .i64 0, .int .i64 0, .int .u64 0, .int .i64 2, .int .i64 (c : Nat), .int .i64 0, .int .i64 0, .int .u64 0][j]? = some u → w8.cell? ⟨g', j, none⟩ = some u := fun j u hu => by
    have := hcs j u hu
    rwa [Addr.add_mid, Nat.zero_add] at this
  have k0 := key 0 _ rfl
  have k1 := key 1 _ rfl
  have k2 := key 2 _ rfl
  have k3 := key 3 _ rfl
  have k4 := key 4 _ rfl
  have k5 := key 5 _ rfl
  have k6 := key 6 _ rfl
  have k7 := key 7 _ rfl
  have k8 := key 8 _ rfl
  have k9 := key 9 _ rfl
  have k10 := key 10 _ rfl
  have M8 := hid hm
  have HG8 := hid (HG7.out.fr hf HSEP2.out)
  have F8 := hid (F7.out.trans' hf (fun j hj h => by have := HKW.out j h; omega))
  have HINV := hid (Kp.Inv.run a6_wt 9 a9_ok (a9_f0.inv a6g))
  have HFL := hid hfl
  have cq := M8.out.cq
  clear hown hcs key hf hm hcl hwks hfl M7 HG7 F7
  go_wp2_with fail
  refine (kdirty_calls M8.out).mono ?_
  rintro e w9 ⟨t, rfl, ht, hf⟩
  have hn3 : (Kp.run a6g 9 a9K).x.n = 3 := (Kp.run_n a6g 9 a9K).1
  obtain rfl := M8.out.ok.dirty0 (by rw [HFL.out, hn3]) ht
  have M9 := hid (M8.out.no hf)
  have HG9 := hid (HG8.out.no hf)
  have F9 := hid (F8.out.trans hf)
  have HN3 := hid hn3
  have cq := M9.out.cq
  clear ht hf hn3 M8 HG8 F8 k0 k1 k2 k3 k4 k5 k6 k7 k8 k9 k10 hown
  go_wp2_with fail
  refine (kfloor_calls M9.out).mono ?_
  rintro e w10 ⟨rfl, hf⟩
  rw [HFL.out]
  have M10 := hid (M9.out.no hf)
  have HG10 := hid (HG9.out.no hf)
  have F10 := hid (F9.out.trans hf)
  clear hf cq M9 HG9 F9
  go_wp2_with fail
  refine (kindex_calls M10.out).mono ?_
  rintro e w11 ⟨C, rfl, hf, hx, _, _, _, _, _, hcap⟩
  have M11 := hid (M10.out.no hf)
  have HG11 := hid (HG10.out.no hf)
  have F11 := hid (F10.out.trans hf)
  have HX := hid hx
  clear hf hx M10 HG10 F10
  go_wp2_with fail
  refine (whole_calls HG11.out HX.out hcap).mono ?_
  rintro e w12 ⟨b, rfl, hf, hb⟩
  obtain rfl := hb.2 ⟨HN3.out.symm, HINV.out.whole M11.out.ok (by rw [HFL.out, HN3.out])⟩
  have M12 := hid (M11.out.no hf)
  have F12 := hid (F11.out.trans hf)
  clear hf hb HX M11 HG11 F11
  go_wp2_with fail
  refine (knote_calls M12.out 1 1).mono ?_
  rintro e w13 ⟨rfl, hf, _⟩
  have hlow : (Kp.run a6g 9 a9K).x.low 1 1 < 0 := by
    have ht : (Kp.run a6g 9 a9K).x.two 1 1 = false := by unfold Ix.two; simp
    unfold Ix.low
    rw [if_neg (by rw [ht]; simp)]; decide
  rw [if_pos hlow]
  have F13 := hid (F12.out.trans' hf (fun j hj h => by have := HKW.out j h; omega))
  clear hf hlow F12 M12
  go_wp2
  go_ret
  exact ⟨rfl, F13.out⟩

end Go.Proofs.YtoepbhacpidcbaaGreatDoor
