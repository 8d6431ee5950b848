/- What a range over build.pairs hands out; walked. -/
import Derived.StillTail
import Derived.BigRegion
import Derived.Test.YtoepbhacpidcbaaGreatDoorQBase
import Derived.Test.YtoepbhacpidcbaaGreatDoorQIdx
import Derived.Test.YtoepbhacpidcbaaGreatDoorQPerm
import Derived.Test.YtoepbhacpidcbaaGreatDoorQIdxB
import Derived.Test.YtoepbhacpidcbaaGreatDoorQRef
import Derived.Test.YtoepbhacpidcbaaGreatDoorQUnref
import Derived.Test.YtoepbhacpidcbaaGreatDoorQItr
import Derived.Test.YtoepbhacpidcbaaGreatDoorQUnE
import Derived.Test.YtoepbhacpidcbaaGreatDoorQDst
import Derived.Test.YtoepbhacpidcbaaGreatDoorQLnk
import Derived.Test.YtoepbhacpidcbaaGreatDoorQLks
import Derived.Test.YtoepbhacpidcbaaGreatDoorQMid
import Derived.Test.YtoepbhacpidcbaaGreatDoorQBig
import Derived.Test.YtoepbhacpidcbaaGreatDoorQCp2
import Derived.Test.YtoepbhacpidcbaaGreatDoorQGOps
import Derived.Test.YtoepbhacpidcbaaGreatDoorQGB
import Derived.Test.YtoepbhacpidcbaaGreatDoorQG8

set_option linter.unusedVariables false
set_option linter.unusedSimpArgs false
namespace Go.Proofs.YtoepbhacpidcbaaGreatDoor
open Go.RowKit Go.Shelf Go.Deep

attribute [local go_sem] Oper.semAt_some

/-- There is an index of that many vertices, by that order. -/
def Shape (L : IxLoc) (n : Nat) (bf : Nat → Nat) (W : World) : Prop := ∃ y : Ix, IxMem W L y ∧ y.n = n ∧ y.by_ = bf
theorem Shape.no {L : IxLoc} {n : Nat} {bf : Nat → Nat} {W W' : World} (h : Shape L n bf W) (hf : Fr No W W') : Shape L n bf W' := by
  obtain ⟨y, h1, h2⟩ := h
  exact ⟨y, h1.no hf, h2⟩
/-- What a round of such a range keeps. -/
def PK (F : Nat → Prop) (L : IxLoc) (n : Nat) (bf : Nat → Nat) (W W' : World) : Prop := Fr F W W' ∧ (Shape L n bf W → Shape L n bf W')
theorem PK.trans {F : Nat → Prop} {L : IxLoc} {n : Nat} {bf : Nat → Nat} {A B C : World} (h : PK F L n bf A B) (k : PK F L n bf B C) : PK F L n bf A C := ⟨h.1.trans k.1, fun s => k.2 (h.2 s)⟩
theorem PK.no {F : Nat → Prop} {L : IxLoc} {n : Nat} {bf : Nat → Nat} {A B : World} (h : Fr No A B) : PK F L n bf A B := ⟨h.no, fun s => s.no h⟩
def prEnc (bf : Nat → Nat) {n : Nat} (el : PrEl n) : Array Value := #[.int .i64 (bf el.1.1 : Nat), .int .i64 (bf el.1.2 : Nat)]

set_option maxRecDepth 100000 in
set_option maxHeartbeats 4000000 in
theorem pairs1_any {L : IxLoc} {n : Nat} (hn24 : n ≤ 24) {bf : Nat → Nat} (m : Nat) (hm : 1 ≤ m) (Bn Bx : Nat) (F : Nat → Prop) (f5 : ¬ F Bn) (f6 : ¬ F Bx) (w : World) (h : Shape L n bf w)
    (hcn : w.cell? ⟨Bn, 0, none⟩ = some (.int .i64 (n : Nat))) (hx : w.cell? ⟨Bx, 0, none⟩ = some (.pointer (some ⟨L.b, 0, none⟩))) :
    SeqStopsK Fence.wide m Tryz.prog 166 #[.pointer (some ⟨Bn, 0, none⟩), .pointer (some ⟨Bx, 0, none⟩)] (prEnc bf) (PK F L n bf) (fun ys => ys = prs n n) (fun pre => pre <+: prs n n) (prs n n).length w := fun l J Jx W hW hJ hJx hY h0 => by
  have hf0 := Fr.of_below hW
  have HS := hid (h.no hf0)
  have hcn' := hf0.cell_some hcn (fun h => h)
  have hx' := hf0.cell_some hx (fun h => h)
  have HBN := hid hcn'
  have HBX := hid hx'
  have HJ := hid hJ
  have HY := hid hY
  have H0 := hid h0
  clear hW hJ hJx hY h0 h hcn hx hf0
  refine callsIn_of_wp Tryz.func166 rfl trivial ?_ rfl
  simp only [Tryz.ntmps166, List.size_toArray, List.length_cons, List.length_nil, Nat.reduceAdd, Nat.reduceSub, Array.replicate_succ, Array.replicate_zero, List.push_toArray, List.append_toArray, List.nil_append, List.cons_append]
  gi_wp2
  clear hcn' hx'
  gi_loopw [9] (fun i wr => ∃ k : Nat, k ≤ n ∧ i = .int .i64 k ∧ J (prs n k) wr ∧ Fr F W wr ∧ Shape L n bf wr) (fun i _ => 24 - (intOf i).toNat)
  case atStart => exact ⟨0, by omega, by go_num, H0.out, Fr.refl _ _, HS.out⟩
  case round =>
    obtain ⟨k, hk, rfl, hj, hf, hs⟩ := hrel
    have HJK := hid hj
    have HF := hid hf
    have HSK := hid hs
    have bn := hf.cell_some HBN.out f5
    clear hj hf hs
    by_cases hlt : k < n
    · have hlt2 : (k : Int) < n := by omega
      gi_wp2
      clear bn
      gi_loopw [5] (fun i wr => ∃ b : Nat, b ≤ n ∧ k < b ∧ i = .int .i64 b ∧ J (prs n k ++ pr1 n k b) wr ∧ Fr F W wr ∧ Shape L n bf wr) (fun i _ => 24 - (intOf i).toNat)
      case atStart => exact ⟨k + 1, by omega, by omega, by go_num, by rw [pr1_low _ _ _ (Nat.le_refl _), List.append_nil]; exact HJK.out, HF.out, HSK.out⟩
      case round =>
        obtain ⟨b, hb, hkb, rfl, hj, hf, hs⟩ := hrel
        clear HJK HF HSK
        have HJK := hid hj
        have HF := hid hf
        have HSK := hid hs
        have bn := hf.cell_some HBN.out f5
        have bx := hf.cell_some HBX.out f6
        clear hj hf hs
        by_cases hltb : b < n
        · have hltb2 : (b : Int) < n := by omega
          have hst := pr1_succ n k b
          rw [dif_pos ⟨hkb, hltb⟩] at hst
          have hpre : prs n k ++ pr1 n k (b + 1) <+: prs n n := prs_at n k (b + 1) hlt hltb
          rw [hst] at hpre
          have hle := hpre.length_le
          simp only [List.length_append, List.length_cons, List.length_nil] at hle
          have HY1 : Hid (∀ w5, Fr No wr w5 → YieldAt Fence.wide (m - 1) Tryz.prog l #[.int .i64 (bf k : Nat), .int .i64 (bf b : Nat)] w5 fun e W' => ∃ r : Bool, e = .returned (.bool r) ∧ ((r = true ∧ J ((prs n k ++ pr1 n k b) ++ [⟨(k, b), ⟨hlt, hltb, by show k ≠ b; omega⟩⟩]) W' ∧ PK F L n bf w5 W') ∨ (r = false ∧ Jx ((prs n k ++ pr1 n k b) ++ [⟨(k, b), ⟨hlt, hltb, by show k ≠ b; omega⟩⟩]) W'))) := hid fun w5 h5 => by
            have := HY.out (prs n k ++ pr1 n k b) ⟨(k, b), ⟨hlt, hltb, by show k ≠ b; omega⟩⟩ w5 (HJ.out _ _ _ none HJK.out (fr_grownBy h5) (fun r h => by cases h)) (by rw [List.length_append]; omega)
            refine YieldAt.mono this ?_
            rintro e W' (⟨rfl, h1, h2⟩ | ⟨rfl, h1⟩)
            · exact ⟨true, rfl, .inl ⟨rfl, h1, h2⟩⟩
            · exact ⟨false, rfl, .inr ⟨rfl, h1⟩⟩
          have HY2 : Hid (∀ w5, J ((prs n k ++ pr1 n k b) ++ [⟨(k, b), ⟨hlt, hltb, by show k ≠ b; omega⟩⟩]) w5 → YieldAt Fence.wide (m - 1) Tryz.prog l #[.int .i64 (bf b : Nat), .int .i64 (bf k : Nat)] w5 fun e W' => ∃ r : Bool, e = .returned (.bool r) ∧ ((r = true ∧ J (prs n k ++ pr1 n k (b + 1)) W' ∧ PK F L n bf w5 W') ∨ (r = false ∧ Jx (prs n k ++ pr1 n k (b + 1)) W'))) := hid fun w5 h5 => by
            have := HY.out _ ⟨(b, k), ⟨hltb, hlt, by show b ≠ k; omega⟩⟩ w5 h5 (by simp only [List.length_append, List.length_cons, List.length_nil]; omega)
            rw [hst]
            refine YieldAt.mono this ?_
            rintro e W' (⟨rfl, h1, h2⟩ | ⟨rfl, h1⟩)
            · exact ⟨true, rfl, .inl ⟨rfl, by simpa using h1, h2⟩⟩
            · exact ⟨false, rfl, .inr ⟨rfl, by simpa using h1⟩⟩
          have HP1 : Hid ((prs n k ++ pr1 n k b) ++ [⟨(k, b), ⟨hlt, hltb, by show k ≠ b; omega⟩⟩] <+: prs n n) := hid (List.IsPrefix.trans (by rw [List.append_assoc]; exact (List.prefix_append_right_inj _).2 ((List.prefix_append_right_inj _).2 ⟨[_], rfl⟩)) hpre)
          have HP2 : Hid (prs n k ++ pr1 n k (b + 1) <+: prs n n) := hid (prs_at n k (b + 1) hlt hltb)
          obtain ⟨y, hy, hyn, hyb⟩ := HSK.out
          have hb1 : ∀ nn : Fam wr, Calls Tryz.prog 103 #[.pointer (some ⟨L.b, 0, none⟩), .int .i64 (k : Nat)] nn.v fun e w' => e = .returned (.int .i64 (bf k : Nat)) ∧ Fr No nn.v w' := fun nn => (by_calls (hy.no nn.h) (k : Nat)).mono fun e w' ⟨h1, h2⟩ => ⟨by rw [h1, hy.ok.byr_nat (by omega), hyb], by rw [h2]; exact Fr.refl _ _⟩
          have hb2 : ∀ nn : Fam wr, Calls Tryz.prog 103 #[.pointer (some ⟨L.b, 0, none⟩), .int .i64 (b : Nat)] nn.v fun e w' => e = .returned (.int .i64 (bf b : Nat)) ∧ Fr No nn.v w' := fun nn => (by_calls (hy.no nn.h) (b : Nat)).mono fun e w' ⟨h1, h2⟩ => ⟨by rw [h1, hy.ok.byr_nat (by omega), hyb], by rw [h2]; exact Fr.refl _ _⟩
          have kk1 : ∀ nn : Fam wr, nn.v.cell? ⟨Bx, 0, none⟩ = some (.pointer (some ⟨L.b, 0, none⟩)) := Fam.cell bx
          clear hst hpre hle hy hyn hyb
          gi_wp2_with fail
          refine wpIn_wide.2 (wp_region_fam (by kernel_rfl) (by kernel_rfl) ?_)
          iterate 3 (go_big_quiet_step (exact Calls.fam (hb1 _)))
          repeat (go_big_quiet_step (exact Calls.fam (hb2 _)))
          refine wpQuiet_nil ?_
          rintro w5 ⟨⟨w5, hf5⟩, rfl⟩
          have HF5 := hid hf5
          obtain ⟨fn, tmps, assign, body, hy, hR⟩ := HY1.out w5 hf5
          clear hf5 hb1 hb2 kk1 bx bn
          gi_wp2_with fail
          refine hR.mono ?_
          rintro e W6 ⟨r, rfl, hres⟩
          have HRES := hid hres
          clear hres hR hy HY1
          rcases HRES.out with ⟨rfl, hj6, hp6⟩ | ⟨rfl, hj6⟩
          · have HJ6 := hid hj6
            have HP6 := hid hp6
            obtain ⟨fn, tmps, assign, body, hy, hR⟩ := HY2.out W6 hj6
            clear hj6 hp6 HRES
            gi_wp2_with fail
            refine hR.mono ?_
            rintro e W7 ⟨r, rfl, hres⟩
            have HRES := hid hres
            clear hres hR hy HY2
            rcases HRES.out with ⟨rfl, hj7, hp7⟩ | ⟨rfl, hj7⟩
            · have HJ7 := hid hj7
              have HP7 := hid hp7
              clear hj7 hp7 HRES
              gi_wp2
              go_roundw
              case rel => exact ⟨b + 1, by omega, by omega, by go_num, HJ7.out, HF.out.trans ((HF5.out.no).trans (HP6.out.1.trans HP7.out.1)), HP7.out.2 (HP6.out.2 (HSK.out.no HF5.out))⟩
              case measure => simp [intOf]; omega
            · have HJ7 := hid hj7
              clear hj7 HRES
              gi_wp2
              refine bodyPost_ret (results_none rfl _ _ _) rfl ?_
              exact ⟨⟨_, rfl⟩, .inr ⟨_, HP2.out, HJ7.out⟩⟩
          · have HJ6 := hid hj6
            clear hj6 HRES
            gi_wp2
            refine ⟨(fun f hf => by cases hf), ?_⟩
            gi_wp2
            refine bodyPost_ret (results_none rfl _ _ _) rfl ?_
            exact ⟨⟨_, rfl⟩, .inr ⟨_, HP1.out, HJ6.out⟩⟩
        · obtain rfl : b = n := by omega
          gi_wp2
          go_roundw
          case rel => exact ⟨k + 1, by omega, by go_num, by rw [prs_succ]; exact HJK.out, HF.out, HSK.out⟩
          case measure => simp [intOf]; omega
    · obtain rfl : k = n := by omega
      gi_wp2
      go_end0
      exact ⟨⟨_, rfl⟩, .inl ⟨_, rfl, HJK.out⟩⟩

set_option maxRecDepth 100000 in
set_option maxHeartbeats 1000000 in
theorem pairs_calls {L : IxLoc} {x : Ix} {w : World} (h : IxMem w L x) :
    Calls Tryz.prog 91 #[.pointer (some ⟨L.b, 0, none⟩)] w fun e w' => ∃ Bn Bx : Nat, e = .returned (.func (.func 166) #[] #[.pointer (some ⟨Bn, 0, none⟩), .pointer (some ⟨Bx, 0, none⟩)]) ∧ Fr No w w' ∧
      w.heap.size ≤ Bn ∧ w.heap.size ≤ Bx ∧ Bn < w'.heap.size ∧ Bx < w'.heap.size ∧ w'.cell? ⟨Bn, 0, none⟩ = some (.int .i64 (x.n : Nat)) ∧ w'.cell? ⟨Bx, 0, none⟩ = some (.pointer (some ⟨L.b, 0, none⟩)) := by
  have f0 := (Fr.refl No w).alloc (.cells #[.pointer (some ⟨L.b, 0, none⟩)] 26)
  have c0 := cell_of (heap_new w (.cells #[.pointer (some ⟨L.b, 0, none⟩)] 26)) 0
  have H := hid (h.no f0)
  have F0 := hid f0
  have hz : w.heap.size < (w.alloc (.cells #[.pointer (some ⟨L.b, 0, none⟩)] 26)).heap.size := by simp
  clear h f0
  go_enter Tryz.func91, Tryz.ntmps91
  go_wp2_with fail
  refine (vertices_calls H.out).mono ?_
  rintro e w1 ⟨rfl, hf⟩
  have c1 := hf.cell_some (c0.trans rfl) (fun h => h)
  have hs := hf.size
  have hs0 := F0.out.size
  have F1 := hid (F0.out.trans hf)
  clear hf c0
  go_wp2
  go_ret
  exact ⟨_, _, rfl, F1.out.alloc _, by omega, Nat.le_refl _, by simp, by simp; omega, by simp [go_sem], ((Fr.refl No w1).alloc _).cell_some c1 (fun h => h)⟩

end Go.Proofs.YtoepbhacpidcbaaGreatDoor

/- A region that draws its order, whose operations but for its last few leave what lay there (they may make memory), its last few in one order: one walk serves every order; also within a round of a range over a function. (The kit's theorems on still regions with a tail and on quiet regions, put together.) -/
set_option linter.unusedVariables false
set_option linter.unusedSimpArgs false
namespace Go.Proofs.YtoepbhacpidcbaaGreatDoor
open Go.RowKit Go.Deep

section
variable {P : Program} {ops : Array Oper} {md : Region.Mode} {C : World → Prop}

def wpAnyLQ (P : Program) (md : Region.Mode) (ops : Array Oper) (C : World → Prop) (n : Nat) (L : Array Bool → Act → Prop) : Nat → Array Bool → Act → Prop
  | 0, listed, a => L listed a
  | f + 1, listed, a =>
    Region.ready md ops listed ≠ [] ∧ ∀ i ∈ Region.ready md ops listed, i < n ∧ qOp P ops C i (wpAnyLQ P md ops C n L f (listed.setIfInBounds i true)) a

theorem wpAnyLQ_first {n i : Nat} {oi : Oper} {v : Value} {L : Array Bool → Act → Prop} (hi : ops[i]? = some oi) (hsel : ∀ (j : Nat) (o : Oper) cs b, ops[j]? = some o → o.op ≠ .select cs b)
    (hs : Region.sinkB md ops n = true) (hc : Region.chainB md ops n = true) (hn : n < ops.size) (hin : i < n)
    (hdone : ∀ listed a, L listed a → ∀ j ∈ Region.ready md ops listed, n ≤ j) :
    ∀ (f : Nat) (listed : Array Bool) (a : Act), HeadInv md ops n listed →
      (∀ j oj, ops[j]? = some oj → j ≠ i → listed.getD j true = false → (∀ e ∈ oj.after, Region.binds md e = true → e.on ≠ i) → oi.apart ops oj = true) →
      i ∈ Region.ready md ops listed → YieldsIn P ops C oi v a →
      wpAnyLQ P md ops C n L f (listed.setIfInBounds i true) (a.put oi.dst v) → wpAnyLQ P md ops C n L (f + 1) listed a := by
  intro f
  induction f with
  | zero =>
    intro listed a inv _ hr hy H
    have hun := (mem_ready.1 hr).1
    refine ⟨fun h => (by rw [h] at hr; cases hr), fun j hj => ?_⟩
    have hjn : j < n := by
      rcases Nat.lt_or_ge j n with h | h
      · exact h
      · exact absurd hj (tail_waits hs hc hn inv _ i rfl hin hun j h)
    refine ⟨hjn, ?_⟩
    by_cases hji : j = i
    · subst hji; exact hy.qOp hi H
    · have := hdone _ _ H j (ready_mono hj hji)
      omega
  | succ f ih =>
    intro listed a inv hfree hr hy H
    have hun := (mem_ready.1 hr).1
    refine ⟨fun h => (by rw [h] at hr; cases hr), fun j hj => ?_⟩
    have hjn : j < n := by
      rcases Nat.lt_or_ge j n with h | h
      · exact h
      · exact absurd hj (tail_waits hs hc hn inv _ i rfl hin hun j h)
    refine ⟨hjn, ?_⟩
    by_cases hji : j = i
    · subst hji; exact hy.qOp hi H
    · have h1 := (H.2 j (ready_mono hj hji)).2
      obtain ⟨hjun, oj, hoj, hall⟩ := mem_ready.1 hj
      have hnot : ∀ e ∈ oj.after, Region.binds md e = true → e.on ≠ i := fun e he hb heq => by
        have h1 := hall e he hb
        rw [heq, getD_both hun] at h1
        cases h1
      have h2 := qOp_put hoj (hfree j oj hoj hji hjun hnot) (fun cs b => hsel i oi cs b hi) (fun cs b => hsel j oj cs b hoj) hy h1
      have hfree' : ∀ k ok, ops[k]? = some ok → k ≠ i → (listed.setIfInBounds j true).getD k true = false →
          (∀ e ∈ ok.after, Region.binds md e = true → e.on ≠ i) → oi.apart ops ok = true := fun k ok hk hki hun hno => by
        refine hfree k ok hk hki ?_ hno
        by_cases hjk : j = k
        · subst hjk; exact hjun
        · rw [getD_set_ne true hjk] at hun; exact hun
      refine qOp_mono (fun a' h3 => ih (listed.setIfInBounds j true) a' (inv.set hj hjn) hfree' (ready_mono hr (Ne.symm hji)) h3.1 ?_) h2
      rw [Array.setIfInBounds_comm _ _ hji]
      exact h3.2

theorem wpAnyLQ_lex {n g : Nat} {Lq : Act → Prop} (hsel : Region.noSelect ops = true) (hs : Region.sinkB md ops n = true) (hc : Region.chainB md ops n = true) (hn : n < ops.size) :
    ∀ (l : List Oper) (k : Nat) (listed : Array Bool) (a : Act), (∀ j, j < l.length → l[j]? = ops[k + j]?) → k + l.length = n → HeadInv md ops n listed →
    Region.lexHead md ops g l.length k listed = true → wpQuiet P ops C Lq l a →
    wpAnyLQ P md ops C n (fun listed' a' => Region.seqB md ops g n listed' = true ∧ Lq a') l.length listed a
  | [], k, listed, a, _, hk, _, hB, h => by
    have : k = n := by simpa using hk
    subst this
    exact ⟨by simpa [Region.lexHead] using hB, h⟩
  | o :: l, k, listed, a, hl, hk, inv, hB, h => by
    have h0 : ops[k]? = some o := by simpa using (hl 0 (by simp)).symm
    simp only [List.length_cons, Region.lexHead, Bool.and_eq_true] at hB
    obtain ⟨⟨hr, hf⟩, hB'⟩ := hB
    have hkn : k < n := by simp only [List.length_cons] at hk; omega
    have hr' : k ∈ Region.ready md ops listed := by simpa using hr
    have hst : qOp P ops C k (wpQuiet P ops C Lq l) a := by unfold qOp; simp only [h0]; exact h
    obtain ⟨v, hy, hK⟩ := yieldsIn_of_qOp h0 hst
    exact wpAnyLQ_first h0 (Region.noSelect_spec hsel) hs hc hn hkn (fun listed' a' hL => seqB_ready hL.1) l.length listed a inv (Region.free_spec h0 hf) hr' hy
      (wpAnyLQ_lex hsel hs hc hn l (k + 1) _ _ (fun j hj => by have := hl (j + 1) (by simp; omega); simpa [Nat.add_assoc, Nat.add_comm 1 j] using this) (by simp only [List.length_cons] at hk; omega) (inv.set hr' hkn) hB' hK)

theorem wpAny_of_headQ {n g : Nat} {L : Array Bool → Act → Prop} {Q' : Exit → Act → World → Prop} (hL : ∀ listed a w, C w → L listed a → wpAny P md ops Q' g listed a w) :
    ∀ (f : Nat) (listed : Array Bool) (a : Act) (w : World), C w → wpAnyLQ P md ops C n L f listed a → wpAny P md ops Q' (f + g) listed a w
  | 0, listed, a, w, hw, h => by rw [Nat.zero_add]; exact hL _ _ _ hw h
  | f + 1, listed, a, w, hw, h => by
    rw [show f + 1 + g = (f + g) + 1 by omega]
    exact ⟨fun h0 => absurd h0 h.1, fun i hi => wpOp_of_qOp hw (fun a' w' hw' h' => wpAny_of_headQ hL f _ a' w' hw' h') (h.2 i hi).2⟩
theorem wpAnyInR_of_headQ {lp m n g : Nat} {L : Array Bool → Act → Prop} {Q' : Exit → Act → World → Prop} (hnd : ∀ (i : Nat) (o : Oper), ops[i]? = some o → noDefer o.op = true) (hL : ∀ listed a w, C w → L listed a → wpAnyIn (Fence.wide.inRound lp) m P md ops Q' g listed a w) :
    ∀ (f : Nat) (listed : Array Bool) (a : Act) (w : World), C w → wpAnyLQ P md ops C n L f listed a → wpAnyIn (Fence.wide.inRound lp) m P md ops Q' (f + g) listed a w
  | 0, listed, a, w, hw, h => by rw [Nat.zero_add]; exact hL _ _ _ hw h
  | f + 1, listed, a, w, hw, h => by
    rw [show f + 1 + g = (f + g) + 1 by omega]
    exact ⟨fun h0 => absurd h0 h.1, fun i hi => wpOpInR_of_qOp hnd hw (fun a' w' hw' h' => wpAnyInR_of_headQ hnd hL f _ a' w' hw' h') (h.2 i hi).2⟩
theorem wpAnyIn_of_seq {F : Fence} {m : Nat} {Q' : Exit → Act → World → Prop} : ∀ (l : List Oper) (k : Nat) (listed : Array Bool) (a : Act) (w : World), (∀ j, l[j]? = ops[k + j]?) →
    Region.seqB md ops l.length k listed = true → wpListIn F m P ops Q' l a w → wpAnyIn F m P md ops Q' l.length listed a w
  | [], _, _, _, _, _, hB, h => ⟨by simpa [Region.seqB] using hB, h⟩
  | o :: l, k, listed, a, w, hl, hB, h => by
    have h0 : ops[k]? = some o := by simpa using (hl 0).symm
    simp only [List.length_cons, Region.seqB, Bool.and_eq_true, decide_eq_true_eq] at hB
    refine ⟨fun h1 => (by rw [hB.1] at h1; cases h1), fun i hi => ?_⟩
    rw [hB.1] at hi
    have hik : i = k := by simpa using hi
    subst hik
    have hw : wpOpIn F m P ops Q' i (wpListIn F m P ops Q' l) a w := by unfold wpOpIn; simp only [h0]; exact h
    exact wpOpIn_mono (fun a' w' h' => wpAnyIn_of_seq l (i + 1) _ a' w' (fun j => by have := hl (j + 1); simpa [Nat.add_assoc, Nat.add_comm 1 j] using this) hB.2 h') hw
end

theorem wpIn_region_fam_tail {P : Program} {id lp m : Nat} {Q : Exit → Act → World → Prop} {a : Act} {w : World} {l : List Oper} (n : Nat) (hm : P.follows .mixedOrders = true) (hB : Region.lexTailB .any l.toArray n = true) (hd : l.all (fun o => noDefer o.op) = true)
    (h : wpQuiet P l.toArray (fun w' => ∃ n : Fam w, w' = n.v) (fun a' => ∀ w', (∃ n : Fam w, w' = n.v) → wpListIn (Fence.wide.inRound lp) m P l.toArray Q (l.drop n) a' w') (l.take n) a) : (Code.region id l.toArray true).wpIn (Fence.wide.inRound lp) m P Q a w := by
  have hnd : ∀ (i : Nat) o, l.toArray[i]? = some o → noDefer o.op = true := fun i o ho => by
    rw [List.all_eq_true] at hd
    exact hd o (List.mem_of_getElem? (by simpa using ho))
  simp only [Region.lexTailB, Bool.and_eq_true, decide_eq_true_eq] at hB
  obtain ⟨⟨⟨⟨hsel, hn⟩, hs⟩, hc⟩, hlex⟩ := hB
  have hn' : n < l.length := by simpa using hn
  have htl : (l.take n).length = n := by simp; omega
  have hdl : (l.drop n).length = l.toArray.size - n := by simp
  have inv0 : HeadInv .any l.toArray n (Array.replicate l.toArray.size false) :=
    ⟨by simp, fun j oj _ hl => (by rw [getD_replicate_false] at hl; cases hl), fun t _ ht => getD_in (by simpa using ht) (getD_replicate_false _ _)⟩
  have H := wpAnyLQ_lex (C := fun w' => ∃ n : Fam w, w' = n.v) (md := .any) (g := l.toArray.size - n) hsel hs hc hn (l.take n) 0 _ a (fun j hj => by
    have hj' : j < n := by rw [htl] at hj; exact hj
    simp [hj']) (by simpa using htl) inv0 (by rw [htl]; exact hlex) h
  refine wpIn_region_any hm ?_
  have := wpAnyInR_of_headQ (Q' := Q) (m := m) (lp := lp) (g := l.toArray.size - n) hnd (fun listed a' w' hw' hL => by
    have := wpAnyIn_of_seq (F := Fence.wide.inRound lp) (m := m) (md := .any) (Q' := Q) (l.drop n) n listed a' w' (fun j => by simp [List.getElem?_drop]) (by rw [hdl]; exact hL.1) (hL.2 w' hw')
    rwa [hdl] at this) _ _ _ _ (⟨⟨w.drew, (Fr.refl No w).drew⟩, rfl⟩ : ∃ n : Fam w, ({ w with drawn := w.drawn + 1 } : World) = n.v) H
  rw [htl, show n + (l.toArray.size - n) = l.toArray.size by omega] at this
  exact this
theorem wp_region_fam_tail {P : Program} {id : Nat} {Q : Exit → Act → World → Prop} {a : Act} {w : World} {l : List Oper} (n : Nat) (hm : P.follows .mixedOrders = true) (hB : Region.lexTailB .any l.toArray n = true)
    (h : wpQuiet P l.toArray (fun w' => ∃ n : Fam w, w' = n.v) (fun a' => ∀ w', (∃ n : Fam w, w' = n.v) → wpList P l.toArray Q (l.drop n) a' w') (l.take n) a) : (Code.region id l.toArray true).wp P Q a w := by
  simp only [Region.lexTailB, Bool.and_eq_true, decide_eq_true_eq] at hB
  obtain ⟨⟨⟨⟨hsel, hn⟩, hs⟩, hc⟩, hlex⟩ := hB
  have hn' : n < l.length := by simpa using hn
  have htl : (l.take n).length = n := by simp; omega
  have hdl : (l.drop n).length = l.toArray.size - n := by simp
  have inv0 : HeadInv .any l.toArray n (Array.replicate l.toArray.size false) :=
    ⟨by simp, fun j oj _ hl => (by rw [getD_replicate_false] at hl; cases hl), fun t _ ht => getD_in (by simpa using ht) (getD_replicate_false _ _)⟩
  have H := wpAnyLQ_lex (C := fun w' => ∃ n : Fam w, w' = n.v) (md := .any) (g := l.toArray.size - n) hsel hs hc hn (l.take n) 0 _ a (fun j hj => by
    have hj' : j < n := by rw [htl] at hj; exact hj
    simp [hj']) (by simpa using htl) inv0 (by rw [htl]; exact hlex) h
  refine wp_region_any hm ?_
  have := wpAny_of_headQ (Q' := Q) (g := l.toArray.size - n) (fun listed a' w' hw' hL => by
    have := wpAny_of_seq (md := .any) (Q' := Q) (l.drop n) n listed a' w' (fun j => by simp [List.getElem?_drop]) (by rw [hdl]; exact hL.1) (hL.2 w' hw')
    rwa [hdl] at this) _ _ _ _ (⟨⟨w.drew, (Fr.refl No w).drew⟩, rfl⟩ : ∃ n : Fam w, ({ w with drawn := w.drawn + 1 } : World) = n.v) H
  rw [htl, show n + (l.toArray.size - n) = l.toArray.size by omega] at this
  exact this

end Go.Proofs.YtoepbhacpidcbaaGreatDoor

/- build.Build: the index of a graph and an order; walked. -/
set_option linter.unusedVariables false
set_option linter.unusedSimpArgs false
namespace Go.Proofs.YtoepbhacpidcbaaGreatDoor
open Go.RowKit Go.Shelf Go.Deep

attribute [local go_sem] Oper.semAt_some

set_option maxRecDepth 100000 in
set_option maxHeartbeats 1000000 in
theorem gverts_calls {w : World} {L : GLoc} {G : Gr} (h : GMem w L G) :
    Calls Tryz.prog 90 #[.pointer (some ⟨L.b, 0, none⟩)] w fun e w' => e = .returned (.int .i64 (G.n : Nat)) ∧ Fr No w w' := by
  have c0 : w.cell? ⟨L.b, 320, none⟩ = some (.slice (some ⟨L.ba, 0, none⟩) G.n G.n) := h.blk.cell (i := 320) (by omega)
  clear h
  go_enter Tryz.func90, Tryz.ntmps90
  go_wp2
  go_ret
  exact ⟨rfl, Fr.refl _ _⟩

theorem Shape.putObj {L : IxLoc} {n : Nat} {bf : Nat → Nat} {W : World} {N : Nat} (h : Shape L n bf W) (l : Nat) (o : Obj) (hl : N ≤ l) (h1 : L.b < N) (h2 : L.br < N) (h3 : L.bb < N) (h4 : 0 < N) : Shape L n bf (W.putObj l o) := by
  obtain ⟨y, hy, h5⟩ := h
  exact ⟨y, hy.fr (fr_putObj (F := One l) W l o rfl) (fun (e : L.b = l) => by omega) (fun (e : L.br = l) => by omega) (fun (e : L.bb = l) => by omega) (fun (e : 0 = l) => by omega), h5⟩

set_option maxRecDepth 100000 in
set_option maxHeartbeats 4000000 in
theorem build_calls {Lg : GLoc} {G : Gr} {w : World} (hg : GMem w Lg G) (A : Option Addr) (c : Nat) (f : Nat → Int) (ha : IntsF w A G.n f) (hd : PermF G.n f) (g : Nat → Nat) (hg1 : ∀ i, i < G.n → g (f i).toNat = i) (hg2 : ∀ r, r < G.n → g r < G.n ∧ f (g r) = r) (hN : NoneVar w) :
    Calls Tryz.prog 41 #[.pointer (some ⟨Lg.b, 0, none⟩), .slice A G.n c] w fun e w' => ∃ L : IxLoc, e = .returned (.tuple #[.pointer (some ⟨L.b, 0, none⟩), .int .i64 0]) ∧ Fr No w w' ∧ IxMem w' L ((Ix.new G.n f g).build G) ∧
      w.heap.size ≤ L.b ∧ w.heap.size ≤ L.br ∧ w.heap.size ≤ L.bb ∧ L.cb = G.n := by
  have fb := (Fr.refl No w).alloc (.cells #[.pointer (some ⟨Lg.b, 0, none⟩)] 30)
  have hgn := hN.lt
  have hown : ∀ j, Lg.own G.n j → j < w.heap.size := fun j hj => hg.own_lt hj
  have HOWN := hid hown
  obtain ⟨x0, hx0⟩ : ∃ x0, Ix.new G.n f g = x0 := ⟨_, rfl⟩
  have hxn : x0.n = G.n := by rw [← hx0]; rfl
  have HX0 := hid hx0
  rw [hx0]
  have cb0 : (w.alloc (.cells #[.pointer (some ⟨Lg.b, 0, none⟩)] 30)).cell? ⟨w.heap.size, 0, none⟩ = some (.pointer (some ⟨Lg.b, 0, none⟩)) := by simp [go_sem]
  have hn24 := hg.ok.n2
  have hn1 := hg.ok.n1
  have HG := hid (hg.no fb)
  have HA := hid (ha.fr fb)
  have HN := hid (hN.fr fb (fun h => h))
  have FB := hid fb
  have hsb : w.heap.size < (w.alloc (.cells #[.pointer (some ⟨Lg.b, 0, none⟩)] 30)).heap.size := by simp
  have HD := hid hd
  have HG1 := hid hg1
  have HG2 := hid hg2
  clear hg ha hN fb hd hg1 hg2 hx0 hown
  refine (callsIn_wide (n := 7)).1 ?_
  refine callsIn_of_wp_marks Tryz.func41 rfl trivial ?_ rfl
  refine wpIn_wide.2 ?_
  simp only [Tryz.ntmps41, List.size_toArray, List.length_cons, List.length_nil, Nat.reduceAdd, Nat.reduceSub, Array.replicate_succ, Array.replicate_zero, List.push_toArray, List.append_toArray, List.nil_append, List.cons_append]
  go_wp2_with fail
  refine (new_yes A G.n c f _ HA.out hn1 HD.out g HG1.out HG2.out HN.out).mono ?_
  rintro e w1 ⟨L, rfl, hf, hx, hl1, hl2, hl3, hcb⟩
  rw [HX0.out] at hx
  have b2 := hf.cell_some cb0 (fun h => h)
  have hs1 := hf.size
  have HX1 := hid hx
  have HG1' := hid (HG.out.no hf)
  have F1 := hid (FB.out.trans hf)
  have HCB := hid hcb
  clear hf hx hcb cb0
  go_wp2_with fail
  have f2 := (Fr.refl No w1).alloc (.cells #[.pointer (some ⟨L.b, 0, none⟩)] 26)
  have c6 : (w1.alloc (.cells #[.pointer (some ⟨L.b, 0, none⟩)] 26)).cell? ⟨w1.heap.size, 0, none⟩ = some (.pointer (some ⟨L.b, 0, none⟩)) := by simp [go_sem]
  have c2 := f2.cell_some b2 (fun h => h)
  have HX2 := hid (HX1.out.no f2)
  have HG2' := hid (HG1'.out.no f2)
  have F2 := hid (F1.out.trans f2)
  have hs2 : (w1.alloc (.cells #[.pointer (some ⟨L.b, 0, none⟩)] 26)).heap.size = w1.heap.size + 1 := by simp
  obtain ⟨W2, hW2⟩ : ∃ W2, w1.alloc (.cells #[.pointer (some ⟨L.b, 0, none⟩)] 26) = W2 := ⟨_, rfl⟩
  rw [hW2] at f2 c6 c2 HX2 HG2' F2 hs2 ⊢
  obtain ⟨B6, hB6⟩ : ∃ B6, w1.heap.size = B6 := ⟨_, rfl⟩
  obtain ⟨B2, hB2⟩ : ∃ B2, w.heap.size = B2 := ⟨_, rfl⟩
  have hb26 : B2 < B6 := by omega
  have hb6 : B6 < W2.heap.size := by omega
  have hlb : w.heap.size ≤ L.b ∧ w.heap.size ≤ L.br ∧ w.heap.size ≤ L.bb := by omega
  have hl6 : L.b < B6 ∧ L.br < B6 ∧ L.bb < B6 := by
    have h1 := HX1.out.lt
    have h2 := HX1.out.hr.1
    have h3 := HX1.out.hb.1
    omega
  have h2l : B2 < L.b ∧ B2 < L.br ∧ B2 < L.bb := by omega
  rw [hB6] at c6 ⊢
  rw [hB2] at c2 ⊢
  have hv1 : ∀ nn : Fam W2, Calls Tryz.prog 64 #[.pointer (some ⟨L.b, 0, none⟩)] nn.v fun e w' => e = .returned (.int .i64 (G.n : Nat)) ∧ Fr No nn.v w' := fun nn => by rw [← hxn]; exact vertices_calls (HX2.out.no nn.h)
  have hv2 : ∀ nn : Fam W2, Calls Tryz.prog 90 #[.pointer (some ⟨Lg.b, 0, none⟩)] nn.v fun e w' => e = .returned (.int .i64 (G.n : Nat)) ∧ Fr No nn.v w' := fun nn => gverts_calls (HG2'.out.no nn.h)
  have kk6 : ∀ nn : Fam W2, nn.v.cell? ⟨B6, 0, none⟩ = some (.pointer (some ⟨L.b, 0, none⟩)) := Fam.cell c6
  have kk2 : ∀ nn : Fam W2, nn.v.cell? ⟨B2, 0, none⟩ = some (.pointer (some ⟨Lg.b, 0, none⟩)) := Fam.cell c2
  have hne : ((G.n : Int) != (G.n : Int)) = false := by simp
  clear hW2 f2 b2 HX1 HG1' F1 hs1 hs2 hl1 hl2 hl3
  refine wp_region_fam (by kernel_rfl) (by kernel_rfl) ?_
  iterate 5 (go_big_quiet_step (exact Calls.fam (hv1 _)))
  repeat (go_big_quiet_step (exact Calls.fam (hv2 _)))
  refine wpQuiet_nil ?_
  rintro W3 ⟨⟨W3, hf3⟩, rfl⟩
  have c63 := hf3.cell_some c6 (fun h => h)
  have c23 := hf3.cell_some c2 (fun h => h)
  have HX3 := hid (HX2.out.no hf3)
  have HG3 := hid (HG2'.out.no hf3)
  have F3 := hid (F2.out.trans hf3)
  have hs3 := hf3.size
  clear hf3 hv1 hv2 kk6 kk2 c6 c2 HX2 HG2' F2
  go_wp2_with fail
  refine (pairs_calls HX3.out).mono ?_
  rintro e W0 ⟨Bn, Bx, rfl, hf, hn1', hx1', hn2', hx2', cn, cx⟩
  have c64 := hf.cell_some c63 (fun h => h)
  have c24 := hf.cell_some c23 (fun h => h)
  have HX4 := hid (HX3.out.no hf)
  have HG4 := hid (HG3.out.no hf)
  have F4 := hid (F3.out.trans hf)
  clear hf c63 c23 HX3 HG3 F3
  rw [hxn] at cn
  have hsz := F4.out.size
  have hW0 : L.b < W0.heap.size ∧ L.br < W0.heap.size ∧ L.bb < W0.heap.size ∧ B6 < W0.heap.size ∧ B2 < W0.heap.size := by
    have h1 := HX4.out.lt
    have h2 := HX4.out.hr.1
    have h3 := HX4.out.hb.1
    have h4 := cell_lt c64
    have h5 := cell_lt c24
    exact ⟨h1, h2, h3, h4, h5⟩
  have nz := HX4.out.nz
  have hneb : L.br ≠ L.b ∧ L.bb ≠ L.b := ⟨HX4.out.hr.2, HX4.out.hb.2⟩
  have hcbn := HCB.out
  go_wp2
  refine (wpIn_wide (n := 7)).1 ?_
  refine wpIn_rangeFunc_ownH rfl (by omega) (gf := 166) (lb := #[.pointer (some ⟨Bn, 0, none⟩), .pointer (some ⟨Bx, 0, none⟩)]) rfl trivial (enters_of Tryz.func166 (by kernel_rfl) rfl)
    (pairs1_any hn24 (bf := x0.by_) 6 (by omega) Bn Bx (fun k => k = L.b ∨ W0.heap.size ≤ k) (by omega) (by omega) W0 ⟨x0, HX4.out, hxn, rfl⟩ cn cx)
    (fun h k => PK.trans h k) (fun W l' o o' hl _ _ _ => ⟨fr_putObj W l' o' (.inr hl), fun s => s.putObj (N := W0.heap.size) l' o' hl (by omega) (by omega) (by omega) (by omega)⟩) (Below.refl _ _) (fun _ => rfl)
    (fun pre W => IxMem W L (x0.bld G pre) ∧ Fr (fun k => k = L.b ∨ W0.heap.size ≤ k) W0 W)
    (fun c xs W => False)
    (fun s A B' row hs hg hr => by
      obtain ⟨q1, q2⟩ := hs
      have h2 : Fr (fun k => W0.heap.size ≤ k) A B' := ⟨hg.os, hg.tape, hg.output, hg.size, fun k hk hnk => hg.block k hk (fun e => hnk (hr k e.symm).1)⟩
      exact ⟨q1.fr h2 (by omega) (by omega) (by omega) (by omega), ownFrom_fr _ W0 s A B' row q2 hg hr⟩)
    (fun c s A B' row hs hg hr => hs)
    ⟨HX4.out, Fr.refl _ _⟩
    (fun el a' W => a' = { tmps := #[.pointer (some ⟨Lg.b, 0, none⟩), .slice A G.n c, .pointer (some ⟨B2, 0, none⟩), undef, .pointer none, .int .i64 0, .pointer (some ⟨B6, 0, none⟩), .int .i64 0, .int .i64 (x0.by_ el.1.1 : Nat), .int .i64 (x0.by_ el.1.2 : Nat),
      .tuple #[.pointer (some ⟨L.b, 0, none⟩), .int .i64 0], .slice A G.n c, .tuple #[.pointer (some ⟨L.b, 0, none⟩), .int .i64 0], .pointer (some ⟨L.b, 0, none⟩), .int .i64 0, .int .i64 0, .bool false, .bool false, .pointer (some ⟨L.b, 0, none⟩), .int .i64 (G.n : Nat), .pointer (some ⟨Lg.b, 0, none⟩), .int .i64 (G.n : Nat),
      .bool false, .bool false, .pointer (some ⟨L.b, 0, none⟩), .func (.func 166) #[] #[.pointer (some ⟨Bn, 0, none⟩), .pointer (some ⟨Bx, 0, none⟩)], .int .i64 (x0.by_ el.1.1 : Nat), .int .i64 (x0.by_ el.1.2 : Nat), undef, undef, undef, undef, undef, undef, undef, undef, undef, undef], defers := [] })
    (fun el a' s A B' row hs hg hr => hs)
    ?assign ?body ?done ?stop
  case stop => rintro D' c xs W hD hpre hix hK; exact hix.elim
  case assign =>
    rintro l' pre el W K ⟨hst, hfr⟩ hK
    have HK := hid hK
    have HFR := hid hfr
    have HST := hid hst
    clear hK hfr hst
    simp only [prEnc]
    gi_wp2
    exact HK.out _ _ ((KeepsOthers.refl _).from _) (PK.no (Fr.refl _ _)) ⟨HST.out, HFR.out⟩ rfl
  case done =>
    rintro Dd xs W hD hys ⟨hix, hfr⟩ hK
    subst hys
    have hfw : Fr No w W := F4.out.trans' hfr (fun i hi h => by omega)
    have c6W := hfr.cell_some c64 (show ¬ (B6 = L.b ∨ W0.heap.size ≤ B6) from by omega)
    have hix2 : IxMem W L (x0.build G) := by unfold Ix.build; rw [hxn]; exact hix
    have HIX := hid hix2
    have HFW := hid hfw
    have HK := hid hK
    clear hix hix2 hfr hfw hK c64 c24 cn cx
    go_wp2
    have f4 : Fr (One Dd) W (W.putObj Dd (.deferred none)) := fr_putObj (F := One Dd) _ Dd _ rfl
    refine ⟨by simp, .inl ⟨_, _, rfl, run_takeDeferred HK.out, ?_⟩⟩
    exact ⟨.tuple #[.pointer (some ⟨L.b, 0, none⟩), .int .i64 0], by simp [results, Tryz.results41, go_sem], L, rfl, HFW.out.trans' f4 (fun i hi (h : i = Dd) => by omega), HIX.out.fr f4 (fun (h : L.b = Dd) => by omega) (fun (h : L.br = Dd) => by omega) (fun (h : L.bb = Dd) => by omega) (fun (h : 0 = Dd) => by omega), hlb.1, hlb.2.1, hlb.2.2, hcbn⟩
  case body =>
    rintro l' pre el a' W hlp hloop ⟨hix, hfr⟩ rfl hlen
    have hsh := Ix.bld_shape G pre x0
    have hnext : x0.bld G (pre ++ [el]) = (x0.bld G pre).setI (x0.by_ el.1.1 : Nat) (x0.by_ el.1.2 : Nat) ((x0.bld G pre).best (x0.by_ el.1.1 : Nat) (x0.by_ el.1.2 : Nat) (G.best (x0.by_ el.1.1 : Nat) (x0.by_ el.1.2 : Nat))) := by
      rw [Ix.bld_snoc]; unfold Ix.bstep; rw [hsh.2.2]
    obtain ⟨y, hy⟩ : ∃ y, x0.bld G pre = y := ⟨_, rfl⟩
    rw [hy] at hix hsh hnext
    have HNX := hid hnext
    have hcap : y.n ≤ L.cb := by rw [hsh.1, hxn, hcbn]; exact Nat.le_refl _
    have HSH := hid hsh
    obtain ⟨u, hu⟩ : ∃ u, x0.by_ el.1.1 = u := ⟨_, rfl⟩
    obtain ⟨v, hv⟩ : ∃ v, x0.by_ el.1.2 = v := ⟨_, rfl⟩
    rw [hu, hv] at HNX
    rw [hu, hv]
    have HG5 := hid (HG4.out.fr hfr (fun j hj (h : j = L.b ∨ W0.heap.size ≤ j) => by have := HOWN.out j hj; omega))
    have HI5 := hid hix
    have d6 := hfr.cell_some c64 (show ¬ (B6 = L.b ∨ W0.heap.size ≤ B6) from by omega)
    have d2 := hfr.cell_some c24 (show ¬ (B2 = L.b ∨ W0.heap.size ≤ B2) from by omega)
    have HFR := hid hfr
    clear hsh hnext hy hu hv hix hfr hlen c64 c24 cn cx hloop
    obtain ⟨⟨e0, e1, e2⟩, he⟩ : ∃ e, y.best (u : Nat) (v : Nat) (G.best (u : Nat) (v : Nat)) = e := ⟨_, rfl⟩
    rw [he] at HNX
    have hbest : ∀ nn : Fam W, Calls Tryz.prog 92 #[.pointer (some ⟨L.b, 0, none⟩), .pointer (some ⟨Lg.b, 0, none⟩), .int .i64 (u : Nat), .int .i64 (v : Nat)] nn.v fun e w' => e = .returned (.agg #[.int .i64 e0, .int .i64 e1, .int .i64 e2]) ∧ Fr No nn.v w' := fun nn => by
      have := xbest_calls (HI5.out.no nn.h) hcap (HG5.out.no nn.h) (u : Nat) (v : Nat)
      rw [he] at this
      exact this
    have kk6 : ∀ nn : Fam W, nn.v.cell? ⟨B6, 0, none⟩ = some (.pointer (some ⟨L.b, 0, none⟩)) := Fam.cell d6
    have kk2 : ∀ nn : Fam W, nn.v.cell? ⟨B2, 0, none⟩ = some (.pointer (some ⟨Lg.b, 0, none⟩)) := Fam.cell d2
    clear he
    gi_wp2_with fail
    refine wpIn_region_fam_tail 8 (by kernel_rfl) (by kernel_rfl) (by kernel_rfl) ?_
    simp only [List.take_succ_cons, List.take_zero, List.drop_succ_cons, List.drop_zero]
    repeat (go_big_quiet_step (exact Calls.fam (hbest _)))
    refine wpQuiet_nil ?_
    rintro w5 ⟨⟨w5, hf5⟩, rfl⟩
    have HF5 := hid hf5
    clear hf5 kk6 kk2 hbest d6 d2
    gi_wp2_with fail
    refine ⟨trivial, CallsIn.inRound l' (callsIn_wide.2 ((set_calls (HI5.out.no HF5.out) (u : Nat) (v : Nat) ⟨e0, e1, e2⟩).mono ?_))⟩
    rintro e w6 ⟨rfl, hm6, hf6⟩
    have HM6 := hid hm6
    have HF6 := hid hf6
    clear hm6 hf6
    gi_wp2
    all_goals
      have hw8 : Fr (One L.b) W w6 := (HF5.out.no (F := One L.b)).trans HF6.out
      have hm8 : IxMem w6 L (x0.bld G (pre ++ [el])) := by rw [HNX.out]; exact HM6.out
      have hs8 := Ix.bld_shape G (pre ++ [el]) x0
      refine ⟨keepsFrom_fr (B := W0.heap.size) hw8 (fun k (h : k = _) => by omega), ⟨hw8.mono (fun k hk (h : k = L.b) => .inl h), fun _ => ⟨_, hm8, by rw [hs8.1, hxn], hs8.2.2⟩⟩, hm8, HFR.out.trans (hw8.mono fun k hk (h : k = L.b) => .inl h)⟩

end Go.Proofs.YtoepbhacpidcbaaGreatDoor

/- A region that draws its order, one of whose operations writes or makes memory, those ahead and those behind being quiet: one walk serves every order. -/
set_option linter.unusedVariables false
set_option linter.unusedSimpArgs false
namespace Go.Proofs.YtoepbhacpidcbaaGreatDoor
open Go.RowKit Go.Deep

section
variable {P : Program} {ops : Array Oper} {md : Region.Mode} {C : World → Prop}

/-- What may end normally alone. -/
def sureQ (X : Act → World → Prop) : Exit → Act → World → Prop
  | .normal, a, w => X a w
  | _, _, _ => False
theorem letsOut_sure {X : Act → World → Prop} (h : LetsOut (sureQ X)) : False := by
  obtain ⟨_, _, h⟩ := h
  exact h
end

end Go.Proofs.YtoepbhacpidcbaaGreatDoor
/- A heap's tree and places, as a bag: plain; and how they lie in memory. -/
set_option linter.unusedVariables false
set_option linter.unusedSimpArgs false
namespace Go.Proofs.YtoepbhacpidcbaaGreatDoor
open Go.RowKit Go.Deep

def updI (f : Nat → Int) (i : Nat) (v : Int) : Nat → Int := fun j => if j = i then v else f j
theorem updI_eq (f : Nat → Int) (i : Nat) (v : Int) : updI f i v i = v := by simp [updI]
theorem updI_ne (f : Nat → Int) {i j : Nat} (v : Int) (h : j ≠ i) : updI f i v j = f j := by simp [updI, h]
/-- A tree and its places agree. -/
structure Con (n : Nat) (T : List Nat) (pl : Nat → Int) : Prop where
  up : ∀ i, i < T.length → T.getD i 0 < n ∧ pl (T.getD i 0) = i
  dn : ∀ v, v < n → pl v = -1 ∨ (0 ≤ pl v ∧ pl v < T.length ∧ T.getD (pl v).toNat 0 = v)

theorem Con.inj {n : Nat} {T : List Nat} {pl : Nat → Int} (h : Con n T pl) {i j : Nat} (hi : i < T.length) (hj : j < T.length) (e : T.getD i 0 = T.getD j 0) : i = j := by
  have a := (h.up i hi).2
  have b := (h.up j hj).2
  rw [e] at a; omega

theorem Con.nil (n : Nat) : Con n [] (fun _ => -1) := ⟨fun i hi => by simp at hi, fun v _ => .inl rfl⟩

theorem appD (T : List Nat) (v j : Nat) : (T ++ [v]).getD j 0 = if j = T.length then v else T.getD j 0 := by
  rw [List.getD_eq_getElem?_getD, List.getD_eq_getElem?_getD, List.getElem?_append]
  by_cases e : j < T.length
  · rw [if_pos e, if_neg (by omega)]
  · rw [if_neg e]
    by_cases e2 : j = T.length
    · subst e2; simp
    · rw [if_neg e2, List.getElem?_eq_none (by simp; omega), List.getElem?_eq_none (by omega)]

theorem Con.push {n : Nat} {T : List Nat} {pl : Nat → Int} (h : Con n T pl) {th : Nat} (ht : th < n) (hm : pl th < 0) : Con n (T ++ [th]) (updI pl th T.length) := by
  have hlen : (T ++ [th]).length = T.length + 1 := by simp
  refine ⟨fun i hi => ?_, fun v hv => ?_⟩
  · rw [appD]
    by_cases e : i = T.length
    · rw [if_pos e, e]; exact ⟨ht, updI_eq _ _ _⟩
    · rw [if_neg e]
      have hu := h.up i (by omega)
      refine ⟨hu.1, ?_⟩
      rw [updI_ne _ _ (fun e2 => by rw [e2] at hu; omega)]; exact hu.2
  · by_cases e : v = th
    · subst e; rw [updI_eq]; exact .inr ⟨by omega, by omega, by rw [appD, Int.toNat_natCast, if_pos rfl]⟩
    · rw [updI_ne _ _ e]
      rcases h.dn v hv with hd | ⟨d1, d2, d3⟩
      · exact .inl hd
      · exact .inr ⟨d1, by omega, by rw [appD, if_neg (by omega)]; exact d3⟩

theorem nodup_leH : ∀ (n : Nat) (L : List Nat), L.Nodup → (∀ z ∈ L, z < n) → L.length ≤ n := by
  intro n
  induction n with
  | zero =>
    intro L _ h
    match L with
    | [] => exact Nat.le_refl _
    | z :: L => exact absurd (h z (by simp)) (by omega)
  | succ n ih =>
    intro L hd h
    have h1 := ih (L.erase n) (hd.erase n) (fun z hz => by
      have h2 := h z (List.mem_of_mem_erase hz)
      have h3 : z ≠ n := fun e => by
        subst e
        exact (hd.mem_erase_iff.1 hz).1 rfl
      omega)
    have h4 := List.length_erase_le (l := L) (a := n)
    by_cases hm : n ∈ L
    · rw [List.length_erase_of_mem hm] at h1
      omega
    · rw [List.erase_of_not_mem hm] at h1
      omega
/-- The arcs of an entry that is told: a simple walk; fewer than there are vertices. -/

theorem Con.len {n : Nat} {T : List Nat} {pl : Nat → Int} (h : Con n T pl) : T.length ≤ n := by
  have hnd : T.Nodup := by
    rw [List.nodup_iff_pairwise_ne, List.pairwise_iff_getElem]
    intro i j hi hj hij e
    have := h.inj hi hj (by rw [List.getD_eq_getElem?_getD, List.getD_eq_getElem?_getD, List.getElem?_eq_getElem hi, List.getElem?_eq_getElem hj]; simpa using e)
    omega
  exact nodup_leH n T hnd fun v hv => by
    obtain ⟨i, hi, e⟩ := List.mem_iff_getElem.1 hv
    have := (h.up i hi).1
    rw [List.getD_eq_getElem?_getD, List.getElem?_eq_getElem hi] at this
    rw [← e]; simpa using this

def TI (T : List Nat) : List Int := T.map (fun (v : Nat) => (v : Int))
theorem TI_len (T : List Nat) : (TI T).length = T.length := by simp [TI]
end Go.Proofs.YtoepbhacpidcbaaGreatDoor

/- How a heap lies in memory; a thing that is laid; which of two things is ahead; walked. -/
set_option linter.unusedVariables false
set_option linter.unusedSimpArgs false
namespace Go.Proofs.YtoepbhacpidcbaaGreatDoor
open Go.RowKit Go.Deep

structure HLoc where
  b : Nat
  t : Value
  p : Nat
  q : Nat
  base : Nat
def HLoc.own (L : HLoc) (j : Nat) : Prop := j = L.b ∨ j = L.p ∨ j = L.q ∨ L.t.ownBlock = some j

structure HpMem (w : World) (L : HLoc) (n : Nat) (T : List Nat) (pl pr : Nat → Int) : Prop where
  h : w.heap[L.b]? = some (.cells #[L.t, .slice (some ⟨L.p, 0, none⟩) n n, .slice (some ⟨L.q, 0, none⟩) n n] 263)
  tr : w.ownsRow L.base 3 1 L.t (TI T).length ((TI T).map (Value.int .i64))
  pb : Blk w L.p n 3 (fun i => .int .i64 (pl i))
  qb : Blk w L.q n 3 (fun i => .int .i64 (pr i))
  d : L.b ≠ L.p ∧ L.b ≠ L.q ∧ L.p ≠ L.q
  bb : L.b < L.base ∧ L.p < L.base ∧ L.q < L.base
  bs : L.base ≤ w.heap.size

theorem own_frH {w w' : World} {base : Nat} {e : TypeId} {size : Nat} {v : Value} {n : Nat} {xs : List Value} (h : w.ownsRow base e size v n xs) {F : Nat → Prop} (hf : Fr F w w') (hF : ∀ j, v.ownBlock = some j → ¬ F j) : w'.ownsRow base e size v n xs := by
  obtain ⟨h1, h2⟩ := h
  refine ⟨h1, ?_⟩
  rcases h2 with h2 | ⟨g, cap, cur, e0, hb, hg, r⟩
  · exact .inl h2
  · refine .inr ⟨g, cap, cur, e0, hb, ?_, r⟩
    have hlt : g < w.heap.size := by
      rcases Nat.lt_or_ge g w.heap.size with h' | h'
      · exact h'
      · rw [Array.getElem?_eq_none h'] at hg; cases hg
    rw [hf.block g hlt (hF g (by rw [e0]; rfl))]; exact hg

theorem heap_lt {w : World} {b : Nat} {o : Obj} (h : w.heap[b]? = some o) : b < w.heap.size := by
  rcases Nat.lt_or_ge b w.heap.size with h' | h'
  · exact h'
  · rw [Array.getElem?_eq_none h'] at h; cases h

theorem HpMem.fr {w w' : World} {L : HLoc} {n : Nat} {T : List Nat} {pl pr : Nat → Int} (h : HpMem w L n T pl pr) {F : Nat → Prop} (hf : Fr F w w') (hF : ∀ j, L.own j → ¬ F j) : HpMem w' L n T pl pr :=
  ⟨(hf.block _ (heap_lt h.h) (hF _ (.inl rfl))).trans h.h, own_frH h.tr hf (fun j hj => hF j (.inr (.inr (.inr hj)))), h.pb.fr hf (hF _ (.inr (.inl rfl))), h.qb.fr hf (hF _ (.inr (.inr (.inl rfl)))), h.d, h.bb, Nat.le_trans h.bs hf.size⟩
theorem HpMem.no {w w' : World} {L : HLoc} {n : Nat} {T : List Nat} {pl pr : Nat → Int} (h : HpMem w L n T pl pr) (hf : Fr No w w') : HpMem w' L n T pl pr := h.fr hf (fun _ _ h => h)

theorem HpMem.own_lt {w : World} {L : HLoc} {n : Nat} {T : List Nat} {pl pr : Nat → Int} (h : HpMem w L n T pl pr) {j : Nat} (hj : L.own j) : j < w.heap.size := by
  rcases hj with rfl | rfl | rfl | hj
  · exact heap_lt h.h
  · exact h.pb.lt
  · exact h.qb.lt
  · exact (h.tr.lt j hj).2

theorem HpMem.len {w : World} {L : HLoc} {n : Nat} {T : List Nat} {pl pr : Nat → Int} (h : HpMem w L n T pl pr) : ∃ A cap, L.t = .slice A T.length cap := by
  have ht := h.tr
  rw [TI_len] at ht
  obtain ⟨h1, ⟨e, h2⟩ | ⟨g, cap, cur, e0, _⟩⟩ := ht
  · exact ⟨none, 0, by rw [e, h2]⟩
  · exact ⟨_, cap, e0⟩

theorem HpMem.alloc {w : World} {L : HLoc} {n : Nat} {T : List Nat} {pl pr : Nat → Int} (h : HpMem w L n T pl pr) (o : Obj) : HpMem (w.alloc o) L n T pl pr := h.no ((Fr.refl No w).alloc o)

end Go.Proofs.YtoepbhacpidcbaaGreatDoor

/- Which of two things is ahead; walked. -/
set_option linter.unusedVariables false
set_option linter.unusedSimpArgs false
namespace Go.Proofs.YtoepbhacpidcbaaGreatDoor
open Go.RowKit Go.Deep

end Go.Proofs.YtoepbhacpidcbaaGreatDoor

/- What stands at a place of a heap goes up as far as it must; walked. -/
set_option linter.unusedVariables false
set_option linter.unusedSimpArgs false
namespace Go.Proofs.YtoepbhacpidcbaaGreatDoor
open Go.RowKit Go.Deep

end Go.Proofs.YtoepbhacpidcbaaGreatDoor

/- What stands at a place of a heap goes down as far as it must; walked. -/
set_option linter.unusedVariables false
set_option linter.unusedSimpArgs false
namespace Go.Proofs.YtoepbhacpidcbaaGreatDoor
open Go.RowKit Go.Deep

end Go.Proofs.YtoepbhacpidcbaaGreatDoor

/- A heap as a bag: what is put into it; walked. -/
set_option linter.unusedVariables false
set_option linter.unusedSimpArgs false
namespace Go.Proofs.YtoepbhacpidcbaaGreatDoor
open Go.RowKit Go.Deep

def setS (S : Nat → Bool) (i : Nat) (d : Bool) : Nat → Bool := fun j => if j = i then d else S j
def Bag (w : World) (L : HLoc) (n : Nat) (S : Nat → Bool) (pr : Nat → Int) : Prop := ∃ T pl, HpMem w L n T pl pr ∧ Con n T pl ∧ ∀ v, v < n → (0 ≤ pl v ↔ S v = true)

theorem Bag.fr {w w' : World} {L : HLoc} {n : Nat} {S : Nat → Bool} {pr : Nat → Int} (h : Bag w L n S pr) {F : Nat → Prop} (hf : Fr F w w') (hF : ∀ j, L.own j → ¬ F j) : Bag w' L n S pr := by
  obtain ⟨T, pl, a, b, c⟩ := h
  exact ⟨T, pl, a.fr hf hF, b, c⟩
theorem Bag.no {w w' : World} {L : HLoc} {n : Nat} {S : Nat → Bool} {pr : Nat → Int} (h : Bag w L n S pr) (hf : Fr No w w') : Bag w' L n S pr := h.fr hf (fun _ _ h => h)
theorem Bag.own_lt {w : World} {L : HLoc} {n : Nat} {S : Nat → Bool} {pr : Nat → Int} (h : Bag w L n S pr) {j : Nat} (hj : L.own j) : j < w.heap.size := by
  obtain ⟨T, pl, a, b, c⟩ := h
  exact a.own_lt hj

theorem HpMem.push {w w1 w2 : World} {L : HLoc} {n : Nat} {T : List Nat} {pl pr : Nat → Int} (h : HpMem w L n T pl pr) {th g cap : Nat} (hf : Fr No w w1)
    (ho : w2.ownsRow L.base 3 1 (.slice (some ⟨g, 0, none⟩) (TI T ++ [(th : Int)]).length cap) (TI T ++ [(th : Int)]).length ((TI T ++ [(th : Int)]).map (Value.int .i64)))
    (hg : w1.grownBy w2 L.t.ownBlock) (hw : L.t.ownBlock = some g ∨ g = w1.heap.size) :
    HpMem (w2.setCell ⟨L.b, 0, none⟩ (.slice (some ⟨g, 0, none⟩) (TI T ++ [(th : Int)]).length cap)) { L with t := .slice (some ⟨g, 0, none⟩) (TI T ++ [(th : Int)]).length cap } n (T ++ [th]) pl pr ∧
    Fr L.own w (w2.setCell ⟨L.b, 0, none⟩ (.slice (some ⟨g, 0, none⟩) (TI T ++ [(th : Int)]).length cap)) ∧ (L.t.ownBlock = some g ∨ w.heap.size ≤ g) := by
  have h1 := h.no hf
  have bb := h.bb
  have hgb : L.base ≤ g := (ho.lt g rfl).1
  have hfr : Fr L.own w w2 := (hf.no (F := L.own)).grown hg (fun k hk => .inl (.inr (.inr (.inr hk))))
  have hnk : ∀ k, k < L.base → some k ≠ L.t.ownBlock := fun k hk e => by
    have := (h.tr.lt k e.symm).1; omega
  have e2 : TI (T ++ [th]) = TI T ++ [(th : Int)] := by simp [TI]
  refine ⟨⟨?_, ?_, ?_, ?_, h.d, h.bb, ?_⟩, hfr.setCell (p := ⟨L.b, 0, none⟩) (.inl (.inl rfl)) _, ?_⟩
  · have : w2.heap[L.b]? = some (.cells #[L.t, .slice (some ⟨L.p, 0, none⟩) n n, .slice (some ⟨L.q, 0, none⟩) n n] 263) := (hg.block L.b (heap_lt h1.h) (hnk _ bb.1)).trans h1.h
    exact heap_set this 0 _
  · rw [e2]
    exact own_frH ho ((Fr.refl (One L.b) w2).set1 0 _) (fun j hj e => by
      have hj : some g = some j := hj
      injection hj with hj
      have e : j = L.b := e
      omega)
  · exact (h1.pb.of_heap (hg.block L.p h1.pb.lt (hnk _ bb.2.1))).setCell_ne (p := ⟨L.b, 0, none⟩) h.d.1 _
  · exact (h1.qb.of_heap (hg.block L.q h1.qb.lt (hnk _ bb.2.2))).setCell_ne (p := ⟨L.b, 0, none⟩) h.d.2.1 _
  · have := h.bs; have := hfr.size
    simp; omega
  · rcases hw with hw | hw
    · exact .inl hw
    · exact .inr (by have := hf.size; omega)

def putP (S : Nat → Bool) (pr : Nat → Int) (th : Nat) (p : Int) : Nat → Int := if S th = true ∧ pr th ≤ p then pr else updI pr th p
def PutR (L : HLoc) (n : Nat) (S : Nat → Bool) (pr : Nat → Int) (th : Nat) (p : Int) (w : World) (e : Ending) (w' : World) : Prop :=
  ∃ (c : Int) (t' : Value), e = .returned (.int .i64 c) ∧ Bag w' { L with t := t' } n (setS S th true) (putP S pr th p) ∧ Fr L.own w w' ∧ ∀ j, t'.ownBlock = some j → L.t.ownBlock = some j ∨ w.heap.size ≤ j

end Go.Proofs.YtoepbhacpidcbaaGreatDoor

/- A new heap; what comes out of one; walked. -/
set_option linter.unusedVariables false
set_option linter.unusedSimpArgs false
namespace Go.Proofs.YtoepbhacpidcbaaGreatDoor
open Go.RowKit Go.Deep

end Go.Proofs.YtoepbhacpidcbaaGreatDoor

/- A new heap; walked. -/
set_option linter.unusedVariables false
set_option linter.unusedSimpArgs false
namespace Go.Proofs.YtoepbhacpidcbaaGreatDoor
open Go.RowKit Go.Deep

end Go.Proofs.YtoepbhacpidcbaaGreatDoor
