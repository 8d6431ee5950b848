/- slices.AppendSeq and slices.Collect of numbers, against an iterator that may range over another one; walked. -/
import Derived.OwnWalkIn
import Derived.Maps.OwnIn
import Derived.Test.YtoepbhacpidcbaaGreatDoorQBase
import Derived.Test.YtoepbhacpidcbaaGreatDoorQIdx
import Derived.Test.YtoepbhacpidcbaaGreatDoorQPerm
import Derived.Test.YtoepbhacpidcbaaGreatDoorQIdxB
import Derived.Test.YtoepbhacpidcbaaGreatDoorQRef
import Derived.Test.YtoepbhacpidcbaaGreatDoorQUnref
import Derived.Test.YtoepbhacpidcbaaGreatDoorQItr
import Derived.Test.YtoepbhacpidcbaaGreatDoorQUnE
import Derived.Test.YtoepbhacpidcbaaGreatDoorQDst
import Derived.Test.YtoepbhacpidcbaaGreatDoorQLnk
import Derived.Test.YtoepbhacpidcbaaGreatDoorQLks
import Derived.Test.YtoepbhacpidcbaaGreatDoorQMid
import Derived.Test.YtoepbhacpidcbaaGreatDoorQBig
import Derived.Test.YtoepbhacpidcbaaGreatDoorQCp2
import Derived.Test.YtoepbhacpidcbaaGreatDoorQGOps
import Derived.Test.YtoepbhacpidcbaaGreatDoorQGB
import Derived.Test.YtoepbhacpidcbaaGreatDoorQG8
import Derived.Test.YtoepbhacpidcbaaGreatDoorQHpK
import Derived.Test.YtoepbhacpidcbaaGreatDoorQSqO

set_option linter.unusedVariables false
set_option linter.unusedSimpArgs false
namespace Go.Proofs.YtoepbhacpidcbaaGreatDoor
open Go.RowKit Go.Shelf Go.Deep

attribute [local go_sem] Oper.semAt_some

theorem grown_frO {W W' : World} {row : Option Nat} {F : Nat → Prop} (h : W.grownBy W' row) (hr : ∀ r, row = some r → F r) : Fr F W W' :=
  ⟨h.os, h.tape, h.output, h.size, fun k hk hnk => h.block k hk (fun e => hnk (hr k e.symm))⟩
theorem ownRow_own {W W' : World} {base n size : Nat} {e : TypeId} {v : Value} {xs : List Value} {row : Option Nat} (h : W.ownsRow base e size v n xs) (hg : W.grownBy W' row) (hr : ∀ r, row = some r → ∃ o : Obj, W.heap[r]? = some o ∧ o.isCells = false) : W'.ownsRow base e size v n xs := by
  refine h.kept hg ?_
  rcases h.2 with ⟨rfl, _⟩ | ⟨g, cap, cur, rfl, _, hc, _⟩
  · exact .inl rfl
  · refine .inr fun e => ?_
    obtain ⟨o, ho, hn⟩ := hr g e.symm
    rw [hc] at ho
    cases ho
    cases hn

theorem ownRow_base {W : World} {base base' n size : Nat} {e : TypeId} {v : Value} {xs : List Value} (h : W.ownsRow base e size v n xs) (hb : base' ≤ base) : W.ownsRow base' e size v n xs :=
  ⟨h.1, h.2.imp id (fun ⟨g, cap, cur, h1, h2, h3⟩ => ⟨g, cap, cur, h1, Nat.le_trans hb h2, h3⟩)⟩
theorem keeps_of_cells {W W' : World} {F : Nat → Prop} (B : Nat) (h : Fr F W W') (hF : ∀ k, F k → k < W.heap.size → ∃ o, W.heap[k]? = some o ∧ o.isCells = true) : KeepsFrom B W W' := ⟨h.size, fun k o _ ho hn => by
  have hk := heap_lt ho
  by_cases hFk : F k
  · obtain ⟨o', h1, h2⟩ := hF k hFk hk
    rw [ho] at h1
    cases h1
    rw [hn] at h2; cases h2
  · exact (h.block k hk hFk).trans ho⟩

def ApI {α : Type} (f : α → Int) (F : Nat → Prop) (W1 : World) (Bs base : Nat) (pre : List α) (W : World) : Prop :=
  ∃ v, W.heap[Bs]? = some (.cells #[v] 34 (0, 0)) ∧ W.ownsRow base 3 1 v pre.length (pre.map fun el => .int .i64 (f el)) ∧ (v = .slice none 0 0 ↔ pre = []) ∧ Fr F W1 W
theorem ApI.own {α : Type} {f : α → Int} {F : Nat → Prop} {W1 : World} {Bs base B : Nat} (hF : ∀ k, B ≤ k → F k ∨ W1.heap.size ≤ k) : OwnFrom B (ApI (α := α) f F W1 Bs base) := fun s X Y row hs hg hr => by
  obtain ⟨v, h1, h2, h3, h4⟩ := hs
  refine ⟨v, (hg.block Bs (heap_lt h1) (fun e => ?_)).trans h1, ownRow_own h2 hg (fun r e => (hr r e).2), h3, ?_⟩
  · obtain ⟨_, o, ho, hn⟩ := hr Bs e.symm
    rw [h1] at ho
    cases ho
    cases hn
  · have : Fr (fun k => F k ∨ W1.heap.size ≤ k) X Y := grown_frO hg (fun r e => hF r (hr r e).1)
    exact h4.trans' this (fun k hk h => h.elim id (fun h => by omega))

set_option maxRecDepth 100000 in
set_option maxHeartbeats 4000000 in
theorem appseq_O {α : Type} (f : α → Int) (L : List α) (hL : L.length ≤ 1000) (g : Nat) (lb : Array Value) (eg : ∀ args w, (callFunc g args).run Tryz.prog w = .ok (.enter g args) w) (w : World) (c : Nat)
    (hseq : ∀ (W1 : World) (F : Nat → Prop), Fr No w W1 → (∀ k, k < w.heap.size → ¬ F k) → (∀ k, W1.heap.size + 2 ≤ k → k < W1.heap.size + 2 + c → ¬ F k) → SeqO Fence.wide 6 Tryz.prog g lb (fun el => #[.int .i64 (f el)]) (Fr F) (fun ys => ys = L) (fun pre => pre <+: L) L.length (W1.heap.size + 2) c W1) :
    Calls Tryz.prog 206 #[.slice none 0 0, .func (.func g) #[] lb] w fun e w' => ∃ v, e = .returned v ∧ w'.ownsRow w.heap.size 3 1 v L.length (L.map fun el => .int .i64 (f el)) ∧ (v = .slice none 0 0 ↔ L = []) ∧ Fr No w w' := by
  obtain ⟨i0, hi, hz0, hz1, hz2⟩ := i_int
  have f1 := (Fr.refl No w).alloc (.cells #[.slice none 0 0] 34)
  have hsz : (w.alloc (.cells #[.slice none 0 0] 34)).heap.size = w.heap.size + 1 := by simp
  have hcb := heap_new w (.cells #[.slice none 0 0] 34)
  obtain ⟨W1, hW1⟩ : ∃ W1, w.alloc (.cells #[.slice none 0 0] 34) = W1 := ⟨_, rfl⟩
  rw [hW1] at f1 hsz hcb
  have HSEQ := hid hseq
  have hs1 : w.heap.size < W1.heap.size := by omega
  have F1 := hid f1
  have HI := hid hi
  have HZ0 := hid hz0
  have HZ1 := hid hz1
  have HZ2 := hid hz2
  have HCB := hid hcb
  have HEG := hid eg
  clear hsz hseq f1 hi hz0 hz1 hz2 hcb eg
  refine (callsIn_wide (n := 7)).1 ?_
  refine callsIn_of_wp_marks Tryz.func206 rfl trivial ?_ rfl
  refine wpIn_wide.2 ?_
  simp only [Tryz.ntmps206, List.size_toArray, List.length_cons, List.length_nil, Nat.reduceAdd, Nat.reduceSub, Array.replicate_succ, Array.replicate_zero, List.push_toArray, List.append_toArray, List.nil_append, List.cons_append]
  go_wp2_with fail
  clear hW1
  refine (wpIn_wide (n := 7)).1 ?_
  refine wpIn_rangeFunc_O rfl (by omega) (gf := g) (lb := lb) rfl trivial HEG.out (c := c) (w0 := W1)
    (HSEQ.out W1 (fun k => k = w.heap.size ∨ k = W1.heap.size + 1 ∨ W1.heap.size + 2 + c ≤ k) F1.out (by intro k hk h; omega) (by intro k h1 h2 h; omega))
    (fun h k => Fr.trans h k) (fun W o o' h1 h2 h3 => ?kb) (Below.refl _ _) (fun _ => rfl)
    (ApI f (fun k => k = w.heap.size ∨ k = W1.heap.size + 1 ∨ W1.heap.size + 2 + c ≤ k) W1 w.heap.size (W1.heap.size + 2 + c))
    (fun _ _ _ => False) (ApI.own (fun k hk => .inr hk)) (fun _ s X Y row hs _ _ => hs.elim)
    ⟨_, HCB.out, World.ownsRow_nil _ _ _ _, ⟨fun _ => rfl, fun _ => rfl⟩, Fr.refl _ _⟩
    (fun el => { tmps := #[.slice none 0 0, .func (.func g) #[] lb, .pointer (some ⟨w.heap.size, 0, none⟩), undef, .slice none 0 0, .int .i64 (f el), .func (.func g) #[] lb, .int .i64 (f el), undef, undef, undef, undef, undef], defers := [] })
    ?assign ?body ?done ?stop
  case kb => exact fr_putObj W _ o' (.inr (.inl rfl))
  case assign =>
    intro l x W K hK
    gi_wp2
    simpa using hK
  case stop => exact fun D c' pre W _ _ h _ => h.elim
  case done =>
    rintro D xs W hD rfl ⟨v, hv, hown, hnil, hfr⟩ hsz hK
    have HOWN := hid hown
    have HNIL := hid hnil
    have HFR := hid hfr
    have k1 := cell_of hv 0
    have lt1 := heap_lt hv
    have HK := hid hK
    clear hown hnil hfr hv hK
    go_wp2
    refine ⟨by simp, .inl ⟨_, _, rfl, run_takeDeferred HK.out, ?_⟩⟩
    have f4 : Fr (One D) W (W.putObj D (.deferred none)) := fr_putObj (F := One D) _ D _ rfl
    exact ⟨v, by simp [results, Tryz.results206, go_sem], v, rfl, ownRow_base (ownRow_own HOWN.out (grownBy_putObj' _ _ _) (fun r e => ⟨.deferred (some []), by injection e with e; rw [← e]; exact HK.out, rfl⟩)) (by omega), HNIL.out, (F1.out.trans' HFR.out (fun k hk h => by omega)).trans' f4 (fun k hk (h : k = D) => by omega)⟩
  case body =>
    rintro l pre x W hl hloop ⟨v, hv, hown, hnil, hfr⟩ hlen hsz
    have k1 := cell_of hv 0
    have lt1 := heap_lt hv
    have hzW : Blk W w.heap.size 1 34 (fun _ => v) := ⟨_, hv, rfl, fun i hi => by match i, hi with | 0, _ => rfl⟩
    have HZW := hid hzW
    have HV := hid hv
    have HOWN := hid hown
    have HFR := hid hfr
    have hvb : ∀ k, v.ownBlock = some k → W1.heap.size + 2 + c ≤ k := fun k hk => (hown.lt k hk).1
    have HVB := hid hvb
    clear hown hnil hfr hzW hv hvb hloop
    gi_wp2_with (gi_at_builtin; refine @wpListIn_append_own_at _ _ _ _ _ _ _ _ _ rfl (.tmp 8) (.tmp 10) 34 rfl (W1.heap.size + 2 + c) 3 i0 (.int .i64 0) 1 8 Tryz.underlying34 HI.out HZ0.out HZ1.out HZ2.out rfl (by decide) v pre.length _ rfl (HOWN.out.alloc _) ⟨W.heap.size, 0, none⟩ 1 1 [.int .i64 (f x)] rfl rfl ?n1 ?n2 ?n3 ?n4 ?n5 ?n6)
    case n1 => exact news_of_heap (heap_new W _)
    case n2 =>
      intro u hu
      simp at hu
      subst hu
      rfl
    case n3 => unfold maxLen; omega
    case n4 => omega
    case n5 => simp; omega
    intro v' w3 hown3 hg3 hnil3 hat3
    have HOWN3 := hid hown3
    have HG3 := hid hg3
    obtain ⟨g', cap', rfl⟩ : ∃ g' cap', v' = .slice (some ⟨g', 0, none⟩) (pre.length + 1) cap' := by
      rcases hown3.2 with ⟨_, h0⟩ | ⟨g', cap', cur', h', _⟩
      · exact absurd h0 (by omega)
      · exact ⟨g', cap', h'⟩
    clear hown3 hg3 hnil3 hat3 k1
    have hvne : v.ownBlock ≠ some w.heap.size := fun e => by have := HVB.out _ e; omega
    have hv3 : w3.heap[w.heap.size]? = some (.cells #[v] 34 (0, 0)) := (HG3.out.block w.heap.size (by simp; omega) (fun e => hvne e.symm)).trans ((Below.heap_alloc W _ _ lt1).trans HV.out)
    have k3 := cell_of hv3 0
    have z3 : w3.frozen? ⟨w.heap.size, 0, none⟩ = false := (show Blk w3 w.heap.size 1 34 (fun _ => v) from ⟨_, hv3, rfl, fun i hi => by match i, hi with | 0, _ => rfl⟩).frozen 0
    have lt3 := heap_lt hv3
    have HV3 := hid hv3
    clear hv3 hvne
    gi_wp2
    have f1 : Fr No W (W.alloc (.cells #[.int .i64 (f x)] 3)) := (Fr.refl No W).alloc _
    have f3 : Fr (fun k => v.ownBlock = some k) W w3 := (f1.no).trans (grown_frO HG3.out (fun r e => e))
    have f4 : Fr (fun k => k = w.heap.size ∨ v.ownBlock = some k) W (w3.setCell ⟨w.heap.size, 0, none⟩ (.slice (some ⟨g', 0, none⟩) (pre.length + 1) cap')) := (f3.mono (fun k hk h => .inr h)).trans (((Fr.refl (One w.heap.size) w3).set1 0 _).mono (fun k hk h => .inl h))
    have f5 := f4.mono (G := fun k => k = w.heap.size ∨ k = W1.heap.size + 1 ∨ W1.heap.size + 2 + c ≤ k) (fun k hk h => h.elim (fun h => .inl h) (fun h => .inr (.inr (HVB.out k h))))
    refine ⟨keeps_of_cells _ f4 (fun k hk hlt => ?_), f5, ⟨_, heap_set (C := #[v]) HV3.out 0 _, ?_, ⟨(fun e => by cases e), (fun e => absurd e (by simp))⟩, HFR.out.trans f5⟩⟩
    · rcases hk with rfl | hk
      · exact ⟨_, HV.out, rfl⟩
      · rcases HOWN.out.2 with ⟨e, _⟩ | ⟨g2, c2, cur2, e, _, hc2, _⟩
        · rw [e] at hk; cases hk
        · rw [e] at hk; cases hk
          exact ⟨_, hc2, rfl⟩
    · have := own_fr HOWN3.out ((Fr.refl (One w.heap.size) w3).set1 0 (.slice (some ⟨g', 0, none⟩) (pre.length + 1) cap')) (fun k hk (h : k = w.heap.size) => by omega)
      simpa using this

end Go.Proofs.YtoepbhacpidcbaaGreatDoor
