/- law08.Same: a graph answers as the document's does; walked. -/
import Derived.Test.YtpkocidcfnlbiaaGreatDoorBcL
import Derived.Test.YtpkocidcfnlbiaaGreatDoorThz
import Derived.Laws.MakeOwn
import Derived.Test.YtpkocidcfnlbiaaGreatDoorUnE
set_option linter.unusedVariables false
set_option linter.unusedSimpArgs false
namespace Go.Proofs.YtpkocidcfnlbiaaGreatDoor
open Go.RowKit Go.Deep

/-- A free place holds nothing. -/
def Gr.Zl (G : Gr) : Prop := ∀ i, i < 64 → G.tk i = false → G.arc i = ⟨0, 0, 0, false⟩
theorem code_0 {G : Gr} {id : Int} (h : G.code id = 0) : G.tk id.toNat = true := by
  unfold Gr.code at h
  split at h
  · split at h
    · assumption
    · cases h
  · cases h
theorem Gr.Zl.step {G : Gr} (h : G.Zl) (c : Chg) : (G.step c).Zl := by
  have hput : ∀ id a, (G.put id a).Zl := fun id a => by
    unfold Gr.put
    split
    · intro i hi htk
      by_cases e : i = id.toNat
      · have e2 : (G.ins id.toNat a).tk i = true := if_pos e
        rw [e2] at htk; cases htk
      · have e1 : (G.ins id.toNat a).arc i = G.arc i := if_neg e
        have e2 : (G.ins id.toNat a).tk i = G.tk i := if_neg e
        rw [e1]; rw [e2] at htk; exact h i hi htk
    · exact h
  have hrm : ∀ id, (G.rm id).Zl := fun id => by
    unfold Gr.rm
    split
    · intro i hi htk
      by_cases e : i = id.toNat
      · exact if_pos e
      · have e1 : (G.del id.toNat).arc i = G.arc i := if_neg e
        have e2 : (G.del id.toNat).tk i = G.tk i := if_neg e
        rw [e1]; rw [e2] at htk; exact h i hi htk
    · exact h
  have htn : ∀ id c, (G.tn id c).Zl := fun id c => by
    unfold Gr.tn
    split
    · rename_i hc
      have hk : G.tk id.toNat = true := by
        unfold Gr.tcode at hc
        split at hc
        · rename_i h0; exact code_0 h0
        · exact code_0 hc
      intro i hi htk
      by_cases e : i = id.toNat
      · rw [e] at htk; have htk : G.tk id.toNat = false := htk; rw [hk] at htk; cases htk
      · have e1 : (G.shut id.toNat c).arc i = G.arc i := if_neg e
        rw [e1]; exact h i hi htk
    · exact h
  have hwt : ∀ id x, (G.wt id x).Zl := fun id x => by
    unfold Gr.wt
    split
    · rename_i hc
      have hk : G.tk id.toNat = true := by
        unfold Gr.wcode at hc
        split at hc
        · exact code_0 hc
        · cases hc
      intro i hi htk
      by_cases e : i = id.toNat
      · rw [e] at htk; have htk : G.tk id.toNat = false := htk; rw [hk] at htk; cases htk
      · have e1 : (G.wei id.toNat x).arc i = G.arc i := if_neg e
        rw [e1]; exact h i hi htk
    · exact h
  unfold Gr.step
  split
  · exact hput _ _
  · split
    · exact hrm _
    · split
      · exact htn _ _
      · split
        · exact htn _ _
        · exact hwt _ _
theorem Gr.steps_zl (n m : Nat) (f : Nat → Chg) : ∀ k, ((Gr.zero n m).steps f k).Zl := by
  intro k
  induction k with
  | zero => exact fun i _ _ => rfl
  | succ k ih => exact ih.step _
theorem Gr.Zl.rarc {G : Gr} (h : G.Zl) {k : Nat} (hk : k < 64) : G.rarc k = G.arc k := by
  unfold Gr.rarc
  cases htk : G.tk k with
  | true => rfl
  | false => exact (h k hk htk).symm

set_option maxRecDepth 100000 in
set_option maxHeartbeats 1000000 in
theorem glen_calls {w : World} {L : GLoc} {G : Gr} (h : GMem w L G) :
    Calls Tryz.prog 71 #[.pointer (some ⟨L.b, 0, none⟩)] w fun e w' => e = .returned (.int .i64 (G.cnt : Nat)) ∧ Fr No w w' := by
  have c0 : w.cell? ⟨L.b, 321, none⟩ = some (.int .i64 (G.cnt : Nat)) := h.blk.cell (i := 321) (by omega)
  clear h
  go_enter Tryz.func71, Tryz.ntmps71
  go_wp2
  go_ret
  exact ⟨rfl, Fr.refl _ _⟩

/-- The places' cells. -/
def Gr.slots (G : Gr) : List Value := (List.range 320).map fun i => G.slot (i / 5) (i % 5)
theorem Gr.slots_len (G : Gr) : G.slots.length = 320 := by simp [Gr.slots]
theorem Gr.slots_get (G : Gr) {k c : Nat} (hk : k < 64) (hc : c < 5) : G.slots[k * 5 + c]? = some (G.slot k c) := by
  unfold Gr.slots
  rw [List.getElem?_map, List.getElem?_range (by omega), Option.map_some, show (k * 5 + c) / 5 = k by omega, show (k * 5 + c) % 5 = c by omega]
theorem GMem.range {w : World} {L : GLoc} {G : Gr} (h : GMem w L G) : w.rangeAt L.b 0 G.slots := fun j v hv => by
  have hj : j < 320 := by
    rcases Nat.lt_or_ge j 320 with h' | h'
    · exact h'
    · rw [List.getElem?_eq_none (by rw [Gr.slots_len]; exact h')] at hv; cases hv
  have e := G.slots_get (k := j / 5) (c := j % 5) (by omega) (Nat.mod_lt _ (by omega))
  rw [show j / 5 * 5 + j % 5 = j by omega] at e
  rw [e] at hv
  cases hv
  rw [Nat.zero_add, h.blk.cell (by omega)]
  unfold Gr.cell
  rw [if_pos hj]

set_option maxRecDepth 100000 in
set_option maxHeartbeats 1000000 in
theorem run_index_slot (G : Gr) (k : Nat) (hk : k < 64) (w : World) :
    (Instr.index 151 (.agg G.slots.toArray) (.int .i64 (k : Nat))).run Tryz.prog w = .ok (.agg #[.int .i64 (G.arc k).t, .int .i64 (G.arc k).h, .int .i64 (G.arc k).w, .bool (G.arc k).c, .bool (G.tk k)]) w := by
  have h0 := G.slots_get hk (show 0 < 5 by omega)
  have h1 := G.slots_get hk (show 1 < 5 by omega)
  have h2 := G.slots_get hk (show 2 < 5 by omega)
  have h3 := G.slots_get hk (show 3 < 5 by omega)
  have h4 := G.slots_get hk (show 4 < 5 by omega)
  have e : List.take 5 (List.drop (k * 5) G.slots) = [G.slot k 0, G.slot k 1, G.slot k 2, G.slot k 3, G.slot k 4] := by
    apply List.ext_getElem?
    intro j
    rw [List.getElem?_take, List.getElem?_drop]
    match j with
    | 0 => simpa using h0
    | 1 => simpa using h1
    | 2 => simpa using h2
    | 3 => simpa using h3
    | 4 => simpa using h4
    | j + 5 => rw [if_neg (by omega)]; rfl
  simp [Instr.index, run_underlying, asIntOf, go_sem]
  rw [if_pos hk, e]
  rfl

theorem own_intsF {w : World} {base : Nat} {A : Option Addr} {c : Nat} {l : List Int} (h : w.ownsRow base 3 1 (.slice A l.length c) l.length (l.map (Value.int .i64))) : IntsF w A l.length (fun j => l.getD j 0) := fun h0 => by
  have h1 : l ≠ [] := fun e => by rw [e] at h0; cases h0
  have hs := own_slL h (fun e => absurd e h1)
  rcases hs with ⟨e, _⟩ | ⟨b, off, c', _, e, hc⟩
  · exact absurd e h1
  · cases e
    exact ⟨b, off, rfl, hc⟩

set_option maxRecDepth 100000 in
set_option maxHeartbeats 2000000 in
theorem gids_calls {w : World} {L : GLoc} {G : Gr} (h : GMem w L G) :
    Calls Tryz.prog 73 #[.pointer (some ⟨L.b, 0, none⟩)] w fun e w' => ∃ A c, e = .returned (.slice A (sel G.tk).length c) ∧ Fr No w w' ∧ IntsF w' A (sel G.tk).length (fun j => (sel G.tk).getD j 0) := by
  have H := hid h
  have c0 : w.cell? ⟨L.b, 321, none⟩ = some (.int .i64 (G.cnt : Nat)) := h.blk.cell (i := 321) (by omega)
  have hcnt : G.cnt ≤ 64 := sel_len G.tk
  obtain ⟨i0, hi, hz0, hz1, hz2⟩ := i_int
  obtain ⟨w1, hmk, hown, hgrow⟩ := run_makeSlice_owned (P := Tryz.prog) (w := w) w.heap.size 23 3 i0 (.int .i64 0) 1 Tryz.underlying23 hi hz0 hz1 .i64 .i64 G.cnt (by omega) (by rw [hz2]; omega) (by unfold maxLen; omega) (Nat.le_refl _)
  clear h hi hz0 hz1 hz2
  have HO := hid hown
  have HGR := hid hgrow
  have HF1 : Hid (Fr No w w1) := hid ((Fr.refl No w).grown hgrow (fun k e => by cases e))
  have hsz := HF1.out.size
  clear hown hgrow
  go_enter Tryz.func73, Tryz.ntmps73
  go_wp2_with fail
  have hrg := (H.out.no HF1.out).range
  have hu1 := Tryz.underlying151
  have hi1 : (Tryz.prog.info? 151).map (·.size) = some 320 := by kernel_rfl
  refine wp_load_mid 151 (.tmp 13) rfl L.b 0 rfl G.slots _ hrg hu1 rfl (by rw [hi1, Gr.slots_len]) ?_
  have HRUN : Hid (∀ k, k < 64 → ∀ W, (Instr.index 151 (.agg G.slots.toArray) (.int .i64 (k : Nat))).run Tryz.prog W = .ok (.agg #[.int .i64 (G.arc k).t, .int .i64 (G.arc k).h, .int .i64 (G.arc k).w, .bool (G.arc k).c, .bool (G.tk k)]) W) := hid fun k hk W => run_index_slot G k hk W
  obtain ⟨X, hX⟩ : ∃ X, G.slots.toArray = X := ⟨_, rfl⟩
  rw [hX] at HRUN ⊢
  clear hrg hu1 hi1 hX hmk c0
  go_wp2
  go_loopg [3, 15] 65 (fun g p q wr => ∃ (r : Nat) (l : List Int) (A : Option Addr) (c : Nat), q = .int .i64 r ∧ r ≤ 64 ∧ p = .slice A l.length c ∧ wr.ownsRow w.heap.size 3 1 (.slice A l.length c) l.length (l.map (Value.int .i64)) ∧
      l = selA G.tk r ∧ g = 65 - r ∧ Fr No w wr)
  case atStart => exact ⟨0, [], some ⟨w.heap.size, 0, none⟩, G.cnt, rfl, by omega, rfl, HO.out, rfl, rfl, HF1.out⟩
  case round =>
    clear HO HGR HF1 hsz
    obtain ⟨r, l, A, c, rfl, hr, rfl, hown, hl, hg, hf⟩ := hrel
    have HO := hid hown
    have HL := hid hl
    have HG := hid hg
    have HF := hid hf
    have hlen : l.length ≤ 64 := by rw [hl]; have := selA_len G.tk r; omega
    have hsz := hf.size
    clear hown hl hg
    by_cases hr64 : r < 64
    · have hr2 : (r : Int) < 64 := by omega
      have hst := selA_succ G.tk r
      have hrun := HRUN.out r hr64
      obtain ⟨⟨t, hd, wt, cl⟩, har⟩ : ∃ y, G.arc r = y := ⟨_, rfl⟩
      rw [har] at hrun
      clear hf har
      cases htk : G.tk r with
      | true =>
        rw [htk] at hst hrun
        rw [if_pos rfl] at hst
        have HST := hid hst
        clear hst htk
        go_wp2_with (at_builtin; refine wpList_push (.tmp 21) (.tmp 23) (.slice A l.length c) l (wr.heap.size + 1) 1 (r : Nat) ?_ ?_ ?_ ?_ w.heap.size ?_ ?_ ?_ ?_ ?_; rfl; rfl; rfl; rfl; exact own_fr HO.out (((Fr.refl No _).alloc _).alloc _) (fun _ _ h => h); (simp; omega); exact cell_of (heap_alloc2_new wr _ _) 0; omega; intro g' cap' w6 hown4 hgrow4 hat4 hlt4; have HO6 := hid hown4; have HG6 := hid hgrow4; clear hown4 hgrow4 hat4)
        all_goals go_roundg (65 - (r + 1))
        all_goals first
          | (have := HG.out; omega)
          | exact ⟨r + 1, l ++ [(r : Int)], some ⟨g', 0, none⟩, cap', by go_num, by omega, by simp, HO6.out, by rw [HST.out, HL.out], rfl, ((HF.out.alloc _).alloc _).grown HG6.out (fun k e => .inr (own_block HO.out k e).1)⟩
      | false =>
        rw [htk] at hst hrun
        rw [if_neg (by simp)] at hst
        have HST := hid hst
        clear hst htk
        go_wp2
        all_goals go_roundg (65 - (r + 1))
        all_goals first
          | (have := HG.out; omega)
          | exact ⟨r + 1, l, A, c, by go_num, by omega, rfl, own_fr HO.out ((Fr.refl No _).alloc _) (fun _ _ h => h), by rw [HST.out, HL.out], rfl, HF.out.alloc _⟩
    · have hr2 : ¬ (r : Int) < 64 := by omega
      have e64 : r = 64 := by omega
      subst e64
      clear hf
      go_wp2
      go_ret
      rw [show sel G.tk = l from HL.out.symm]
      exact ⟨A, ⟨c, rfl⟩, HF.out, own_intsF HO.out⟩

theorem run_neq_arc (a0 a1 a2 b0 b1 b2 : Int) (a3 b3 : Bool) (w : World) : (binOp .neq 48 (.agg #[.int .i64 a0, .int .i64 a1, .int .i64 a2, .bool a3]) (.agg #[.int .i64 b0, .int .i64 b1, .int .i64 b2, .bool b3])).run Tryz.prog w = .ok (.bool (!decide (a0 = b0 ∧ a1 = b1 ∧ a2 = b2 ∧ a3 = b3))) w := by
  by_cases h0 : a0 = b0
  · by_cases h1 : a1 = b1
    · by_cases h2 : a2 = b2
      · by_cases h3 : a3 = b3
        · subst h0; subst h1; subst h2; subst h3; simp [go_sem]
        · subst h0; subst h1; subst h2; simp [go_sem, h3]
      · subst h0; subst h1; simp [go_sem, h2]
    · subst h0; simp [go_sem, h1]
  · simp [go_sem, h0]
attribute [local go_sem high] run_neq_arc

set_option maxRecDepth 100000 in
set_option maxHeartbeats 1000000 in
theorem garc_out {w : World} {L : GLoc} {G : Gr} (h : GMem w L G) (i : Int) (hi : ¬ (0 ≤ i ∧ i < 64)) :
    Calls Tryz.prog 75 #[.pointer (some ⟨L.b, 0, none⟩), .int .i64 i] w fun e w' =>
      e = .returned (.tuple #[.agg #[.int .i64 0, .int .i64 0, .int .i64 0, .bool false], .bool false]) ∧ Fr No w w' := by
  clear h
  go_enter Tryz.func75, Tryz.ntmps75
  go_wp2_with fail
  refine (place_id_calls i _).mono ?_
  rw [show decide ((0 : Int) ≤ i ∧ i < 64) = false by simp; omega]
  rintro e w1 ⟨rfl, rfl⟩
  go_wp2
  refine bodyPost_ret (v := .tuple #[.agg #[.int .i64 0, .int .i64 0, .int .i64 0, .bool false], .bool false]) (by simp [results, Tryz.results75, go_sem]) rfl ⟨rfl, ?_⟩
  (repeat (first | exact Fr.refl _ _ | apply Fr.drewN | apply Fr.drew | apply Fr.alloc | (refine Fr.setCell ?_ (.inr (Nat.le_refl _)) _)))

set_option maxRecDepth 100000 in
set_option maxHeartbeats 1000000 in
theorem rgarc_out {w : World} {b : Nat} {G : Gr} (h : RGM w b G) (i : Int) (hi : ¬ (0 ≤ i ∧ i < 64)) :
    Calls Tryz.prog 76 #[.pointer (some ⟨b, 0, none⟩), .int .i64 i] w fun e w' =>
      e = .returned (.tuple #[.agg #[.int .i64 0, .int .i64 0, .int .i64 0, .bool false], .bool false]) ∧ Fr No w w' := by
  have hcode : G.code i = 1 := by unfold Gr.code; rw [if_neg hi]
  have HC := hid hcode
  have F0 := hid ((Fr.refl No w).alloc (.cells #[.int .i64 0, .int .i64 0, .int .i64 0, .bool false] 48))
  have H := hid h
  clear h hcode hi
  go_enter Tryz.func76, Tryz.ntmps76
  go_wp2_with fail
  refine (rgcode_calls (H.out.no F0.out) i).mono ?_
  rw [HC.out]
  rintro e w1 ⟨rfl, rfl⟩
  go_wp2
  refine bodyPost_ret (v := .tuple #[.agg #[.int .i64 0, .int .i64 0, .int .i64 0, .bool false], .bool false]) (by simp [results, Tryz.results76, go_sem]) rfl ⟨rfl, ?_⟩
  (repeat (first | exact Fr.refl _ _ | apply Fr.drewN | apply Fr.drew | apply Fr.alloc | (refine Fr.setCell ?_ (.inr (Nat.le_refl _)) _)))

/-- What both answer of an arc. -/
theorem arcs_both {w : World} {L : GLoc} {b : Nat} {G : Gr} (hg : GMem w L G) (hr : RGM w b G) (hz : G.Zl) (i : Int) :
    ∃ (t h x : Int) (c d : Bool), Calls Tryz.prog 75 #[.pointer (some ⟨L.b, 0, none⟩), .int .i64 i] w (fun e w' => e = .returned (.tuple #[.agg #[.int .i64 t, .int .i64 h, .int .i64 x, .bool c], .bool d]) ∧ Fr No w w') ∧
      ∀ w1, Fr No w w1 → Calls Tryz.prog 76 #[.pointer (some ⟨b, 0, none⟩), .int .i64 i] w1 (fun e w' => e = .returned (.tuple #[.agg #[.int .i64 t, .int .i64 h, .int .i64 x, .bool c], .bool d]) ∧ Fr No w1 w') := by
  by_cases hi : 0 ≤ i ∧ i < 64
  · obtain ⟨k, rfl⟩ := Int.eq_ofNat_of_zero_le hi.1
    have hk : k < 64 := by omega
    refine ⟨_, _, _, _, _, garc_calls hg k hk, fun w1 hf => ?_⟩
    have := rgarc_calls (hr.no hf) k hk
    rw [hz.rarc hk] at this
    exact this
  · exact ⟨_, _, _, _, _, garc_out hg i hi, fun w1 hf => rgarc_out (hr.no hf) i hi⟩

set_option maxRecDepth 100000 in
set_option maxHeartbeats 2000000 in
theorem gsame_calls {w : World} {L : GLoc} {b : Nat} {G : Gr} (hg : GMem w L G) (hr : RGM w b G) (hz : G.Zl) :
    Calls Tryz.prog 21 #[.pointer (some ⟨L.b, 0, none⟩), .pointer (some ⟨b, 0, none⟩)] w fun e w' => e = .returned (.bool true) ∧ Fr No w w' := by
  have hcnt := sel_len G.tk
  have HG := hid hg
  have HR := hid hr
  have HZ := hid hz
  clear hg hr hz
  go_enter Tryz.func21, Tryz.ntmps21
  have c0 := HR.out.c0
  have ne1 : ((G.n : Nat) != (G.n : Nat)) = false := by simp
  go_wp2_with fail
  first | ((go_region_held3 (fun w' => Fr No w w' ∧ w'.cell? ⟨b, 0, none⟩ = some (.int .i64 (G.n : Nat)))
    (first | assumption | exact ⟨(Fr.refl _ _).drew, (HR.out.no ((Fr.refl _ _).drew)).c0⟩)
    (first
      | (go_at_call 58
         have hw := (show Fr No w _ ∧ _ from by assumption).1
         refine (gverts_calls (HG.out.no hw)).mono ?_
         rintro e w1 ⟨rfl, hf⟩
         have hk : Fr No w w1 ∧ w1.cell? ⟨b, 0, none⟩ = some (.int .i64 (G.n : Nat)) := ⟨hw.trans hf, (HR.out.no (hw.trans hf)).c0⟩
         clear hf hw)
      | (go_at_call 71
         have hw := (show Fr No w _ ∧ _ from by assumption).1
         refine (glen_calls (HG.out.no hw)).mono ?_
         rintro e w2 ⟨rfl, hf⟩
         have hk : Fr No w w2 ∧ w2.cell? ⟨b, 0, none⟩ = some (.int .i64 (G.n : Nat)) := ⟨hw.trans hf, (HR.out.no (hw.trans hf)).c0⟩
         clear hf hw)
      | (go_at_call 72
         have hw := (show Fr No w _ ∧ _ from by assumption).1
         refine (rglen_calls (HR.out.no hw)).mono ?_
         rintro e w3 ⟨rfl, hf⟩
         have hk : Fr No w w3 ∧ w3.cell? ⟨b, 0, none⟩ = some (.int .i64 (G.n : Nat)) := ⟨hw.trans hf, (HR.out.no (hw.trans hf)).c0⟩
         clear hf hw)
      | (go_at_call 73
         have hw := (show Fr No w _ ∧ _ from by assumption).1
         refine (gids_calls (HG.out.no hw)).mono ?_
         rintro e w4 ⟨A1, c1, rfl, hf, hi1⟩
         have HI1 := hid hi1
         have hk : Fr No w w4 ∧ w4.cell? ⟨b, 0, none⟩ = some (.int .i64 (G.n : Nat)) := ⟨hw.trans hf, (HR.out.no (hw.trans hf)).c0⟩
         clear hf hw hi1)
      | (go_at_call 74
         have hw := (show Fr No w _ ∧ _ from by assumption).1
         refine (rgids_calls (HR.out.no hw)).mono ?_
         rintro e w5 ⟨A2, c2, rfl, hf, hi2⟩
         have HI2 := hid hi2.ints'
         have HI1' := hid (HI1.out.fr hf)
         have hk : Fr No w w5 ∧ w5.cell? ⟨b, 0, none⟩ = some (.int .i64 (G.n : Nat)) := ⟨hw.trans hf, (HR.out.no (hw.trans hf)).c0⟩
         clear hf hw hi2)
      | (go_at_call 41
         have hw := (show Fr No w _ ∧ _ from by assumption).1
         refine (ints_calls A1 A2 _ _ c1 c2 _ _ _ HI1'.out HI2.out (by omega) (by omega) true ⟨fun _ => ⟨rfl, fun _ _ => rfl⟩, fun _ => rfl⟩).mono ?_
         rintro e w6 ⟨rfl, hf⟩
         have hk : Fr No w w6 ∧ w6.cell? ⟨b, 0, none⟩ = some (.int .i64 (G.n : Nat)) := ⟨hw.trans hf, (HR.out.no (hw.trans hf)).c0⟩
         clear hf hw)))) | fail
  all_goals have F6 := hid (show Fr No w _ ∧ _ from by assumption).1
  go_wp2
  go_loopg [5] 66 (fun g p wr => ∃ i : Int, p = .int .i64 i ∧ -1 ≤ i ∧ i ≤ 65 ∧ g = (65 - i).toNat ∧ Fr No w wr)
  case atStart => exact ⟨-1, rfl, by omega, by omega, by omega, F6.out⟩
  case round =>
    clear F6
    obtain ⟨i, rfl, hi1, hi2, hgk, hf⟩ := hrel
    have HGK := hid hgk
    have HF := hid hf
    clear hgk hf
    by_cases hlt : i ≤ 64
    · obtain ⟨t, h, x, c, d, ha, hb⟩ := arcs_both (HG.out.no HF.out) (HR.out.no HF.out) HZ.out i
      have HB := hid hb
      have HA := hid ha
      clear ha hb
      go_wp2_with fail
      refine HA.out.mono ?_
      rintro e w7 ⟨rfl, hf7⟩
      have F7 := hid hf7
      clear hf7 HA
      go_wp2_with fail
      refine (HB.out _ ?_).mono ?_
      · (repeat (first | exact F7.out | apply Fr.drewN | apply Fr.drew | apply Fr.alloc))
      rintro e w8 ⟨rfl, hf8⟩
      have v0 := hf8.cell_some (p := ⟨w7.heap.size, 0, none⟩) (v := .int .i64 t) (by simp [go_sem]) (fun h => h)
      have v1 := hf8.cell_some (p := ⟨w7.heap.size, 1, none⟩) (v := .int .i64 h) (by simp [go_sem]) (fun h => h)
      have v2 := hf8.cell_some (p := ⟨w7.heap.size, 2, none⟩) (v := .int .i64 x) (by simp [go_sem]) (fun h => h)
      have v3 := hf8.cell_some (p := ⟨w7.heap.size, 3, none⟩) (v := .bool c) (by simp [go_sem]) (fun h => h)
      have l7 := cell_lt v0
      have F8 := hid ((F7.out.alloc _).trans hf8)
      have g5 : decide (t = t ∧ h = h ∧ x = x ∧ c = c) = true := by simp
      clear hf8 HB F7
      go_wp2
      go_roundg (65 - (i + 1)).toNat
      case measure => have := HGK.out; omega
      case rel => exact ⟨i + 1, by go_num, by omega, by omega, rfl, HF.out.trans (F8.out.alloc _)⟩
    · obtain rfl : i = 65 := by omega
      go_wp2
      go_ret
      exact ⟨rfl, HF.out⟩

end Go.Proofs.YtpkocidcfnlbiaaGreatDoor
