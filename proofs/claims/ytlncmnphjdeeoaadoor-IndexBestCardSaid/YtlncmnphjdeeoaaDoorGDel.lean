/- An arc is deleted; walked. -/
import Derived.Test.YtlncmnphjdeeoaaDoorGIns
set_option linter.unusedVariables false
set_option linter.unusedSimpArgs false
namespace Go.Proofs.YtlncmnphjdeeoaaDoor
open Go.RowKit Go.Deep

def Gr.del (G : Gr) (k : Nat) : Gr := ⟨G.n, G.most, fun i => if i = k then ⟨0, 0, 0, false⟩ else G.arc i, fun i => if i = k then false else G.tk i⟩
theorem Gr.del_cell (G : Gr) (ba cnt k : Nat) (hk : k < 64) (i : Nat) :
    upd (upd (upd (upd (upd (G.cellN ba cnt) (k * 5) (.int .i64 0)) (k * 5 + 1) (.int .i64 0)) (k * 5 + 2) (.int .i64 0)) (k * 5 + 3) (.bool false)) (k * 5 + 4) (.bool false) i = (G.del k).cellN ba cnt i := by
  unfold upd
  by_cases h : i / 5 = k ∧ i < 320
  · obtain ⟨h1, h2⟩ := h
    have hc : i = k * 5 + i % 5 := by omega
    have h5 : i % 5 < 5 := Nat.mod_lt _ (by omega)
    unfold Gr.cellN
    rw [if_pos (show i < 320 from h2), if_pos (show i < 320 from h2), h1]
    unfold Gr.slot Gr.del
    simp only [if_true]
    generalize i % 5 = c at hc h5 ⊢
    subst hc
    match c, h5 with
    | 0, _ => simp
    | 1, _ => simp
    | 2, _ => simp
    | 3, _ => simp
    | 4, _ => simp
  · rw [if_neg (by omega), if_neg (by omega), if_neg (by omega), if_neg (by omega), if_neg (by omega)]
    unfold Gr.cellN
    by_cases h2 : i < 320
    · rw [if_pos h2, if_pos h2]
      unfold Gr.slot Gr.del
      simp only [show ¬ i / 5 = k by omega, if_false]
    · rw [if_neg h2, if_neg h2]; rfl
theorem Gr.del_lst (G : Gr) (k : Nat) (hk : k < 64) (htk : G.tk k = true) (q : Nat) :
    ((if q % 2 = 0 then (G.arc k).t else (G.arc k).h) = (q / 2 : Nat) → pos (G.lst q) (k : Nat) < (G.lst q).length ∧ delA (G.lst q) (pos (G.lst q) (k : Nat)) = (G.del k).lst q) ∧
    (¬ (if q % 2 = 0 then (G.arc k).t else (G.arc k).h) = (q / 2 : Nat) → G.lst q = (G.del k).lst q) := by
  have hq : (G.del k).at q k = false := by unfold Gr.at Gr.del; simp
  have ho : ∀ i, i ≠ k → (G.del k).at q i = G.at q i := fun i hi => by unfold Gr.at Gr.del; simp [hi]
  have e : G.at q k = decide ((if q % 2 = 0 then (G.arc k).t else (G.arc k).h) = (q / 2 : Nat)) := by unfold Gr.at; rw [htk]; simp only [Bool.true_and]
  refine ⟨fun hh => sel_del hk (by rw [e]; exact decide_eq_true hh) hq ho, fun hh => sel_congr fun i _ => ?_⟩
  by_cases e2 : i = k
  · subst e2; rw [hq, e]; exact decide_eq_false hh
  · exact (ho i e2).symm
theorem Gr.del_cnt (G : Gr) (k : Nat) (hk : k < 64) (htk : G.tk k = true) : G.cnt = (G.del k).cnt + 1 := by
  have h := sel_del (p := G.tk) (q := (G.del k).tk) hk htk (by simp [Gr.del]) (fun i hi => by simp [Gr.del, hi])
  unfold Gr.cnt
  rw [← h.2]
  unfold delA
  rw [List.length_append, List.length_take, List.length_drop]
  have := h.1
  omega
theorem GLoc.put_same (L : GLoc) (q g c : Nat) (h1 : L.g q = some g) (h2 : L.c q = c) : L.put q g c = L := by
  have e1 : (fun p => if p = q then some g else L.g p) = L.g := funext fun p => by
    by_cases e : p = q
    · subst e; rw [if_pos rfl, h1]
    · rw [if_neg e]
  have e2 : (fun p => if p = q then c else L.c p) = L.c := funext fun p => by
    by_cases e : p = q
    · subst e; rw [if_pos rfl, h2]
    · rw [if_neg e]
  unfold GLoc.put
  rw [e1, e2]

def ld25 : Op := Op.load 29 (Operand.tmp 24)
def ld50 : Op := Op.load 29 (Operand.tmp 49)

set_option maxRecDepth 100000 in
set_option maxHeartbeats 4000000 in
theorem gdel1_calls {w : World} {L : GLoc} {G : Gr} (h : GMem w L G) (k : Nat) (hk : k < 64) (htk : G.tk k = true) (t hd : Nat) (ht : (G.arc k).t = (t : Nat)) (hh : (G.arc k).h = (hd : Nat)) (c1 c2 : Nat)
    (hc1 : w.cell? ⟨c1, 0, none⟩ = some (.pointer (some ⟨L.b, 0, none⟩))) (hc2 : w.cell? ⟨c2, 0, none⟩ = some (.int .i64 (k : Nat))) (hn1 : ¬ L.own G.n c1) (hn2 : ¬ L.own G.n c2) :
    Calls Tryd.prog 123 #[.pointer (some ⟨L.b, k * 5, none⟩), .pointer (some ⟨c1, 0, none⟩), .pointer (some ⟨c2, 0, none⟩)] w fun e w' => e = .returned (.int .i64 0) ∧ GMem w' L (G.del k) ∧ Fr (L.own G.n) w w' := by
  have hok := h.ok.arc k hk htk
  rw [ht, hh] at hok
  have htn : t < G.n := by omega
  have hhn : hd < G.n := by omega
  have ht2 : (t : Int) < G.n := by omega
  have hh2 : (hd : Int) < G.n := by omega
  have hk2 : (k : Int) < 64 := by omega
  have hnn := h.ok.n2
  have hcb : c1 < w.heap.size ∧ c2 < w.heap.size := ⟨cell_lt hc1, cell_lt hc2⟩
  have c320 : w.cell? ⟨L.b, 320, none⟩ = some (.slice (some ⟨L.ba, 0, none⟩) G.n G.n) := h.blk.cell (i := 320) (by omega)
  have k0 := h.blk.cell (i := k * 5 + 0) (by omega)
  rw [G.slot_cell _ k 0 hk (by omega)] at k0
  simp only [Gr.slot, ht] at k0
  simp at k0
  have k1 := h.blk.cell (i := k * 5 + 1) (by omega)
  rw [G.slot_cell _ k 1 hk (by omega)] at k1
  simp only [Gr.slot, hh] at k1
  simp at k1
  have hL := hid h.lm
  have hbl := h.blk.lt
  have h12 : c1 ≠ L.b ∧ c1 ≠ L.ba ∧ (∀ q j, q < 2 * G.n → L.g q = some j → c1 ≠ j) := ⟨fun e => hn1 (.inl e), fun e => hn1 (.inr (.inl e)), fun q j hq hj e => hn1 (.inr (.inr ⟨q, hq, by rw [hj, e]⟩))⟩
  have h22 : c2 ≠ L.b ∧ c2 ≠ L.ba ∧ (∀ q j, q < 2 * G.n → L.g q = some j → c2 ≠ j) := ⟨fun e => hn2 (.inl e), fun e => hn2 (.inr (.inl e)), fun q j hq hj e => hn2 (.inr (.inr ⟨q, hq, by rw [hj, e]⟩))⟩
  have H1 := hid h12
  have H2 := hid h22
  have HG := hid h
  have hl0 := ((G.del_lst k hk htk (2 * t)).1 (by rw [if_pos (by omega), ht]; omega))
  have hl1 := ((G.del_lst k hk htk (2 * hd + 1)).1 (by rw [if_neg (by omega), hh]; omega))
  have HD := hid (G.del_lst k hk htk)
  have HB := hid h.blk
  clear h h12 h22 hn1 hn2
  -- the arcs that go out
  have hq0 : 2 * t < 2 * G.n := by omega
  have hIL := hL.out.ls (2 * t) hq0
  have cq0 := hL.out.at_.cell (i := 2 * t) hq0
  obtain ⟨g', hg'⟩ : ∃ g', L.g (2 * t) = some g' := by
    cases hg : L.g (2 * t) with
    | none => rw [hg] at hIL; have := hl0.1; rw [hIL.1] at this; simp at this
    | some g => exact ⟨g, rfl⟩
  rw [hg'] at hIL cq0
  obtain ⟨cc, hcc⟩ : ∃ cc, L.c (2 * t) = cc := ⟨_, rfl⟩
  rw [hcc] at hIL cq0
  have hwc := without_list_calls g' (G.lst (2 * t)) cc (k : Nat) w.drew (ILat.fr hIL ((Fr.refl No w).drew) (fun h => h)) (sel_len _) (sel_sorted _) hl0.1
  rw [hl0.2] at hwc
  obtain ⟨lv, hlv⟩ : ∃ lv, ilv (G.lst (2 * t)) cc (some g') = lv := ⟨_, rfl⟩
  rw [hlv] at hwc
  simp only [ilv_some] at hwc
  obtain ⟨m1, hm1⟩ : ∃ m1, ((G.del k).lst (2 * t)).length = m1 := ⟨_, rfl⟩
  rw [hm1] at hwc
  rw [hlv, show 2 * t = t * 2 by omega] at cq0
  have HWC := hid hwc
  clear hwc hIL hlv
  go_enter Tryd.func123, Tryd.ntmps123
  go_wp2_with fail
  have HSS : Hid (∀ w', Fr (fun j => j = L.ba ∨ L.g (2 * t) = some j) w w' → (Fr (fun j => j = L.ba ∨ L.g (2 * t) = some j) w w' ∧ w'.cell? ⟨L.b, 320, none⟩ = some (.slice (some ⟨L.ba, 0, none⟩) G.n G.n) ∧ w'.cell? ⟨L.b, k * 5, none⟩ = some (.int .i64 (t : Nat)) ∧ w'.cell? ⟨c1, 0, none⟩ = some (.pointer (some ⟨L.b, 0, none⟩)) ∧ w'.cell? ⟨c2, 0, none⟩ = some (.int .i64 (k : Nat)))) := hid fun w' hf =>
    ⟨hf, hf.cell_some c320 (fun e => e.elim (fun e => hL.out.ne.1 e) (fun e => (hL.out.ne.2 _ _ hq0 e).1 rfl)), hf.cell_some k0 (fun e => e.elim (fun e => hL.out.ne.1 e) (fun e => (hL.out.ne.2 _ _ hq0 e).1 rfl)),
      hf.cell_some hc1 (fun e => e.elim (fun e => H1.out.2.1 e) (fun e => H1.out.2.2 _ _ hq0 e rfl)), hf.cell_some hc2 (fun e => e.elim (fun e => H2.out.2.1 e) (fun e => H2.out.2.2 _ _ hq0 e rfl))⟩
  rw [show (Op.load 29 (Operand.tmp 24)) = ld25 from rfl]
  (go_loud (go_region_held3 (fun w' => Fr (fun j => j = L.ba ∨ L.g (2 * t) = some j) w w' ∧ w'.cell? ⟨L.b, 320, none⟩ = some (.slice (some ⟨L.ba, 0, none⟩) G.n G.n) ∧ w'.cell? ⟨L.b, k * 5, none⟩ = some (.int .i64 (t : Nat)) ∧ w'.cell? ⟨c1, 0, none⟩ = some (.pointer (some ⟨L.b, 0, none⟩)) ∧ w'.cell? ⟨c2, 0, none⟩ = some (.int .i64 (k : Nat)))
      (first | assumption | exact HSS.out _ (Fr.refl _ _) | exact HSS.out _ ((Fr.refl _ _).drew) | exact HSS.out _ (Fr.setCell (F := fun j => j = L.ba ∨ L.g (2 * t) = some j) (show Fr _ w _ ∧ _ from by assumption).1 (p := ⟨L.ba, _, none⟩) (.inl (.inl rfl)) _))
      (first
        | (go_at_call 124
           refine HWC.out.mono ?_
           rintro e w6 ⟨rfl, h1, h2⟩
           have h2 : Fr (One g') w w6 := ((Fr.refl No w).drew.no).trans h2
           have hfa : Fr (fun j => L.g (2 * t) = some j) w w6 := h2.mono fun i _ (e : i = g') => (by rw [e]; exact hg')
           have hba6 := hL.out.at_.fr hfa (fun e => (hL.out.ne.2 _ _ hq0 e).2 rfl)
           have hz6 := fun i => hba6.frozen i
           have hc6 := hfa.cell_some cq0 (fun e => (hL.out.ne.2 _ _ hq0 e).2 rfl)
           have hk6 := HSS.out _ (hfa.mono fun i _ e => .inr e)
           clear hba6)
        | (unfold ld25; go_simp))))
  have h56 : Fr (fun j => j = L.ba ∨ L.g (2 * t) = some j) w (w6.setCell ⟨L.ba, t * 2, none⟩ (.slice (some ⟨g', 0, none⟩) m1 cc)) := (hfa.mono (fun i _ e => .inr e)).setCell (.inl (.inl rfl)) _
  have hp1 := LMem.put hL.out hq0 hbl h1 (.inl ⟨hg', h2⟩)
  rw [GLoc.put_same L _ _ _ hg' hcc, ilv_some, hm1, show 2 * t = t * 2 by omega] at hp1
  generalize (w6.setCell ⟨L.ba, t * 2, none⟩ (.slice (some ⟨g', 0, none⟩) m1 cc)) = w7 at h56 hp1 ⊢
  obtain ⟨lst1, hlst1⟩ : ∃ lst1, (fun p => if p = t * 2 then (G.del k).lst (t * 2) else G.lst p) = lst1 := ⟨_, rfl⟩
  rw [hlst1] at hp1
  have hL7 := hid hp1
  have d1 := HSS.out _ h56
  have b1 := h56.cell_some k1 (fun e => e.elim (fun e => hL.out.ne.1 e) (fun e => (hL.out.ne.2 _ _ hq0 e).1 rfl))
  have b320 := d1.2.1
  have bc1 := d1.2.2.2.1
  have bc2 := d1.2.2.2.2
  have HB7 := hid (HB.out.fr h56 (fun e => e.elim (fun e => hL.out.ne.1 e) (fun e => (hL.out.ne.2 _ _ hq0 e).1 rfl)))
  have HF7 := hid (show Fr (L.own G.n) w w7 from h56.mono fun i _ e => e.elim (fun e => .inr (.inl e)) (fun e => .inr (.inr ⟨_, hq0, e⟩)))
  have hs7 := h56.size
  have hb7 : L.b < w7.heap.size := by omega
  have hl1s : lst1 (2 * hd + 1) = G.lst (2 * hd + 1) := by rw [← hlst1]; exact if_neg (by omega)
  clear h56 hp1 h1 h2 hfa hz6 hc6 hk6 HSS HWC c320 k0 k1 hc1 hc2 cq0 d1
  -- the arcs that come in
  have hq1 : 2 * hd + 1 < 2 * G.n := by omega
  have hIL := hL7.out.ls (2 * hd + 1) hq1
  have cq0 := hL7.out.at_.cell (i := 2 * hd + 1) hq1
  rw [hl1s] at hIL cq0
  obtain ⟨g2, hg2⟩ : ∃ g2, L.g (2 * hd + 1) = some g2 := by
    cases hg : L.g (2 * hd + 1) with
    | none => rw [hg] at hIL; have := hl1.1; rw [hIL.1] at this; simp at this
    | some g => exact ⟨g, rfl⟩
  rw [hg2] at hIL cq0
  obtain ⟨c9, hc9⟩ : ∃ c9, L.c (2 * hd + 1) = c9 := ⟨_, rfl⟩
  rw [hc9] at hIL cq0
  have hwc := without_list_calls g2 (G.lst (2 * hd + 1)) c9 (k : Nat) w7.drew (ILat.fr hIL ((Fr.refl No w7).drew) (fun h => h)) (sel_len _) (sel_sorted _) hl1.1
  rw [hl1.2] at hwc
  obtain ⟨lv2, hlv⟩ : ∃ lv2, ilv (G.lst (2 * hd + 1)) c9 (some g2) = lv2 := ⟨_, rfl⟩
  rw [hlv] at hwc
  simp only [ilv_some] at hwc
  obtain ⟨m2, hm2⟩ : ∃ m2, ((G.del k).lst (2 * hd + 1)).length = m2 := ⟨_, rfl⟩
  rw [hm2] at hwc
  rw [hlv, show 2 * hd + 1 = hd * 2 + 1 by omega] at cq0
  have HWC := hid hwc
  clear hwc hIL hlv
  go_wp2_with fail
  have HSS : Hid (∀ w', Fr (fun j => j = L.ba ∨ L.g (2 * hd + 1) = some j) w7 w' → (Fr (fun j => j = L.ba ∨ L.g (2 * hd + 1) = some j) w7 w' ∧ w'.cell? ⟨L.b, 320, none⟩ = some (.slice (some ⟨L.ba, 0, none⟩) G.n G.n) ∧ w'.cell? ⟨L.b, k * 5 + 1, none⟩ = some (.int .i64 (hd : Nat)) ∧ w'.cell? ⟨c1, 0, none⟩ = some (.pointer (some ⟨L.b, 0, none⟩)) ∧ w'.cell? ⟨c2, 0, none⟩ = some (.int .i64 (k : Nat)))) := hid fun w' hf =>
    ⟨hf, hf.cell_some b320 (fun e => e.elim (fun e => hL.out.ne.1 e) (fun e => (hL.out.ne.2 _ _ hq1 e).1 rfl)), hf.cell_some b1 (fun e => e.elim (fun e => hL.out.ne.1 e) (fun e => (hL.out.ne.2 _ _ hq1 e).1 rfl)),
      hf.cell_some bc1 (fun e => e.elim (fun e => H1.out.2.1 e) (fun e => H1.out.2.2 _ _ hq1 e rfl)), hf.cell_some bc2 (fun e => e.elim (fun e => H2.out.2.1 e) (fun e => H2.out.2.2 _ _ hq1 e rfl))⟩
  rw [show (Op.load 29 (Operand.tmp 49)) = ld50 from rfl]
  (go_loud (go_region_held3 (fun w' => Fr (fun j => j = L.ba ∨ L.g (2 * hd + 1) = some j) w7 w' ∧ w'.cell? ⟨L.b, 320, none⟩ = some (.slice (some ⟨L.ba, 0, none⟩) G.n G.n) ∧ w'.cell? ⟨L.b, k * 5 + 1, none⟩ = some (.int .i64 (hd : Nat)) ∧ w'.cell? ⟨c1, 0, none⟩ = some (.pointer (some ⟨L.b, 0, none⟩)) ∧ w'.cell? ⟨c2, 0, none⟩ = some (.int .i64 (k : Nat)))
      (first | assumption | exact HSS.out _ (Fr.refl _ _) | exact HSS.out _ ((Fr.refl _ _).drew) | exact HSS.out _ (Fr.setCell (F := fun j => j = L.ba ∨ L.g (2 * hd + 1) = some j) (show Fr _ w7 _ ∧ _ from by assumption).1 (p := ⟨L.ba, _, none⟩) (.inl (.inl rfl)) _))
      (first
        | (go_at_call 124
           refine HWC.out.mono ?_
           rintro e w8 ⟨rfl, h1, h2⟩
           have h2 : Fr (One g2) w7 w8 := ((Fr.refl No w7).drew.no).trans h2
           have hfa : Fr (fun j => L.g (2 * hd + 1) = some j) w7 w8 := h2.mono fun i _ (e : i = g2) => (by rw [e]; exact hg2)
           have hba6 := hL7.out.at_.fr hfa (fun e => (hL.out.ne.2 _ _ hq1 e).2 rfl)
           have hz6 := fun i => hba6.frozen i
           have hc6 := hfa.cell_some cq0 (fun e => (hL.out.ne.2 _ _ hq1 e).2 rfl)
           have hk6 := HSS.out _ (hfa.mono fun i _ e => .inr e)
           clear hba6)
        | (unfold ld50; go_simp))))
  have h56 : Fr (fun j => j = L.ba ∨ L.g (2 * hd + 1) = some j) w7 (w8.setCell ⟨L.ba, hd * 2 + 1, none⟩ (.slice (some ⟨g2, 0, none⟩) m2 c9)) := (hfa.mono (fun i _ e => .inr e)).setCell (.inl (.inl rfl)) _
  have hp1 := LMem.put hL7.out hq1 hb7 h1 (.inl ⟨hg2, h2⟩)
  rw [GLoc.put_same L _ _ _ hg2 hc9, ilv_some, hm2, show 2 * hd + 1 = hd * 2 + 1 by omega] at hp1
  generalize (w8.setCell ⟨L.ba, hd * 2 + 1, none⟩ (.slice (some ⟨g2, 0, none⟩) m2 c9)) = w9 at h56 hp1 ⊢
  have hL9 := hid hp1
  have d1 := HSS.out _ h56
  have a320 := d1.2.1
  have ac1 := d1.2.2.2.1
  have hB9 := HB7.out.fr h56 (fun e => e.elim (fun e => hL.out.ne.1 e) (fun e => (hL.out.ne.2 _ _ hq1 e).1 rfl))
  have HF9 := hid (show Fr (L.own G.n) w w9 from HF7.out.trans (h56.mono fun i _ e => e.elim (fun e => .inr (.inl e)) (fun e => .inr (.inr ⟨_, hq1, e⟩))))
  have hs9 := h56.size
  have z0 := hB9.cell (i := k * 5) (by omega)
  have z1 := hB9.cell (i := k * 5 + 1) (by omega)
  have z2 := hB9.cell (i := k * 5 + 2) (by omega)
  have z3 := hB9.cell (i := k * 5 + 3) (by omega)
  have z4 := hB9.cell (i := k * 5 + 4) (by omega)
  have c321 : w9.cell? ⟨L.b, 321, none⟩ = some (.int .i64 (G.cnt : Nat)) := hB9.cell (i := 321) (by omega)
  have zf := fun i => hB9.frozen i
  have hb9 := hB9.lt
  have HB9 := hid hB9
  have h1b := H1.out.1
  clear h56 hp1 h1 h2 hfa hz6 hc6 hk6 HSS HWC b320 b1 bc1 bc2 cq0 d1 hB9
  have hk5 : k * 5 + 4 < 321 := by omega
  go_wp2_with fail
  have B5 := ((((((HB9.out).setCell (k * 5) (.int .i64 0)).setCell (k * 5 + 1) (.int .i64 0)).setCell (k * 5 + 2) (.int .i64 0)).setCell (k * 5 + 3) (.bool false)).setCell (k * 5 + 4) (.bool false)).congr (fun i _ => G.del_cell L.ba G.cnt k hk i)
  have F5 : Fr (One L.b) w9 (((((w9.setCell ⟨L.b, k * 5, none⟩ (.int .i64 0)).setCell ⟨L.b, k * 5 + 1, none⟩ (.int .i64 0)).setCell ⟨L.b, k * 5 + 2, none⟩ (.int .i64 0)).setCell ⟨L.b, k * 5 + 3, none⟩ (.bool false)).setCell ⟨L.b, k * 5 + 4, none⟩ (.bool false)) := (((((Fr.refl _ _).set1 _ _).set1 _ _).set1 _ _).set1 _ _).set1 _ _
  have hdc := G.del_cnt k hk htk
  have hcl : G.cnt ≤ 64 := sel_len _
  have ew : wrap64 ((G.cnt : Nat) - 1) = (((G.del k).cnt : Nat) : Int) := by
    rw [show ((G.cnt : Nat) : Int) - 1 = (((G.del k).cnt : Nat) : Int) by omega]
    exact IntWalk.wrap64_in _ (by omega)
  rw [ew]
  generalize ((((w9.setCell ⟨L.b, k * 5, none⟩ (.int .i64 0)).setCell ⟨L.b, k * 5 + 1, none⟩ (.int .i64 0)).setCell ⟨L.b, k * 5 + 2, none⟩ (.int .i64 0)).setCell ⟨L.b, k * 5 + 3, none⟩ (.bool false)).setCell ⟨L.b, k * 5 + 4, none⟩ (.bool false) = w10 at B5 F5 ⊢
  go_ret
  have fs : Fr (One L.b) w10 (w10.setCell ⟨L.b, 321, none⟩ (.int .i64 (((G.del k).cnt : Nat) : Int))) := (Fr.refl _ _).set1 _ _
  have f9 := F5.trans fs
  have hg := HG.out
  refine ⟨rfl, LMem.gm ⟨hg.ok.n1, hg.ok.n2, hg.ok.m1, hg.ok.m2, fun i hi htk' => ?_⟩ ?_ ((hL9.out.fr f9 (fun e => hg.ne.1 e.symm) (fun q j hq hj e => (hg.ne.2 q j hq hj).1 e)).congr fun q hq => ?_), HF9.out.trans (f9.mono fun i _ e => .inl e)⟩
  · unfold Gr.del at htk' ⊢
    simp only at htk' ⊢
    by_cases e : i = k
    · simp only [e, if_true] at htk'
      cases htk'
    · simp only [e, if_false] at htk' ⊢
      exact hg.ok.arc i hi htk'
  · refine (B5.setCell 321 _).congr fun i hi => ?_
    rw [Gr.cell_eq]
    unfold upd Gr.cellN
    by_cases e : i = 321
    · subst e; simp
    · simp only [e, if_false]
  · show (if q = hd * 2 + 1 then (G.del k).lst (hd * 2 + 1) else lst1 q) = _
    rw [← hlst1]
    by_cases e2 : q = hd * 2 + 1
    · subst e2
      rw [if_pos rfl]
    · rw [if_neg e2]
      by_cases e1 : q = t * 2
      · subst e1
        exact if_pos rfl
      · refine (if_neg e1).trans ((HD.out q).2 ?_)
        rw [ht, hh]
        split
        · omega
        · omega

end Go.Proofs.YtlncmnphjdeeoaaDoor
