/- A graph's small changes; walked. -/
import Derived.Test.YtlncmnphjdeeoaaDoorGDel
set_option linter.unusedVariables false
set_option linter.unusedSimpArgs false
namespace Go.Proofs.YtlncmnphjdeeoaaDoor
open Go.RowKit Go.Deep

def Gr.shut (G : Gr) (k : Nat) (c : Bool) : Gr := ⟨G.n, G.most, fun i => if i = k then ⟨(G.arc k).t, (G.arc k).h, (G.arc k).w, c⟩ else G.arc i, G.tk⟩
def Gr.wei (G : Gr) (k : Nat) (x : Int) : Gr := ⟨G.n, G.most, fun i => if i = k then ⟨(G.arc k).t, (G.arc k).h, x, (G.arc k).c⟩ else G.arc i, G.tk⟩
theorem Gr.one_lst (G G' : Gr) (ht : G'.tk = G.tk) (ha : ∀ i, (G'.arc i).t = (G.arc i).t ∧ (G'.arc i).h = (G.arc i).h) (q : Nat) : G'.lst q = G.lst q := by
  unfold Gr.lst
  refine sel_congr fun i _ => ?_
  unfold Gr.at
  rw [ht, (ha i).1, (ha i).2]
theorem Gr.shut_arc (G : Gr) (k : Nat) (c : Bool) (i : Nat) : ((G.shut k c).arc i).t = (G.arc i).t ∧ ((G.shut k c).arc i).h = (G.arc i).h := by
  unfold Gr.shut
  by_cases e : i = k
  · subst e; simp
  · simp [e]
theorem Gr.wei_arc (G : Gr) (k : Nat) (c : Int) (i : Nat) : ((G.wei k c).arc i).t = (G.arc i).t ∧ ((G.wei k c).arc i).h = (G.arc i).h := by
  unfold Gr.wei
  by_cases e : i = k
  · subst e; simp
  · simp [e]
theorem Gr.shut_cell (G : Gr) (ba k : Nat) (c : Bool) (hk : k < 64) (i : Nat) : upd (G.cell ba) (k * 5 + 3) (.bool c) i = (G.shut k c).cell ba i := by
  show upd (G.cellN ba G.cnt) (k * 5 + 3) (.bool c) i = (G.shut k c).cellN ba G.cnt i
  unfold upd
  by_cases h2 : i < 320
  · by_cases h1 : i / 5 = k
    · have hc : i = k * 5 + i % 5 := by omega
      have h5 : i % 5 < 5 := Nat.mod_lt _ (by omega)
      unfold Gr.cellN
      rw [if_pos h2, if_pos h2, h1]
      unfold Gr.slot Gr.shut
      simp only [if_true]
      generalize i % 5 = d at hc h5 ⊢
      subst hc
      match d, h5 with
      | 0, _ => simp
      | 1, _ => simp
      | 2, _ => simp
      | 3, _ => simp
      | 4, _ => simp
    · rw [if_neg (by omega)]
      unfold Gr.cellN
      rw [if_pos h2, if_pos h2]
      unfold Gr.slot Gr.shut
      simp only [h1, if_false]
  · rw [if_neg (by omega)]
    unfold Gr.cellN
    rw [if_neg h2, if_neg h2]; rfl
theorem Gr.wei_cell (G : Gr) (ba k : Nat) (c : Int) (hk : k < 64) (i : Nat) : upd (G.cell ba) (k * 5 + 2) (.int .i64 c) i = (G.wei k c).cell ba i := by
  show upd (G.cellN ba G.cnt) (k * 5 + 2) (.int .i64 c) i = (G.wei k c).cellN ba G.cnt i
  unfold upd
  by_cases h2 : i < 320
  · by_cases h1 : i / 5 = k
    · have hc : i = k * 5 + i % 5 := by omega
      have h5 : i % 5 < 5 := Nat.mod_lt _ (by omega)
      unfold Gr.cellN
      rw [if_pos h2, if_pos h2, h1]
      unfold Gr.slot Gr.wei
      simp only [if_true]
      generalize i % 5 = d at hc h5 ⊢
      subst hc
      match d, h5 with
      | 0, _ => simp
      | 1, _ => simp
      | 2, _ => simp
      | 3, _ => simp
      | 4, _ => simp
    · rw [if_neg (by omega)]
      unfold Gr.cellN
      rw [if_pos h2, if_pos h2]
      unfold Gr.slot Gr.wei
      simp only [h1, if_false]
  · rw [if_neg (by omega)]
    unfold Gr.cellN
    rw [if_neg h2, if_neg h2]; rfl
theorem GMem.shut {w : World} {L : GLoc} {G : Gr} (h : GMem w L G) (k : Nat) (hk : k < 64) (c : Bool) : GMem (w.setCell ⟨L.b, k * 5 + 3, none⟩ (.bool c)) L (G.shut k c) := by
  have fs : Fr (One L.b) w (w.setCell ⟨L.b, k * 5 + 3, none⟩ (.bool c)) := (Fr.refl _ _).set1 _ _
  refine LMem.gm ⟨h.ok.n1, h.ok.n2, h.ok.m1, h.ok.m2, fun i hi ht => ?_⟩ ((h.blk.setCell _ _).congr fun i _ => G.shut_cell L.ba k c hk i) ((h.lm.fr fs (fun e => h.ne.1 e.symm) (fun q j hq hj e => (h.ne.2 q j hq hj).1 e)).congr fun q _ => (Gr.one_lst G (G.shut k c) rfl (G.shut_arc k c) q).symm)
  rw [(G.shut_arc k c i).1, (G.shut_arc k c i).2]
  exact h.ok.arc i hi ht
theorem GMem.wei {w : World} {L : GLoc} {G : Gr} (h : GMem w L G) (k : Nat) (hk : k < 64) (c : Int) : GMem (w.setCell ⟨L.b, k * 5 + 2, none⟩ (.int .i64 c)) L (G.wei k c) := by
  have fs : Fr (One L.b) w (w.setCell ⟨L.b, k * 5 + 2, none⟩ (.int .i64 c)) := (Fr.refl _ _).set1 _ _
  refine LMem.gm ⟨h.ok.n1, h.ok.n2, h.ok.m1, h.ok.m2, fun i hi ht => ?_⟩ ((h.blk.setCell _ _).congr fun i _ => G.wei_cell L.ba k c hk i) ((h.lm.fr fs (fun e => h.ne.1 e.symm) (fun q j hq hj e => (h.ne.2 q j hq hj).1 e)).congr fun q _ => (Gr.one_lst G (G.wei k c) rfl (G.wei_arc k c) q).symm)
  rw [(G.wei_arc k c i).1, (G.wei_arc k c i).2]
  exact h.ok.arc i hi ht

theorem GMem.tkc {w : World} {L : GLoc} {G : Gr} (h : GMem w L G) {k : Nat} (hk : k < 64) : w.cell? ⟨L.b, k * 5 + 4, none⟩ = some (.bool (G.tk k)) := by
  have k4 := h.blk.cell (i := k * 5 + 4) (by omega)
  rw [G.slot_cell _ k 4 hk (by omega)] at k4
  exact k4
theorem GMem.clc {w : World} {L : GLoc} {G : Gr} (h : GMem w L G) {k : Nat} (hk : k < 64) : w.cell? ⟨L.b, k * 5 + 3, none⟩ = some (.bool (G.arc k).c) := by
  have k4 := h.blk.cell (i := k * 5 + 3) (by omega)
  rw [G.slot_cell _ k 3 hk (by omega)] at k4
  exact k4
theorem GMem.wtc {w : World} {L : GLoc} {G : Gr} (h : GMem w L G) {k : Nat} (hk : k < 64) : w.cell? ⟨L.b, k * 5 + 2, none⟩ = some (.int .i64 (G.arc k).w) := by
  have k4 := h.blk.cell (i := k * 5 + 2) (by omega)
  rw [G.slot_cell _ k 2 hk (by omega)] at k4
  exact k4

set_option maxRecDepth 100000 in
set_option maxHeartbeats 1000000 in
theorem turn1_no {w : World} {L : GLoc} {G : Gr} (h : GMem w L G) (k : Nat) (hk : k < 64) (c1 : Nat) (hc1 : w.cell? ⟨c1, 0, none⟩ = some (.bool (G.arc k).c)) :
    Calls Tryd.prog 136 #[.pointer (some ⟨L.b, k * 5, none⟩), .pointer (some ⟨c1, 0, none⟩)] w fun e w' => e = .returned (.int .i64 5) ∧ Fr No w w' := by
  have k3 := h.clc hk
  have k3q : ∀ q, (w.drewN q).cell? ⟨L.b, k * 5 + 3, none⟩ = some (.bool (G.arc k).c) := fun q => by simpa using k3
  go_enter Tryd.func136, Tryd.ntmps136
  go_wp2_with (go_quiet (fail))
  go_ret
  exact ⟨rfl, (Fr.refl No w).drewN _⟩

set_option maxRecDepth 100000 in
set_option maxHeartbeats 1000000 in
theorem turn1_yes {w : World} {L : GLoc} {G : Gr} (h : GMem w L G) (k : Nat) (hk : k < 64) (c1 : Nat) (c : Bool) (hcc : (G.arc k).c ≠ c) (hc1 : w.cell? ⟨c1, 0, none⟩ = some (.bool c)) (hn1 : ¬ L.own G.n c1) :
    Calls Tryd.prog 136 #[.pointer (some ⟨L.b, k * 5, none⟩), .pointer (some ⟨c1, 0, none⟩)] w fun e w' => e = .returned (.int .i64 0) ∧ GMem w' L (G.shut k c) ∧ Fr (L.own G.n) w w' := by
  have k3 := h.clc hk
  have zf := h.blk.frozen (k * 5 + 3)
  have H := hid h
  have hb : ((G.arc k).c == c) = false := by simpa using hcc
  clear h hcc
  go_enter Tryd.func136, Tryd.ntmps136
  go_wp2_with (go_quiet (fail))
  go_ret
  exact ⟨rfl, (H.out.no ((Fr.refl No w).drewN _)).shut k hk c, (((Fr.refl No w).drewN _).no).trans (((Fr.refl _ _).set1 _ _).mono fun i _ e => .inl e)⟩

set_option maxRecDepth 100000 in
set_option maxHeartbeats 1000000 in
theorem weigh1_calls {w : World} {L : GLoc} {G : Gr} (h : GMem w L G) (k : Nat) (hk : k < 64) (c1 : Nat) (x : Int) (hc1 : w.cell? ⟨c1, 0, none⟩ = some (.int .i64 x)) (hn1 : ¬ L.own G.n c1) :
    Calls Tryd.prog 126 #[.pointer (some ⟨L.b, k * 5, none⟩), .pointer (some ⟨c1, 0, none⟩)] w fun e w' => e = .returned (.int .i64 0) ∧ GMem w' L (G.wei k x) ∧ Fr (L.own G.n) w w' := by
  have k3 := h.wtc hk
  have zf := h.blk.frozen (k * 5 + 2)
  have H := hid h
  clear h
  go_enter Tryd.func126, Tryd.ntmps126
  go_wp2
  go_ret
  exact ⟨rfl, H.out.wei k hk x, ((Fr.refl _ _).set1 _ _).mono fun i _ e => .inl e⟩

set_option maxRecDepth 100000 in
set_option maxHeartbeats 1000000 in
theorem gof_arg (g fv : Value) (id : Int) (hid' : ¬ (0 ≤ id ∧ id < 64)) (w : World) :
    Calls Tryd.prog 122 #[g, .int .i64 id, fv] w fun e w' => e = .returned (.int .i64 1) ∧ w = w' := by
  have hp : decide (0 ≤ id ∧ id < 64) = false := decide_eq_false hid'
  go_enter Tryd.func122, Tryd.ntmps122
  go_wp2_with fail
  refine (place_id_calls _ _).mono ?_
  rintro e w1 ⟨rfl, rfl⟩
  rw [hp]
  go_wp2
  go_ret
  exact ⟨rfl, rfl⟩

set_option maxRecDepth 100000 in
set_option maxHeartbeats 1000000 in
theorem gof_free {w : World} {L : GLoc} {G : Gr} (h : GMem w L G) (k : Nat) (hk : k < 64) (htk : G.tk k = false) (fv : Value) :
    Calls Tryd.prog 122 #[.pointer (some ⟨L.b, 0, none⟩), .int .i64 (k : Nat), fv] w fun e w' => e = .returned (.int .i64 3) ∧ w = w' := by
  have hp : decide (0 ≤ (k : Int) ∧ (k : Int) < 64) = true := by simp; omega
  have hk2 : (k : Int) < 64 := by omega
  have k4 := h.tkc hk
  rw [htk] at k4
  clear h
  go_enter Tryd.func122, Tryd.ntmps122
  go_wp2_with fail
  refine (place_id_calls _ _).mono ?_
  rintro e w1 ⟨rfl, rfl⟩
  rw [hp]
  go_wp2
  go_ret
  exact ⟨rfl, rfl⟩

set_option maxRecDepth 100000 in
set_option maxHeartbeats 1000000 in
theorem gof_del {w : World} {L : GLoc} {G : Gr} (h : GMem w L G) (k : Nat) (hk : k < 64) (htk : G.tk k = true) (c1 c2 : Nat) (r : Int) (R : World → Prop)
    (hc : Calls Tryd.prog 123 #[.pointer (some ⟨L.b, k * 5, none⟩), .pointer (some ⟨c1, 0, none⟩), .pointer (some ⟨c2, 0, none⟩)] w fun e w' => e = .returned (.int .i64 r) ∧ R w') :
    Calls Tryd.prog 122 #[.pointer (some ⟨L.b, 0, none⟩), .int .i64 (k : Nat), .func (.func 123) #[] #[.pointer (some ⟨c1, 0, none⟩), .pointer (some ⟨c2, 0, none⟩)]] w fun e w' => e = .returned (.int .i64 r) ∧ R w' := by
  have hp : decide (0 ≤ (k : Int) ∧ (k : Int) < 64) = true := by simp; omega
  have hk2 : (k : Int) < 64 := by omega
  have k4 := h.tkc hk
  rw [htk] at k4
  have HC := hid hc
  clear h hc
  go_enter Tryd.func122, Tryd.ntmps122
  go_wp2_with fail
  refine (place_id_calls _ _).mono ?_
  rintro e w1 ⟨rfl, rfl⟩
  rw [hp]
  go_wp2_with fail
  refine HC.out.mono ?_
  rintro e w2 ⟨rfl, hR⟩
  go_wp2
  go_ret
  exact ⟨rfl, hR⟩

set_option maxRecDepth 100000 in
set_option maxHeartbeats 1000000 in
theorem gof_turn {w : World} {L : GLoc} {G : Gr} (h : GMem w L G) (k : Nat) (hk : k < 64) (htk : G.tk k = true) (c1 : Nat) (r : Int) (R : World → Prop)
    (hc : Calls Tryd.prog 136 #[.pointer (some ⟨L.b, k * 5, none⟩), .pointer (some ⟨c1, 0, none⟩)] w fun e w' => e = .returned (.int .i64 r) ∧ R w') :
    Calls Tryd.prog 122 #[.pointer (some ⟨L.b, 0, none⟩), .int .i64 (k : Nat), .func (.func 136) #[] #[.pointer (some ⟨c1, 0, none⟩)]] w fun e w' => e = .returned (.int .i64 r) ∧ R w' := by
  have hp : decide (0 ≤ (k : Int) ∧ (k : Int) < 64) = true := by simp; omega
  have hk2 : (k : Int) < 64 := by omega
  have k4 := h.tkc hk
  rw [htk] at k4
  have HC := hid hc
  clear h hc
  go_enter Tryd.func122, Tryd.ntmps122
  go_wp2_with fail
  refine (place_id_calls _ _).mono ?_
  rintro e w1 ⟨rfl, rfl⟩
  rw [hp]
  go_wp2_with fail
  refine HC.out.mono ?_
  rintro e w2 ⟨rfl, hR⟩
  go_wp2
  go_ret
  exact ⟨rfl, hR⟩

set_option maxRecDepth 100000 in
set_option maxHeartbeats 1000000 in
theorem gof_wei {w : World} {L : GLoc} {G : Gr} (h : GMem w L G) (k : Nat) (hk : k < 64) (htk : G.tk k = true) (c1 : Nat) (r : Int) (R : World → Prop)
    (hc : Calls Tryd.prog 126 #[.pointer (some ⟨L.b, k * 5, none⟩), .pointer (some ⟨c1, 0, none⟩)] w fun e w' => e = .returned (.int .i64 r) ∧ R w') :
    Calls Tryd.prog 122 #[.pointer (some ⟨L.b, 0, none⟩), .int .i64 (k : Nat), .func (.func 126) #[] #[.pointer (some ⟨c1, 0, none⟩)]] w fun e w' => e = .returned (.int .i64 r) ∧ R w' := by
  have hp : decide (0 ≤ (k : Int) ∧ (k : Int) < 64) = true := by simp; omega
  have hk2 : (k : Int) < 64 := by omega
  have k4 := h.tkc hk
  rw [htk] at k4
  have HC := hid hc
  clear h hc
  go_enter Tryd.func122, Tryd.ntmps122
  go_wp2_with fail
  refine (place_id_calls _ _).mono ?_
  rintro e w1 ⟨rfl, rfl⟩
  rw [hp]
  go_wp2_with fail
  refine HC.out.mono ?_
  rintro e w2 ⟨rfl, hR⟩
  go_wp2
  go_ret
  exact ⟨rfl, hR⟩

def Gr.code (G : Gr) (id : Int) : Int := if 0 ≤ id ∧ id < 64 then (if G.tk id.toNat then 0 else 3) else 1
def Gr.rm (G : Gr) (id : Int) : Gr := if G.code id = 0 then G.del id.toNat else G
def Gr.tcode (G : Gr) (id : Int) (c : Bool) : Int := if G.code id = 0 then (if (G.arc id.toNat).c = c then 5 else 0) else G.code id
def Gr.tn (G : Gr) (id : Int) (c : Bool) : Gr := if G.tcode id c = 0 then G.shut id.toNat c else G
def Gr.wcode (G : Gr) (id x : Int) : Int := if 1 ≤ x ∧ x ≤ 4611686018427387904 then G.code id else 1
def Gr.wt (G : Gr) (id x : Int) : Gr := if G.wcode id x = 0 then G.wei id.toNat x else G
def Gr.okA (G : Gr) (a : Arc4) : Prop := (0 ≤ a.t ∧ a.t < G.n) ∧ (0 ≤ a.h ∧ a.h < G.n) ∧ (1 ≤ a.w ∧ a.w ≤ 4611686018427387904)
instance (G : Gr) (a : Arc4) : Decidable (G.okA a) := by unfold Gr.okA; exact inferInstance
def Gr.icode (G : Gr) (id : Int) (a : Arc4) : Int := if (0 ≤ id ∧ id < 64) ∧ G.okA a then (if G.tk id.toNat then 4 else 0) else 1
def Gr.put (G : Gr) (id : Int) (a : Arc4) : Gr := if G.icode id a = 0 then G.ins id.toNat a else G

theorem Gr.code_cases (G : Gr) (id : Int) : (G.code id = 1 ∧ ¬ (0 ≤ id ∧ id < 64)) ∨ (∃ k : Nat, id = k ∧ k < 64 ∧ G.tk k = false ∧ G.code id = 3) ∨ (∃ k : Nat, id = k ∧ k < 64 ∧ G.tk k = true ∧ G.code id = 0) := by
  unfold Gr.code
  by_cases h : 0 ≤ id ∧ id < 64
  · rw [if_pos h]
    refine .inr ?_
    cases e : G.tk id.toNat with
    | false => exact .inl ⟨id.toNat, by omega, by omega, e, by simp⟩
    | true => exact .inr ⟨id.toNat, by omega, by omega, e, by simp⟩
  · rw [if_neg h]
    exact .inl ⟨rfl, h⟩

set_option maxRecDepth 100000 in
set_option maxHeartbeats 1000000 in
theorem gdelete_calls {w : World} {L : GLoc} {G : Gr} (h : GMem w L G) (id : Int) :
    Calls Tryd.prog 106 #[.pointer (some ⟨L.b, 0, none⟩), .int .i64 id] w fun e w' => e = .returned (.int .i64 (G.code id)) ∧ GMem w' L (G.rm id) ∧ Fr (L.own G.n) w w' := by
  have fW : Fr No w ((w.alloc (.cells #[.pointer (some ⟨L.b, 0, none⟩)] 87)).alloc (.cells #[.int .i64 id] 3)) := ((Fr.refl _ _).alloc _).alloc _
  have HC : Hid (Calls Tryd.prog 122 #[.pointer (some ⟨L.b, 0, none⟩), .int .i64 id, .func (.func 123) #[] #[.pointer (some ⟨w.heap.size, 0, none⟩), .pointer (some ⟨w.heap.size + 1, 0, none⟩)]] ((w.alloc (.cells #[.pointer (some ⟨L.b, 0, none⟩)] 87)).alloc (.cells #[.int .i64 id] 3)) fun e w' => e = .returned (.int .i64 (G.code id)) ∧ GMem w' L (G.rm id) ∧ Fr (L.own G.n) w w') := hid (by
    have hW := h.no fW
    rcases G.code_cases id with ⟨e, h1⟩ | ⟨k, rfl, hk, htk, e⟩ | ⟨k, rfl, hk, htk, e⟩
    · refine (gof_arg _ _ id h1 _).mono ?_
      rintro e2 w' ⟨rfl, rfl⟩
      exact ⟨by rw [e], by rw [show G.rm id = G from by unfold Gr.rm; rw [e]; rfl]; exact hW, fW.no⟩
    · refine (gof_free hW k hk htk _).mono ?_
      rintro e2 w' ⟨rfl, rfl⟩
      exact ⟨by rw [e], by rw [show G.rm k = G from by unfold Gr.rm; rw [e]; rfl]; exact hW, fW.no⟩
    · have hok := h.ok.arc k hk htk
      rw [e, show G.rm k = G.del k from by unfold Gr.rm; rw [e]; rfl]
      refine gof_del hW k hk htk _ _ 0 (fun w' => GMem w' L (G.del k) ∧ Fr (L.own G.n) w w') ((gdel1_calls hW k hk htk (G.arc k).t.toNat (G.arc k).h.toNat (by omega) (by omega) _ _ ?_ ?_ ?_ ?_).mono ?_)
      · simp [go_sem]
      · simp [go_sem]
      · exact fun hh => by have := h.own_lt hh; omega
      · exact fun hh => by have := h.own_lt hh; omega
      · rintro e2 w' ⟨rfl, h1, h2⟩
        exact ⟨rfl, h1, fW.no.trans' h2 (fun i _ hi => hi)⟩)
  clear fW h
  go_enter Tryd.func106, Tryd.ntmps106
  go_wp2_with fail
  refine HC.out.mono ?_
  rintro e w2 ⟨rfl, hR⟩
  go_wp2
  go_ret
  exact ⟨rfl, hR⟩

set_option maxRecDepth 100000 in
set_option maxHeartbeats 1000000 in
theorem gturn_calls {w : World} {L : GLoc} {G : Gr} (h : GMem w L G) (id : Int) (c : Bool) :
    Calls Tryd.prog 125 #[.pointer (some ⟨L.b, 0, none⟩), .int .i64 id, .bool c] w fun e w' => e = .returned (.int .i64 (G.tcode id c)) ∧ GMem w' L (G.tn id c) ∧ Fr (L.own G.n) w w' := by
  have fW : Fr No w (w.alloc (.cells #[.bool c] 4)) := ((Fr.refl _ _).alloc _)
  have HC : Hid (Calls Tryd.prog 122 #[.pointer (some ⟨L.b, 0, none⟩), .int .i64 id, .func (.func 136) #[] #[.pointer (some ⟨w.heap.size, 0, none⟩)]] (w.alloc (.cells #[.bool c] 4)) fun e w' => e = .returned (.int .i64 (G.tcode id c)) ∧ GMem w' L (G.tn id c) ∧ Fr (L.own G.n) w w') := hid (by
    have hW := h.no fW
    rcases G.code_cases id with ⟨e, h1⟩ | ⟨k, rfl, hk, htk, e⟩ | ⟨k, rfl, hk, htk, e⟩
    · refine (gof_arg _ _ id h1 _).mono ?_
      rintro e2 w' ⟨rfl, rfl⟩
      have ec : G.tcode id c = 1 := by unfold Gr.tcode; rw [e]; rfl
      exact ⟨by rw [ec], by rw [show G.tn id c = G from by unfold Gr.tn; rw [ec]; rfl]; exact hW, fW.no⟩
    · refine (gof_free hW k hk htk _).mono ?_
      rintro e2 w' ⟨rfl, rfl⟩
      have ec : G.tcode k c = 3 := by unfold Gr.tcode; rw [e]; rfl
      exact ⟨by rw [ec], by rw [show G.tn k c = G from by unfold Gr.tn; rw [ec]; rfl]; exact hW, fW.no⟩
    · by_cases hcc : (G.arc k).c = c
      · have ec : G.tcode k c = 5 := by unfold Gr.tcode; rw [e, if_pos rfl]; exact if_pos hcc
        rw [ec, show G.tn k c = G from by unfold Gr.tn; rw [ec]; rfl]
        refine gof_turn hW k hk htk _ 5 (fun w' => GMem w' L G ∧ Fr (L.own G.n) w w') ((turn1_no hW k hk _ ?_).mono ?_)
        · rw [hcc]; simp [go_sem]
        · rintro e2 w' ⟨rfl, h1⟩
          exact ⟨rfl, hW.no h1, (fW.trans h1).no⟩
      · have ec : G.tcode k c = 0 := by unfold Gr.tcode; rw [e, if_pos rfl]; exact if_neg hcc
        rw [ec, show G.tn k c = G.shut k c from by unfold Gr.tn; rw [ec]; rfl]
        refine gof_turn hW k hk htk _ 0 (fun w' => GMem w' L (G.shut k c) ∧ Fr (L.own G.n) w w') ((turn1_yes hW k hk _ c hcc ?_ ?_).mono ?_)
        · simp [go_sem]
        · exact fun hh => by have := h.own_lt hh; omega
        · rintro e2 w' ⟨rfl, h1, h2⟩
          exact ⟨rfl, h1, fW.no.trans' h2 (fun i _ hi => hi)⟩)
  clear fW h
  go_enter Tryd.func125, Tryd.ntmps125
  go_wp2_with fail
  refine HC.out.mono ?_
  rintro e w2 ⟨rfl, hR⟩
  go_wp2
  go_ret
  exact ⟨rfl, hR⟩

set_option maxRecDepth 100000 in
set_option maxHeartbeats 1000000 in
theorem gclose_calls {w : World} {L : GLoc} {G : Gr} (h : GMem w L G) (id : Int) :
    Calls Tryd.prog 107 #[.pointer (some ⟨L.b, 0, none⟩), .int .i64 id] w fun e w' => e = .returned (.int .i64 (G.tcode id true)) ∧ GMem w' L (G.tn id true) ∧ Fr (L.own G.n) w w' := by
  have HC := hid (gturn_calls h id true)
  clear h
  go_enter Tryd.func107, Tryd.ntmps107
  go_wp2_with fail
  refine HC.out.mono ?_
  rintro e w2 ⟨rfl, hR⟩
  go_wp2
  go_ret
  exact ⟨rfl, hR⟩

set_option maxRecDepth 100000 in
set_option maxHeartbeats 1000000 in
theorem greopen_calls {w : World} {L : GLoc} {G : Gr} (h : GMem w L G) (id : Int) :
    Calls Tryd.prog 108 #[.pointer (some ⟨L.b, 0, none⟩), .int .i64 id] w fun e w' => e = .returned (.int .i64 (G.tcode id false)) ∧ GMem w' L (G.tn id false) ∧ Fr (L.own G.n) w w' := by
  have HC := hid (gturn_calls h id false)
  clear h
  go_enter Tryd.func108, Tryd.ntmps108
  go_wp2_with fail
  refine HC.out.mono ?_
  rintro e w2 ⟨rfl, hR⟩
  go_wp2
  go_ret
  exact ⟨rfl, hR⟩

set_option maxRecDepth 100000 in
set_option maxHeartbeats 1000000 in
theorem gweigh_calls {w : World} {L : GLoc} {G : Gr} (h : GMem w L G) (id x : Int) :
    Calls Tryd.prog 109 #[.pointer (some ⟨L.b, 0, none⟩), .int .i64 id, .int .i64 x] w fun e w' => e = .returned (.int .i64 (G.wcode id x)) ∧ GMem w' L (G.wt id x) ∧ Fr (L.own G.n) w w' := by
  have fW : Fr No w (w.alloc (.cells #[.int .i64 x] 3)) := ((Fr.refl _ _).alloc _)
  have c1 : (w.alloc (.cells #[.int .i64 x] 3)).cell? ⟨w.heap.size, 0, none⟩ = some (.int .i64 x) := by simp [go_sem]
  by_cases hx : 1 ≤ x ∧ x ≤ 4611686018427387904
  · have hxd : decide (1 ≤ x ∧ x ≤ 4611686018427387904) = true := decide_eq_true hx
    have HC : Hid (Calls Tryd.prog 122 #[.pointer (some ⟨L.b, 0, none⟩), .int .i64 id, .func (.func 126) #[] #[.pointer (some ⟨w.heap.size, 0, none⟩)]] (w.alloc (.cells #[.int .i64 x] 3)) fun e w' => e = .returned (.int .i64 (G.wcode id x)) ∧ GMem w' L (G.wt id x) ∧ Fr (L.own G.n) w w') := hid (by
      have hW := h.no fW
      rcases G.code_cases id with ⟨e, h1⟩ | ⟨k, rfl, hk, htk, e⟩ | ⟨k, rfl, hk, htk, e⟩
      · refine (gof_arg _ _ id h1 _).mono ?_
        rintro e2 w' ⟨rfl, rfl⟩
        have ec : G.wcode id x = 1 := by unfold Gr.wcode; rw [if_pos hx, e]
        exact ⟨by rw [ec], by rw [show G.wt id x = G from by unfold Gr.wt; rw [ec]; rfl]; exact hW, fW.no⟩
      · refine (gof_free hW k hk htk _).mono ?_
        rintro e2 w' ⟨rfl, rfl⟩
        have ec : G.wcode k x = 3 := by unfold Gr.wcode; rw [if_pos hx, e]
        exact ⟨by rw [ec], by rw [show G.wt k x = G from by unfold Gr.wt; rw [ec]; rfl]; exact hW, fW.no⟩
      · have ec : G.wcode k x = 0 := by unfold Gr.wcode; rw [if_pos hx, e]
        rw [ec, show G.wt k x = G.wei k x from by unfold Gr.wt; rw [ec]; rfl]
        refine gof_wei hW k hk htk _ 0 (fun w' => GMem w' L (G.wei k x) ∧ Fr (L.own G.n) w w') ((weigh1_calls hW k hk _ x c1 ?_).mono ?_)
        · exact fun hh => by have := h.own_lt hh; omega
        · rintro e2 w' ⟨rfl, h1, h2⟩
          exact ⟨rfl, h1, fW.no.trans' h2 (fun i _ hi => hi)⟩)
    clear fW h hx
    go_enter Tryd.func109, Tryd.ntmps109
    go_wp2_with fail
    refine (weight_calls x _).mono ?_
    rintro e w1 ⟨rfl, rfl⟩
    rw [hxd]
    go_wp2_with fail
    refine HC.out.mono ?_
    rintro e w2 ⟨rfl, hR⟩
    go_wp2
    go_ret
    exact ⟨rfl, hR⟩
  · have hxd : decide (1 ≤ x ∧ x ≤ 4611686018427387904) = false := decide_eq_false hx
    have ec : G.wcode id x = 1 := by unfold Gr.wcode; rw [if_neg hx]
    have hR := hid (show GMem (w.alloc (.cells #[.int .i64 x] 3)) L G ∧ Fr (L.own G.n) w (w.alloc (.cells #[.int .i64 x] 3)) from ⟨h.no fW, fW.no⟩)
    rw [ec, show G.wt id x = G from by unfold Gr.wt; rw [ec]; rfl]
    clear fW h hx ec
    go_enter Tryd.func109, Tryd.ntmps109
    go_wp2_with fail
    refine (weight_calls x _).mono ?_
    rintro e w1 ⟨rfl, rfl⟩
    rw [hxd]
    go_wp2
    go_ret
    exact ⟨rfl, hR.out⟩

end Go.Proofs.YtlncmnphjdeeoaaDoor
