/- An arc is inserted; walked. -/
import Derived.Deep.Cut
import Derived.StillTailTactics
import Derived.Test.YtoepbhacpidcbaaGreatDoorQBase
import Derived.Test.YtoepbhacpidcbaaGreatDoorQIdx
import Derived.Test.YtoepbhacpidcbaaGreatDoorQPerm
import Derived.Test.YtoepbhacpidcbaaGreatDoorQIdxB
import Derived.Test.YtoepbhacpidcbaaGreatDoorQRef
import Derived.Test.YtoepbhacpidcbaaGreatDoorQUnref
import Derived.Test.YtoepbhacpidcbaaGreatDoorQItr
import Derived.Test.YtoepbhacpidcbaaGreatDoorQUnE
import Derived.Test.YtoepbhacpidcbaaGreatDoorQDst
import Derived.Test.YtoepbhacpidcbaaGreatDoorQLnk
import Derived.Test.YtoepbhacpidcbaaGreatDoorQLks
import Derived.Test.YtoepbhacpidcbaaGreatDoorQBig
import Derived.Test.YtoepbhacpidcbaaGreatDoorQCp2

set_option linter.unusedVariables false
set_option linter.unusedSimpArgs false
namespace Go.Proofs.YtoepbhacpidcbaaGreatDoor
open Go.RowKit Go.Deep

/-- The lists of a graph. -/
structure LMem (w : World) (L : GLoc) (n : Nat) (lst : Nat → List Int) : Prop where
  at_ : Blk w L.ba (2 * n) 202 (fun q => ilv (lst q) (L.c q) (L.g q))
  ls : ∀ q, q < 2 * n → IL w (lst q) (L.c q) (L.g q)
  ne : L.b ≠ L.ba ∧ ∀ q k, q < 2 * n → L.g q = some k → k ≠ L.b ∧ k ≠ L.ba
  inj : ∀ p q k, p < 2 * n → q < 2 * n → L.g p = some k → L.g q = some k → p = q
theorem GMem.lm {w : World} {L : GLoc} {G : Gr} (h : GMem w L G) : LMem w L G.n G.lst := ⟨h.at_, h.ls, h.ne, h.inj⟩
theorem LMem.fr {w w' : World} {L : GLoc} {n : Nat} {lst : Nat → List Int} (h : LMem w L n lst) {F : Nat → Prop} (hf : Fr F w w') (h1 : ¬ F L.ba) (h2 : ∀ q k, q < 2 * n → L.g q = some k → ¬ F k) : LMem w' L n lst :=
  ⟨h.at_.fr hf h1, fun q hq => (h.ls q hq).fr hf (fun k hk => h2 q k hq hk), h.ne, h.inj⟩
def GLoc.put (L : GLoc) (q g c : Nat) : GLoc := ⟨L.b, L.ba, fun p => if p = q then some g else L.g p, fun p => if p = q then c else L.c p⟩
theorem LMem.put {w w6 : World} {L : GLoc} {n q g' c' : Nat} {lst : Nat → List Int} {l' : List Int} (h : LMem w L n lst) (hq : q < 2 * n) (hbl : L.b < w.heap.size) (hI : ILat w6 g' l' c')
    (hf : (L.g q = some g' ∧ Fr (One g') w w6) ∨ (w.heap.size ≤ g' ∧ Fr No w w6)) : LMem (w6.setCell ⟨L.ba, q, none⟩ (ilv l' c' (some g'))) (L.put q g' c') n (fun p => if p = q then l' else lst p) := by
  have hF : Fr (fun j => L.g q = some j) w w6 := by
    rcases hf with ⟨h1, h2⟩ | ⟨_, h2⟩
    · exact h2.mono fun i _ hi => by have : i = g' := hi; rw [this]; exact h1
    · exact h2.no
  have hba := h.at_.lt
  have hgb : g' ≠ L.b ∧ g' ≠ L.ba := by
    rcases hf with ⟨h1, _⟩ | ⟨h1, _⟩
    · exact h.ne.2 q g' hq h1
    · constructor <;> omega
  have hgp : ∀ p k, p < 2 * n → p ≠ q → L.g p = some k → k ≠ g' := fun p k hp hpq hk e => by
    subst e
    rcases hf with ⟨h1, _⟩ | ⟨h1, _⟩
    · exact hpq (h.inj p q k hp hq hk h1)
    · have := h.ls p hp
      rw [hk] at this
      have := ILat.lt this
      omega
  have fs : Fr (One L.ba) w6 (w6.setCell ⟨L.ba, q, none⟩ (ilv l' c' (some g'))) := (Fr.refl _ _).set1 _ _
  refine ⟨?_, fun p hp => ?_, ⟨h.ne.1, fun p k hp hk => ?_⟩, fun p1 p2 k hp1 hp2 hk1 hk2 => ?_⟩
  · refine ((h.at_.fr hF (fun hh => (h.ne.2 q _ hq hh).2 rfl)).setCell q _).congr fun i hi => ?_
    unfold upd GLoc.put
    by_cases e : i = q
    · subst e; simp
    · simp [e]
  · unfold GLoc.put
    by_cases e : p = q
    · subst e
      simp only [if_true]
      exact hI.fr fs (fun (hh : g' = L.ba) => hgb.2 hh)
    · simp only [e, if_false]
      refine ((h.ls p hp).fr hF (fun k hk hh => e (h.inj p q k hp hq hk hh))).fr fs (fun k hk (hh : k = L.ba) => (h.ne.2 p k hp hk).2 hh)
  · unfold GLoc.put at hk
    simp only at hk
    split at hk
    · cases hk; exact hgb
    · exact h.ne.2 p k hp hk
  · unfold GLoc.put at hk1 hk2
    simp only at hk1 hk2
    by_cases e1 : p1 = q
    · by_cases e2 : p2 = q
      · rw [e1, e2]
      · rw [if_pos e1] at hk1
        rw [if_neg e2] at hk2
        cases hk1
        exact absurd rfl (hgp p2 g' hp2 e2 hk2)
    · by_cases e2 : p2 = q
      · rw [if_neg e1] at hk1
        rw [if_pos e2] at hk2
        cases hk2
        exact absurd rfl (hgp p1 g' hp1 e1 hk1)
      · rw [if_neg e1] at hk1
        rw [if_neg e2] at hk2
        exact h.inj p1 p2 k hp1 hp2 hk1 hk2

theorem LMem.congr {w : World} {L : GLoc} {n : Nat} {lst lst' : Nat → List Int} (h : LMem w L n lst) (e : ∀ q, q < 2 * n → lst q = lst' q) : LMem w L n lst' :=
  ⟨h.at_.congr (fun q hq => by rw [e q hq]), fun q hq => by rw [← e q hq]; exact h.ls q hq, h.ne, h.inj⟩
theorem LMem.gm {w : World} {L : GLoc} {G : Gr} (ho : G.Ok) (hb : Blk w L.b 323 197 (G.cell L.ba)) (h : LMem w L G.n G.lst) : GMem w L G := ⟨ho, hb, h.at_, h.ls, h.ne, h.inj⟩
theorem put_fr {w5 w6 : World} {o : Option Nat} {g' : Nat} (h2 : (o = some g' ∧ Fr (One g') w5.drew w6) ∨ (w5.drew.heap.size ≤ g' ∧ Fr No w5.drew w6)) :
    (o = some g' ∧ Fr (One g') w5 w6) ∨ (w5.heap.size ≤ g' ∧ Fr No w5 w6) := by
  rcases h2 with ⟨h2, h3⟩ | ⟨h2, h3⟩
  · exact .inl ⟨h2, ((Fr.refl No w5).drew.no).trans h3⟩
  · exact .inr ⟨h2, ((Fr.refl No w5).drew).trans h3⟩
theorem put_frg {w5 w6 : World} {o : Option Nat} {g' : Nat} (h2 : (o = some g' ∧ Fr (One g') w5 w6) ∨ (w5.heap.size ≤ g' ∧ Fr No w5 w6)) : Fr (fun j => o = some j) w5 w6 := by
  rcases h2 with ⟨h2, h3⟩ | ⟨h2, h3⟩
  · exact h3.mono fun i _ (e : i = g') => (by rw [e]; exact h2)
  · exact h3.no

theorem put_pack {w5 w6 : World} {L : GLoc} {n q g' c' : Nat} {lst : Nat → List Int} {l' : List Int} (h : LMem w5 L n lst) (hq : q < 2 * n) (hbl : L.b < w5.heap.size) (hI : ILat w6 g' l' c')
    (hf : (L.g q = some g' ∧ Fr (One g') w5 w6) ∨ (w5.heap.size ≤ g' ∧ Fr No w5 w6)) : ∃ L1 lst1, LMem (w6.setCell ⟨L.ba, q, none⟩ (.slice (some ⟨g', 0, none⟩) l'.length c')) L1 n lst1 ∧ L1.b = L.b ∧ L1.ba = L.ba ∧ (∀ p j, p < 2 * n → L1.g p = some j → L.g p = some j ∨ w5.heap.size ≤ j) ∧ (∀ p, lst1 p = if p = q then l' else lst p) := by
  refine ⟨L.put q g' c', _, LMem.put h hq hbl hI hf, rfl, rfl, fun p j hp hj => ?_, fun p => rfl⟩
  unfold GLoc.put at hj
  simp only at hj
  split at hj
  · rename_i e
    cases hj
    rcases hf with ⟨h1, _⟩ | ⟨h1, _⟩
    · exact .inl (by rw [e]; exact h1)
    · exact .inr (by omega)
  · exact .inl hj

def Gr.ins (G : Gr) (k : Nat) (a : Arc4) : Gr := ⟨G.n, G.most, fun i => if i = k then a else G.arc i, fun i => if i = k then true else G.tk i⟩
def Gr.cellN (G : Gr) (ba cnt i : Nat) : Value := if i < 320 then G.slot (i / 5) (i % 5) else if i = 320 then .slice (some ⟨ba, 0, none⟩) G.n G.n else if i = 321 then .int .i64 (cnt : Nat) else .int .i64 (G.most : Nat)
theorem Gr.cell_eq (G : Gr) (ba : Nat) : G.cell ba = G.cellN ba G.cnt := rfl
theorem Gr.ins_cell (G : Gr) (ba cnt k : Nat) (a : Arc4) (hk : k < 64) (i : Nat) :
    upd (upd (upd (upd (upd (G.cellN ba cnt) (k * 5) (.int .i64 a.t)) (k * 5 + 1) (.int .i64 a.h)) (k * 5 + 2) (.int .i64 a.w)) (k * 5 + 3) (.bool a.c)) (k * 5 + 4) (.bool true) i = (G.ins k a).cellN ba cnt i := by
  unfold upd
  by_cases h : i / 5 = k ∧ i < 320
  · obtain ⟨h1, h2⟩ := h
    have hc : i = k * 5 + i % 5 := by omega
    have h5 : i % 5 < 5 := Nat.mod_lt _ (by omega)
    unfold Gr.cellN
    rw [if_pos (show i < 320 from h2), if_pos (show i < 320 from h2), h1]
    unfold Gr.slot Gr.ins
    simp only [if_true]
    generalize i % 5 = c at hc h5 ⊢
    subst hc
    match c, h5 with
    | 0, _ => simp
    | 1, _ => simp
    | 2, _ => simp
    | 3, _ => simp
    | 4, _ => simp
  · rw [if_neg (by omega), if_neg (by omega), if_neg (by omega), if_neg (by omega), if_neg (by omega)]
    unfold Gr.cellN
    by_cases h2 : i < 320
    · rw [if_pos h2, if_pos h2]
      unfold Gr.slot Gr.ins
      simp only [show ¬ i / 5 = k by omega, if_false]
    · rw [if_neg h2, if_neg h2]; rfl
theorem Gr.ins_lst (G : Gr) (k : Nat) (a : Arc4) (hk : k < 64) (htk : G.tk k = false) (q : Nat) :
    (G.ins k a).lst q = if (if q % 2 = 0 then a.t else a.h) = (q / 2 : Nat) then insA (G.lst q) (pos (G.lst q) (k : Nat)) (k : Nat) else G.lst q := by
  have hp : G.at q k = false := by unfold Gr.at; rw [htk]; rfl
  have ho : ∀ i, i ≠ k → (G.ins k a).at q i = G.at q i := fun i hi => by unfold Gr.at Gr.ins; simp [hi]
  have e : (G.ins k a).at q k = decide ((if q % 2 = 0 then a.t else a.h) = (q / 2 : Nat)) := by unfold Gr.at Gr.ins; simp only [if_true, Bool.true_and]
  by_cases hh : (if q % 2 = 0 then a.t else a.h) = (q / 2 : Nat)
  · rw [if_pos hh]
    have hq : (G.ins k a).at q k = true := by rw [e]; exact decide_eq_true hh
    exact (sel_ins hk hp hq ho).symm
  · rw [if_neg hh]
    have hq : (G.ins k a).at q k = false := by rw [e]; exact decide_eq_false hh
    exact sel_congr fun i _ => by
      by_cases e : i = k
      · subst e; rw [hp, hq]
      · exact ho i e
theorem Gr.ins_cnt (G : Gr) (k : Nat) (a : Arc4) (hk : k < 64) (htk : G.tk k = false) : (G.ins k a).cnt = G.cnt + 1 := by
  have h := sel_ins (p := G.tk) (q := (G.ins k a).tk) hk htk (by simp [Gr.ins]) (fun i hi => by simp [Gr.ins, hi])
  unfold Gr.cnt
  rw [← h, insA_len _ _ _ (pos_le _ _)]

set_option maxRecDepth 100000 in
set_option maxHeartbeats 1000000 in
theorem place_id_calls (i : Int) (w : World) : Calls Tryz.prog 112 #[.int .i64 i] w fun e w' => e = .returned (.bool (decide (0 ≤ i ∧ i < 64))) ∧ w = w' := by
  by_cases h0 : 0 ≤ i
  · have h0a : decide (0 ≤ i) = true := by simpa using h0
    by_cases h1 : i < 64
    · have h2 : decide (0 ≤ i ∧ i < 64) = true := by simp; omega
      rw [h2]
      go_enter Tryz.func112, Tryz.ntmps112
      go_wp2
      go_ret
      exact ⟨ret_bool (by simp <;> omega), rfl⟩
    · have h2 : decide (0 ≤ i ∧ i < 64) = false := by simp; omega
      rw [h2]
      go_enter Tryz.func112, Tryz.ntmps112
      go_wp2
      go_ret
      exact ⟨ret_bool (by simp <;> omega), rfl⟩
  · have h2 : decide (0 ≤ i ∧ i < 64) = false := by simp; omega
    have h0a : decide (0 ≤ i) = false := by simpa using h0
    rw [h2]
    go_enter Tryz.func112, Tryz.ntmps112
    go_wp2
    go_ret
    exact ⟨rfl, rfl⟩

set_option maxRecDepth 100000 in
set_option maxHeartbeats 1000000 in
theorem weight_calls (i : Int) (w : World) : Calls Tryz.prog 114 #[.int .i64 i] w fun e w' => e = .returned (.bool (decide (1 ≤ i ∧ i ≤ 4611686018427387904))) ∧ w = w' := by
  by_cases h0 : 1 ≤ i
  · have h0a : decide (1 ≤ i) = true := by simpa using h0
    by_cases h1 : i ≤ 4611686018427387904
    · have h2 : decide (1 ≤ i ∧ i ≤ 4611686018427387904) = true := by simp; omega
      rw [h2]
      go_enter Tryz.func114, Tryz.ntmps114
      go_wp2
      go_ret
      exact ⟨ret_bool (by simp <;> omega), rfl⟩
    · have h2 : decide (1 ≤ i ∧ i ≤ 4611686018427387904) = false := by simp; omega
      rw [h2]
      go_enter Tryz.func114, Tryz.ntmps114
      go_wp2
      go_ret
      exact ⟨ret_bool (by simp <;> omega), rfl⟩
  · have h2 : decide (1 ≤ i ∧ i ≤ 4611686018427387904) = false := by simp; omega
    have h0a : decide (1 ≤ i) = false := by simpa using h0
    rw [h2]
    go_enter Tryz.func114, Tryz.ntmps114
    go_wp2
    go_ret
    exact ⟨rfl, rfl⟩

theorem ilv_some (l : List Int) (c g : Nat) : ilv l c (some g) = .slice (some ⟨g, 0, none⟩) l.length c := rfl
def ld69 : Op := Op.load 34 (Operand.tmp 69)
def ld88 : Op := Op.load 34 (Operand.tmp 88)

set_option maxRecDepth 100000 in
set_option maxHeartbeats 4000000 in
theorem gins_yes {w : World} {L : GLoc} {G : Gr} (h : GMem w L G) (k : Nat) (hk : k < 64) (t hd : Nat) (wt : Int) (cl : Bool) (ht : t < G.n) (hh : hd < G.n) (hw1 : 1 ≤ wt) (hw2 : wt ≤ 4611686018427387904) (htk : G.tk k = false) (hcnt : G.cnt < G.most) :
    Calls Tryz.prog 55 #[.pointer (some ⟨L.b, 0, none⟩), .int .i64 (k : Nat), .agg #[.int .i64 (t : Nat), .int .i64 (hd : Nat), .int .i64 wt, .bool cl]] w fun e w' => e = .returned (.int .i64 0) ∧ ∃ L' : GLoc, GMem w' L' (G.ins k ⟨(t : Nat), (hd : Nat), wt, cl⟩) ∧ L'.b = L.b ∧ L'.ba = L.ba ∧ Fr (L.own G.n) w w' ∧ ∀ j, L'.own G.n j → L.own G.n j ∨ w.heap.size ≤ j := by
  have hn2 := h.ok.n2
  have hk2 : (k : Int) < 64 := by omega
  have ht2 : (t : Int) < G.n := by omega
  have hh2 : (hd : Int) < G.n := by omega
  have hp : decide (0 ≤ (k : Int) ∧ (k : Int) < 64) = true := by simp; omega
  have hvt : decide (0 ≤ (t : Int) ∧ (t : Int) < G.n) = true := by simp; omega
  have hvh : decide (0 ≤ (hd : Int) ∧ (hd : Int) < G.n) = true := by simp; omega
  have hwt : decide (1 ≤ wt ∧ wt ≤ 4611686018427387904) = true := by simp; omega
  have f0 : Fr No w (w.alloc (.cells #[.int .i64 (t : Nat), .int .i64 (hd : Nat), .int .i64 wt, .bool cl] 49)) := (Fr.refl No w).alloc _
  have H0 := hid (h.no f0)
  have hA := heap_new w (.cells #[.int .i64 (t : Nat), .int .i64 (hd : Nat), .int .i64 wt, .bool cl] 49)
  have c320 := H0.out.blk.cell (i := 320) (by omega)
  have hc320 : G.cell L.ba 320 = .slice (some ⟨L.ba, 0, none⟩) G.n G.n := rfl
  rw [hc320] at c320
  have hbl := H0.out.blk.lt
  go_enter Tryz.func55, Tryz.ntmps55
  go_wp2_with fail
  refine (place_id_calls _ _).mono ?_
  rintro e w1 ⟨rfl, rfl⟩
  rw [hp]
  have a0 := cell_of hA 0
  have a1 := cell_of hA 1
  have a2 := cell_of hA 2
  have a3 := cell_of hA 3
  have hzA : w.heap.size < (w.alloc (.cells #[.int .i64 (t : Nat), .int .i64 (hd : Nat), .int .i64 wt, .bool cl] 49)).heap.size := by simp
  have F0 := hid f0
  obtain ⟨W0, hW0⟩ : ∃ W0, w.alloc (.cells #[.int .i64 (t : Nat), .int .i64 (hd : Nat), .int .i64 wt, .bool cl] 49) = W0 := ⟨_, rfl⟩
  rw [hW0] at H0 F0 c320 hbl a0 a1 a2 a3 hzA ⊢
  clear hA f0 hW0 hc320
  simp at a0 a1 a2 a3
  go_wp2_with fail
  refine (vertex_calls (t : Nat) c320 (by omega)).mono ?_
  rintro e w1 ⟨rfl, hf⟩
  rw [hvt]
  have H1 := hid (H0.out.no hf)
  have F1 := hid (F0.out.trans hf)
  have hs1 := hf.size
  have b0 := hf.cell_some a0 (fun h => h)
  have b1 := hf.cell_some a1 (fun h => h)
  have b2 := hf.cell_some a2 (fun h => h)
  have b3 := hf.cell_some a3 (fun h => h)
  have b320 := hf.cell_some c320 (fun h => h)
  clear hf a0 a1 a2 a3 c320
  go_wp2_with fail
  refine (vertex_calls (hd : Nat) b320 (by omega)).mono ?_
  rintro e w2 ⟨rfl, hf⟩
  rw [hvh]
  have H2 := hid (H1.out.no hf)
  have F2 := hid (F1.out.trans hf)
  have hs2 := hf.size
  have a0 := hf.cell_some b0 (fun h => h)
  have a1 := hf.cell_some b1 (fun h => h)
  have a2 := hf.cell_some b2 (fun h => h)
  have a3 := hf.cell_some b3 (fun h => h)
  have a320 := hf.cell_some b320 (fun h => h)
  clear hf b0 b1 b2 b3 b320
  go_wp2_with fail
  refine (weight_calls wt _).mono ?_
  rintro e w3 ⟨rfl, rfl⟩
  rw [hwt]
  have k4 := H2.out.blk.cell (i := k * 5 + 4) (by omega)
  rw [G.slot_cell _ k 4 hk (by omega)] at k4
  simp only [Gr.slot, htk] at k4
  simp at k4
  have k321 : w2.cell? ⟨L.b, 321, none⟩ = some (.int .i64 (G.cnt : Nat)) := H2.out.blk.cell (i := 321) (by omega)
  have k322 : w2.cell? ⟨L.b, 322, none⟩ = some (.int .i64 (G.most : Nat)) := H2.out.blk.cell (i := 322) (by omega)
  have kk1 : ∀ n : Fam w2, n.v.cell? ⟨L.b, 321, none⟩ = some (.int .i64 (G.cnt : Nat)) := Fam.cell k321
  have kk2 : ∀ n : Fam w2, n.v.cell? ⟨L.b, 322, none⟩ = some (.int .i64 (G.most : Nat)) := Fam.cell k322
  clear k321 k322 hp hvt hvh hwt H0 H1
  go_wp2_with fail
  refine wp_region_fam (by kernel_rfl) (by kernel_rfl) ?_
  repeat (go_big_quiet_step (fail))
  refine wpQuiet_nil ?_
  rintro w4 ⟨⟨w4, hf4⟩, rfl⟩
  have H4 := hid (H2.out.no hf4)
  have F4 := hid (F2.out.trans hf4)
  have hs2b := hf4.size
  have b0 := hf4.cell_some a0 (fun h => h)
  have b1 := hf4.cell_some a1 (fun h => h)
  have b2 := hf4.cell_some a2 (fun h => h)
  have b3 := hf4.cell_some a3 (fun h => h)
  have b320 := hf4.cell_some a320 (fun h => h)
  have z0 := H4.out.blk.cell (i := k * 5) (by omega)
  have z1 := H4.out.blk.cell (i := k * 5 + 1) (by omega)
  have z2 := H4.out.blk.cell (i := k * 5 + 2) (by omega)
  have z3 := H4.out.blk.cell (i := k * 5 + 3) (by omega)
  have z4 := H4.out.blk.cell (i := k * 5 + 4) (by omega)
  have zf := fun i => H4.out.blk.frozen i
  have hcd : ((G.most : Int) ≤ (G.cnt : Nat)) = False := by simp; omega
  have hcd2 : decide ((G.most : Int) ≤ (G.cnt : Nat)) = false := by simp; omega
  clear hf4 kk1 kk2 a0 a1 a2 a3 a320 k4 H2
  go_wp2_with fail
  go_still_tail 7, (by kernel_rfl)
  go_wp2_with fail
  have B5 := Blk.drew (((((((H4.out.blk).setCell (k * 5) (.int .i64 (t : Nat))).setCell (k * 5 + 1) (.int .i64 (hd : Nat))).setCell (k * 5 + 2) (.int .i64 wt)).setCell (k * 5 + 3) (.bool cl)).setCell (k * 5 + 4) (.bool true)).congr (fun i _ => G.ins_cell L.ba G.cnt k ⟨(t : Nat), (hd : Nat), wt, cl⟩ hk i))
  have F5 : Fr (One L.b) w4 ((((((w4.setCell ⟨L.b, k * 5, none⟩ (.int .i64 (t : Nat))).setCell ⟨L.b, k * 5 + 1, none⟩ (.int .i64 (hd : Nat))).setCell ⟨L.b, k * 5 + 2, none⟩ (.int .i64 wt)).setCell ⟨L.b, k * 5 + 3, none⟩ (.bool cl)).setCell ⟨L.b, k * 5 + 4, none⟩ (.bool true)).drew) := ((((((Fr.refl _ _).set1 _ _).set1 _ _).set1 _ _).set1 _ _).set1 _ _).drew
  generalize (((((w4.setCell ⟨L.b, k * 5, none⟩ (.int .i64 (t : Nat))).setCell ⟨L.b, k * 5 + 1, none⟩ (.int .i64 (hd : Nat))).setCell ⟨L.b, k * 5 + 2, none⟩ (.int .i64 wt)).setCell ⟨L.b, k * 5 + 3, none⟩ (.bool cl)).setCell ⟨L.b, k * 5 + 4, none⟩ (.bool true)).drew = w5 at B5 F5 ⊢
  have hAb : w.heap.size ≠ L.b := by have := h.blk.lt; omega
  have hAa : w.heap.size ≠ L.ba := by have := h.at_.lt; omega
  have hAg : ∀ q j, q < 2 * G.n → L.g q = some j → w.heap.size ≠ j := fun q j hq hj e => by
    have := h.own_lt (.inr (.inr ⟨q, hq, hj⟩))
    omega
  have HL5 := hid (LMem.fr H4.out.lm F5 (fun (e : L.ba = L.b) => H4.out.ne.1 e.symm) (fun q j hq hj (e : j = L.b) => (H4.out.ne.2 q j hq hj).1 e))
  have a0 := F5.cell_some b0 (fun (e : w.heap.size = L.b) => hAb e)
  have a1 := F5.cell_some b1 (fun (e : w.heap.size = L.b) => hAb e)
  have a320 : w5.cell? ⟨L.b, 320, none⟩ = some (.slice (some ⟨L.ba, 0, none⟩) G.n G.n) := B5.cell (i := 320) (by omega)
  have hb5 := B5.lt
  have hs5 := F5.size
  have hs4 := F4.out.size
  have HB5 := hid B5
  have HF5 := hid (show Fr (L.own G.n) w w5 from (F4.out.no (F := L.own G.n)).trans' F5 (fun i hi (e : i = L.b) => .inl e))
  clear B5 F5 z0 z1 z2 z3 z4 zf b0 b1 b2 b3 b320 hcd hcd2
  -- the arcs that go out
  have hq0 : 2 * t < 2 * G.n := by omega
  have hIL := HL5.out.ls (2 * t) hq0
  have cq0 := HL5.out.at_.cell (i := 2 * t) hq0
  rw [show 2 * t = t * 2 by omega] at cq0
  obtain ⟨lv, hlv⟩ : ∃ lv, ilv (G.lst (2 * t)) (L.c (2 * t)) (L.g (2 * t)) = lv := ⟨_, rfl⟩
  have hwc := with_list_calls (L.g (2 * t)) (G.lst (2 * t)) (L.c (2 * t)) (k : Nat) w5.drew (hIL.fr ((Fr.refl No w5).drew) (fun _ _ h => h)) (sel_len _) (sel_sorted _)
  rw [hlv] at hwc
  simp only [ilv_some] at hwc
  obtain ⟨m1, hm1⟩ : ∃ m1, (insA (G.lst (2 * t)) (pos (G.lst (2 * t)) (k : Nat)) (k : Nat)).length = m1 := ⟨_, rfl⟩
  rw [hm1] at hwc
  rw [show t * 2 = 2 * t by omega, hlv, show 2 * t = t * 2 by omega] at cq0
  have HWC := hid hwc
  clear hwc hIL hlv
  go_wp2_with fail
  have HSS : Hid (∀ w', Fr (fun j => j = L.ba ∨ L.g (2 * t) = some j) w5 w' → (Fr (fun j => j = L.ba ∨ L.g (2 * t) = some j) w5 w' ∧ w'.cell? ⟨L.b, 320, none⟩ = some (.slice (some ⟨L.ba, 0, none⟩) G.n G.n) ∧ w'.cell? ⟨w.heap.size, 0, none⟩ = some (.int .i64 (t : Nat)))) := hid fun w' hf =>
    ⟨hf, hf.cell_some a320 (fun e => e.elim (fun e => HL5.out.ne.1 e) (fun e => (HL5.out.ne.2 _ _ hq0 e).1 rfl)), hf.cell_some a0 (fun e => e.elim (fun e => hAa e) (fun e => hAg _ _ hq0 e rfl))⟩
  rw [show (Op.load 34 (Operand.tmp 69)) = ld69 from rfl]
  (go_loud (go_region_held3 (fun w' => Fr (fun j => j = L.ba ∨ L.g (2 * t) = some j) w5 w' ∧ w'.cell? ⟨L.b, 320, none⟩ = some (.slice (some ⟨L.ba, 0, none⟩) G.n G.n) ∧ w'.cell? ⟨w.heap.size, 0, none⟩ = some (.int .i64 (t : Nat)))
      (first | assumption | exact HSS.out _ ((Fr.refl _ _).drew) | exact HSS.out _ (Fr.setCell (F := fun j => j = L.ba ∨ L.g (2 * t) = some j) (show Fr _ w5 _ ∧ _ from by assumption).1 (p := ⟨L.ba, _, none⟩) (.inl (.inl rfl)) _))
      (first
        | (go_at_call 115
           refine HWC.out.mono ?_
           rintro e w6 ⟨c', g', rfl, h1, h2⟩
           have h2 := put_fr h2
           have hfa := put_frg h2
           have hba6 := HL5.out.at_.fr hfa (fun e => (HL5.out.ne.2 _ _ hq0 e).2 rfl)
           have hz6 := fun i => hba6.frozen i
           have hc6 := hfa.cell_some cq0 (fun e => (HL5.out.ne.2 _ _ hq0 e).2 rfl)
           have hk6 := HSS.out _ (hfa.mono fun i _ e => .inr e)
           clear hba6)
        | (unfold ld69; go_simp))))
  have h56 : Fr (fun j => j = L.ba ∨ L.g (2 * t) = some j) w5 (w6.setCell ⟨L.ba, t * 2, none⟩ (.slice (some ⟨g', 0, none⟩) m1 c')) := (hfa.mono (fun i _ e => .inr e)).setCell (.inl (.inl rfl)) _
  obtain ⟨L1, lst1, hp1, hL1b, hL1a, hL1g, hlst1⟩ := put_pack HL5.out hq0 hb5 h1 h2
  rw [hm1, show 2 * t = t * 2 by omega] at hp1
  rw [show 2 * t = t * 2 by omega] at h56
  generalize (w6.setCell ⟨L.ba, t * 2, none⟩ (.slice (some ⟨g', 0, none⟩) m1 c')) = w7 at h56 hp1 ⊢
  rw [show t * 2 = 2 * t by omega] at h56
  have HL7 := hid hp1
  have b1 := h56.cell_some a1 (fun e => e.elim (fun e => hAa e) (fun e => hAg _ _ hq0 e rfl))
  have b320 := h56.cell_some a320 (fun e => e.elim (fun e => HL5.out.ne.1 e) (fun e => (HL5.out.ne.2 _ _ hq0 e).1 rfl))
  have HB7 := hid (HB5.out.fr h56 (fun e => e.elim (fun e => HL5.out.ne.1 e) (fun e => (HL5.out.ne.2 _ _ hq0 e).1 rfl)))
  have HF7 := hid (show Fr (L.own G.n) w w7 from HF5.out.trans' h56 (fun i hi e => e.elim (fun e => .inr (.inl e)) (fun e => .inr (.inr ⟨_, hq0, e⟩))))
  have hs7 := h56.size
  have hb7 : L1.b < w7.heap.size := by rw [hL1b]; omega
  clear h56 hp1 h1 h2 hfa hz6 hc6 hk6 HSS HWC a0 a1 a320 cq0
  -- the arcs that come in
  have hq1 : 2 * hd + 1 < 2 * G.n := by omega
  have hIL := HL7.out.ls (2 * hd + 1) hq1
  have cq0 := HL7.out.at_.cell (i := 2 * hd + 1) hq1
  rw [hL1a, show 2 * hd + 1 = hd * 2 + 1 by omega] at cq0
  obtain ⟨lv2, hlv⟩ : ∃ lv2, ilv (lst1 (2 * hd + 1)) (L1.c (2 * hd + 1)) (L1.g (2 * hd + 1)) = lv2 := ⟨_, rfl⟩
  have hl1s : lst1 (2 * hd + 1) = G.lst (2 * hd + 1) := by rw [hlst1, if_neg (by omega)]
  have hwc := with_list_calls (L1.g (2 * hd + 1)) (lst1 (2 * hd + 1)) (L1.c (2 * hd + 1)) (k : Nat) w7.drew (hIL.fr ((Fr.refl No w7).drew) (fun _ _ h => h)) (by rw [hl1s]; exact sel_len _) (by rw [hl1s]; exact sel_sorted _)
  rw [hlv] at hwc
  simp only [ilv_some] at hwc
  obtain ⟨m2, hm2⟩ : ∃ m2, (insA (lst1 (2 * hd + 1)) (pos (lst1 (2 * hd + 1)) (k : Nat)) (k : Nat)).length = m2 := ⟨_, rfl⟩
  rw [hm2] at hwc
  rw [show hd * 2 + 1 = 2 * hd + 1 by omega, hlv, show 2 * hd + 1 = hd * 2 + 1 by omega] at cq0
  have HWC := hid hwc
  clear hwc hIL hlv
  go_wp2_with fail
  have HSS : Hid (∀ w', Fr (fun j => j = L.ba ∨ L1.g (2 * hd + 1) = some j) w7 w' → (Fr (fun j => j = L.ba ∨ L1.g (2 * hd + 1) = some j) w7 w' ∧ w'.cell? ⟨L.b, 320, none⟩ = some (.slice (some ⟨L.ba, 0, none⟩) G.n G.n) ∧ w'.cell? ⟨w.heap.size, 1, none⟩ = some (.int .i64 (hd : Nat)))) := hid fun w' hf => by
    have hne := HL7.out.ne
    rw [hL1b, hL1a] at hne
    exact ⟨hf, hf.cell_some b320 (fun e => e.elim (fun e => hne.1 e) (fun e => (hne.2 _ _ hq1 e).1 rfl)), hf.cell_some b1 (fun e => e.elim (fun e => hAa e) (fun e => (hL1g _ _ hq1 e).elim (fun e => hAg _ _ hq1 e rfl) (fun (e : w5.heap.size ≤ w.heap.size) => by omega)))⟩
  rw [show (Op.load 34 (Operand.tmp 88)) = ld88 from rfl]
  (go_loud (go_region_held3 (fun w' => Fr (fun j => j = L.ba ∨ L1.g (2 * hd + 1) = some j) w7 w' ∧ w'.cell? ⟨L.b, 320, none⟩ = some (.slice (some ⟨L.ba, 0, none⟩) G.n G.n) ∧ w'.cell? ⟨w.heap.size, 1, none⟩ = some (.int .i64 (hd : Nat)))
      (first | assumption | exact HSS.out _ ((Fr.refl _ _).drew) | exact HSS.out _ (Fr.setCell (F := fun j => j = L.ba ∨ L1.g (2 * hd + 1) = some j) (show Fr _ w7 _ ∧ _ from by assumption).1 (p := ⟨L.ba, _, none⟩) (.inl (.inl rfl)) _))
      (first
        | (go_at_call 115
           refine HWC.out.mono ?_
           rintro e w8 ⟨c', g', rfl, h1, h2⟩
           have h2 := put_fr h2
           have hfa := put_frg h2
           have hba6 := HL7.out.at_.fr hfa (fun e => (HL7.out.ne.2 _ _ hq1 e).2 rfl)
           rw [hL1a] at hba6
           have hz6 := fun i => hba6.frozen i
           have hc6 := hfa.cell_some cq0 (fun e => (HL7.out.ne.2 _ _ hq1 e).2 hL1a.symm)
           have hk6 := HSS.out _ (hfa.mono fun i _ e => .inr e)
           clear hba6)
        | (unfold ld88; go_simp))))
  have h56 : Fr (fun j => j = L.ba ∨ L1.g (2 * hd + 1) = some j) w7 (w8.setCell ⟨L.ba, hd * 2 + 1, none⟩ (.slice (some ⟨g', 0, none⟩) m2 c')) := (hfa.mono (fun i _ e => .inr e)).setCell (.inl (.inl rfl)) _
  obtain ⟨L2, lst2, hp2, hL2b, hL2a, hL2g, hlst2⟩ := put_pack HL7.out hq1 hb7 h1 h2
  rw [hm2, show 2 * hd + 1 = hd * 2 + 1 by omega, hL1a] at hp2
  generalize (w8.setCell ⟨L.ba, hd * 2 + 1, none⟩ (.slice (some ⟨g', 0, none⟩) m2 c')) = w9 at h56 hp2 ⊢
  have hne := HL7.out.ne
  rw [hL1b, hL1a] at hne
  have hB9 := HB7.out.fr h56 (fun e => e.elim (fun e => hne.1 e) (fun e => (hne.2 _ _ hq1 e).1 rfl))
  have HF9 := hid (show Fr (L.own G.n) w w9 from HF7.out.trans' h56 (fun i hi e => e.elim (fun e => .inr (.inl e)) (fun e => (hL1g _ _ hq1 e).elim (fun e => .inr (.inr ⟨_, hq1, e⟩)) (fun e => absurd hi (by omega)))))
  have hs9 := h56.size
  have HL9 := hid hp2
  have c321 : w9.cell? ⟨L.b, 321, none⟩ = some (.int .i64 (G.cnt : Nat)) := hB9.cell (i := 321) (by omega)
  have zf := fun i => hB9.frozen i
  have hb9 := hB9.lt
  have HB9 := hid hB9
  clear h56 hp2 h1 h2 hfa hz6 hc6 hk6 HSS HWC b1 b320 cq0 hB9 hne
  go_wp2_with fail
  have hm2' := h.ok.m2
  have ew : wrap64 ((G.cnt : Nat) + 1) = ((G.cnt + 1 : Nat) : Int) := by
    rw [show ((G.cnt : Nat) : Int) + 1 = ((G.cnt + 1 : Nat) : Int) by omega]
    exact IntWalk.wrap64_in _ (by omega)
  rw [ew]
  go_ret
  have hic := G.ins_cnt k ⟨(t : Nat), (hd : Nat), wt, cl⟩ hk htk
  have fs : Fr (One L.b) w9 (w9.setCell ⟨L.b, 321, none⟩ (.int .i64 ((G.cnt + 1 : Nat) : Int))) := (Fr.refl _ _).set1 _ _
  have hne2 := HL9.out.ne
  rw [hL2b, hL2a, hL1b, hL1a] at hne2
  refine ⟨rfl, L2, LMem.gm ⟨h.ok.n1, h.ok.n2, h.ok.m1, h.ok.m2, fun i hi htk' => ?_⟩ ?_ ((HL9.out.fr fs (by rw [hL2a, hL1a]; exact fun e => hne2.1 e.symm) (fun q j hq hj e => (hne2.2 q j hq hj).1 e)).congr fun q hq => ?_), hL2b.trans hL1b, hL2a.trans hL1a, HF9.out.trans' fs (fun i _ e => .inl e), ?_⟩
  · unfold Gr.ins at htk' ⊢
    simp only at htk' ⊢
    by_cases e : i = k
    · simp only [e, if_true]
      omega
    · simp only [e, if_false] at htk' ⊢
      exact h.ok.arc i hi htk'
  · rw [hL2b, hL2a, hL1b, hL1a]
    refine (HB9.out.setCell 321 _).congr fun i hi => ?_
    rw [Gr.cell_eq, hic]
    unfold upd Gr.cellN
    by_cases e : i = 321
    · subst e; simp
    · simp only [e, if_false]
  · rw [hlst2, hlst1, hlst1, G.ins_lst k _ hk htk]
    by_cases e2 : q = 2 * hd + 1
    · subst e2
      rw [if_pos rfl, if_neg (by omega), if_pos]
      rw [if_neg (by omega)]
      show (hd : Int) = _
      omega
    · rw [if_neg e2]
      by_cases e1 : q = 2 * t
      · subst e1
        rw [if_pos rfl, if_pos]
        rw [if_pos (by omega)]
        show (t : Int) = _
        omega
      · rw [if_neg e1, if_neg]
        split
        · show ¬ (t : Int) = _
          omega
        · show ¬ (hd : Int) = _
          omega
  · rintro j (e | e | ⟨q, hq, e⟩)
    · exact .inl (.inl (by rw [e, hL2b, hL1b]))
    · exact .inl (.inr (.inl (by rw [e, hL2a, hL1a])))
    · rcases hL2g q j hq e with e | e
      · rcases hL1g q j hq e with e | e
        · exact .inl (.inr (.inr ⟨q, hq, e⟩))
        · exact .inr (by omega)
      · exact .inr (by omega)

end Go.Proofs.YtoepbhacpidcbaaGreatDoor

/- An arc is deleted; walked. -/
set_option linter.unusedVariables false
set_option linter.unusedSimpArgs false
namespace Go.Proofs.YtoepbhacpidcbaaGreatDoor
open Go.RowKit Go.Deep

def Gr.del (G : Gr) (k : Nat) : Gr := ⟨G.n, G.most, fun i => if i = k then ⟨0, 0, 0, false⟩ else G.arc i, fun i => if i = k then false else G.tk i⟩
theorem Gr.del_cell (G : Gr) (ba cnt k : Nat) (hk : k < 64) (i : Nat) :
    upd (upd (upd (upd (upd (G.cellN ba cnt) (k * 5) (.int .i64 0)) (k * 5 + 1) (.int .i64 0)) (k * 5 + 2) (.int .i64 0)) (k * 5 + 3) (.bool false)) (k * 5 + 4) (.bool false) i = (G.del k).cellN ba cnt i := by
  unfold upd
  by_cases h : i / 5 = k ∧ i < 320
  · obtain ⟨h1, h2⟩ := h
    have hc : i = k * 5 + i % 5 := by omega
    have h5 : i % 5 < 5 := Nat.mod_lt _ (by omega)
    unfold Gr.cellN
    rw [if_pos (show i < 320 from h2), if_pos (show i < 320 from h2), h1]
    unfold Gr.slot Gr.del
    simp only [if_true]
    generalize i % 5 = c at hc h5 ⊢
    subst hc
    match c, h5 with
    | 0, _ => simp
    | 1, _ => simp
    | 2, _ => simp
    | 3, _ => simp
    | 4, _ => simp
  · rw [if_neg (by omega), if_neg (by omega), if_neg (by omega), if_neg (by omega), if_neg (by omega)]
    unfold Gr.cellN
    by_cases h2 : i < 320
    · rw [if_pos h2, if_pos h2]
      unfold Gr.slot Gr.del
      simp only [show ¬ i / 5 = k by omega, if_false]
    · rw [if_neg h2, if_neg h2]; rfl
theorem Gr.del_lst (G : Gr) (k : Nat) (hk : k < 64) (htk : G.tk k = true) (q : Nat) :
    ((if q % 2 = 0 then (G.arc k).t else (G.arc k).h) = (q / 2 : Nat) → pos (G.lst q) (k : Nat) < (G.lst q).length ∧ delA (G.lst q) (pos (G.lst q) (k : Nat)) = (G.del k).lst q) ∧
    (¬ (if q % 2 = 0 then (G.arc k).t else (G.arc k).h) = (q / 2 : Nat) → G.lst q = (G.del k).lst q) := by
  have hq : (G.del k).at q k = false := by unfold Gr.at Gr.del; simp
  have ho : ∀ i, i ≠ k → (G.del k).at q i = G.at q i := fun i hi => by unfold Gr.at Gr.del; simp [hi]
  have e : G.at q k = decide ((if q % 2 = 0 then (G.arc k).t else (G.arc k).h) = (q / 2 : Nat)) := by unfold Gr.at; rw [htk]; simp only [Bool.true_and]
  refine ⟨fun hh => sel_del hk (by rw [e]; exact decide_eq_true hh) hq ho, fun hh => sel_congr fun i _ => ?_⟩
  by_cases e2 : i = k
  · subst e2; rw [hq, e]; exact decide_eq_false hh
  · exact (ho i e2).symm
theorem Gr.del_cnt (G : Gr) (k : Nat) (hk : k < 64) (htk : G.tk k = true) : G.cnt = (G.del k).cnt + 1 := by
  have h := sel_del (p := G.tk) (q := (G.del k).tk) hk htk (by simp [Gr.del]) (fun i hi => by simp [Gr.del, hi])
  unfold Gr.cnt
  rw [← h.2]
  unfold delA
  rw [List.length_append, List.length_take, List.length_drop]
  have := h.1
  omega
theorem GLoc.put_same (L : GLoc) (q g c : Nat) (h1 : L.g q = some g) (h2 : L.c q = c) : L.put q g c = L := by
  have e1 : (fun p => if p = q then some g else L.g p) = L.g := funext fun p => by
    by_cases e : p = q
    · subst e; rw [if_pos rfl, h1]
    · rw [if_neg e]
  have e2 : (fun p => if p = q then c else L.c p) = L.c := funext fun p => by
    by_cases e : p = q
    · subst e; rw [if_pos rfl, h2]
    · rw [if_neg e]
  unfold GLoc.put
  rw [e1, e2]

def ld25 : Op := Op.load 34 (Operand.tmp 24)
def ld50 : Op := Op.load 34 (Operand.tmp 49)

set_option maxRecDepth 100000 in
set_option maxHeartbeats 4000000 in
theorem gdel1_calls {w : World} {L : GLoc} {G : Gr} (h : GMem w L G) (k : Nat) (hk : k < 64) (htk : G.tk k = true) (t hd : Nat) (ht : (G.arc k).t = (t : Nat)) (hh : (G.arc k).h = (hd : Nat)) (c1 c2 : Nat)
    (hc1 : w.cell? ⟨c1, 0, none⟩ = some (.pointer (some ⟨L.b, 0, none⟩))) (hc2 : w.cell? ⟨c2, 0, none⟩ = some (.int .i64 (k : Nat))) (hn1 : ¬ L.own G.n c1) (hn2 : ¬ L.own G.n c2) :
    Calls Tryz.prog 178 #[.pointer (some ⟨L.b, k * 5, none⟩), .pointer (some ⟨c1, 0, none⟩), .pointer (some ⟨c2, 0, none⟩)] w fun e w' => e = .returned (.int .i64 0) ∧ GMem w' L (G.del k) ∧ Fr (L.own G.n) w w' := by
  have hok := h.ok.arc k hk htk
  rw [ht, hh] at hok
  have htn : t < G.n := by omega
  have hhn : hd < G.n := by omega
  have ht2 : (t : Int) < G.n := by omega
  have hh2 : (hd : Int) < G.n := by omega
  have hk2 : (k : Int) < 64 := by omega
  have hnn := h.ok.n2
  have hcb : c1 < w.heap.size ∧ c2 < w.heap.size := ⟨cell_lt hc1, cell_lt hc2⟩
  have c320 : w.cell? ⟨L.b, 320, none⟩ = some (.slice (some ⟨L.ba, 0, none⟩) G.n G.n) := h.blk.cell (i := 320) (by omega)
  have k0 := h.blk.cell (i := k * 5 + 0) (by omega)
  rw [G.slot_cell _ k 0 hk (by omega)] at k0
  simp only [Gr.slot, ht] at k0
  simp at k0
  have k1 := h.blk.cell (i := k * 5 + 1) (by omega)
  rw [G.slot_cell _ k 1 hk (by omega)] at k1
  simp only [Gr.slot, hh] at k1
  simp at k1
  have hL := hid h.lm
  have hbl := h.blk.lt
  have h12 : c1 ≠ L.b ∧ c1 ≠ L.ba ∧ (∀ q j, q < 2 * G.n → L.g q = some j → c1 ≠ j) := ⟨fun e => hn1 (.inl e), fun e => hn1 (.inr (.inl e)), fun q j hq hj e => hn1 (.inr (.inr ⟨q, hq, by rw [hj, e]⟩))⟩
  have h22 : c2 ≠ L.b ∧ c2 ≠ L.ba ∧ (∀ q j, q < 2 * G.n → L.g q = some j → c2 ≠ j) := ⟨fun e => hn2 (.inl e), fun e => hn2 (.inr (.inl e)), fun q j hq hj e => hn2 (.inr (.inr ⟨q, hq, by rw [hj, e]⟩))⟩
  have H1 := hid h12
  have H2 := hid h22
  have HG := hid h
  have hl0 := ((G.del_lst k hk htk (2 * t)).1 (by rw [if_pos (by omega), ht]; omega))
  have hl1 := ((G.del_lst k hk htk (2 * hd + 1)).1 (by rw [if_neg (by omega), hh]; omega))
  have HD := hid (G.del_lst k hk htk)
  have HB := hid h.blk
  clear h h12 h22 hn1 hn2
  -- the arcs that go out
  have hq0 : 2 * t < 2 * G.n := by omega
  have hIL := hL.out.ls (2 * t) hq0
  have cq0 := hL.out.at_.cell (i := 2 * t) hq0
  obtain ⟨g', hg'⟩ : ∃ g', L.g (2 * t) = some g' := by
    cases hg : L.g (2 * t) with
    | none => rw [hg] at hIL; have := hl0.1; rw [hIL.1] at this; simp at this
    | some g => exact ⟨g, rfl⟩
  rw [hg'] at hIL cq0
  obtain ⟨cc, hcc⟩ : ∃ cc, L.c (2 * t) = cc := ⟨_, rfl⟩
  rw [hcc] at hIL cq0
  have hwc := without_list_calls g' (G.lst (2 * t)) cc (k : Nat) w.drew (ILat.fr hIL ((Fr.refl No w).drew) (fun h => h)) (sel_len _) (sel_sorted _) hl0.1
  rw [hl0.2] at hwc
  obtain ⟨lv, hlv⟩ : ∃ lv, ilv (G.lst (2 * t)) cc (some g') = lv := ⟨_, rfl⟩
  rw [hlv] at hwc
  simp only [ilv_some] at hwc
  obtain ⟨m1, hm1⟩ : ∃ m1, ((G.del k).lst (2 * t)).length = m1 := ⟨_, rfl⟩
  rw [hm1] at hwc
  rw [hlv, show 2 * t = t * 2 by omega] at cq0
  have HWC := hid hwc
  clear hwc hIL hlv
  go_enter Tryz.func178, Tryz.ntmps178
  go_wp2_with fail
  have HSS : Hid (∀ w', Fr (fun j => j = L.ba ∨ L.g (2 * t) = some j) w w' → (Fr (fun j => j = L.ba ∨ L.g (2 * t) = some j) w w' ∧ w'.cell? ⟨L.b, 320, none⟩ = some (.slice (some ⟨L.ba, 0, none⟩) G.n G.n) ∧ w'.cell? ⟨L.b, k * 5, none⟩ = some (.int .i64 (t : Nat)) ∧ w'.cell? ⟨c1, 0, none⟩ = some (.pointer (some ⟨L.b, 0, none⟩)) ∧ w'.cell? ⟨c2, 0, none⟩ = some (.int .i64 (k : Nat)))) := hid fun w' hf =>
    ⟨hf, hf.cell_some c320 (fun e => e.elim (fun e => hL.out.ne.1 e) (fun e => (hL.out.ne.2 _ _ hq0 e).1 rfl)), hf.cell_some k0 (fun e => e.elim (fun e => hL.out.ne.1 e) (fun e => (hL.out.ne.2 _ _ hq0 e).1 rfl)),
      hf.cell_some hc1 (fun e => e.elim (fun e => H1.out.2.1 e) (fun e => H1.out.2.2 _ _ hq0 e rfl)), hf.cell_some hc2 (fun e => e.elim (fun e => H2.out.2.1 e) (fun e => H2.out.2.2 _ _ hq0 e rfl))⟩
  rw [show (Op.load 34 (Operand.tmp 24)) = ld25 from rfl]
  (go_loud (go_region_held3 (fun w' => Fr (fun j => j = L.ba ∨ L.g (2 * t) = some j) w w' ∧ w'.cell? ⟨L.b, 320, none⟩ = some (.slice (some ⟨L.ba, 0, none⟩) G.n G.n) ∧ w'.cell? ⟨L.b, k * 5, none⟩ = some (.int .i64 (t : Nat)) ∧ w'.cell? ⟨c1, 0, none⟩ = some (.pointer (some ⟨L.b, 0, none⟩)) ∧ w'.cell? ⟨c2, 0, none⟩ = some (.int .i64 (k : Nat)))
      (first | assumption | exact HSS.out _ (Fr.refl _ _) | exact HSS.out _ ((Fr.refl _ _).drew) | exact HSS.out _ (Fr.setCell (F := fun j => j = L.ba ∨ L.g (2 * t) = some j) (show Fr _ w _ ∧ _ from by assumption).1 (p := ⟨L.ba, _, none⟩) (.inl (.inl rfl)) _))
      (first
        | (go_at_call 179
           refine HWC.out.mono ?_
           rintro e w6 ⟨rfl, h1, h2⟩
           have h2 : Fr (One g') w w6 := ((Fr.refl No w).drew.no).trans h2
           have hfa : Fr (fun j => L.g (2 * t) = some j) w w6 := h2.mono fun i _ (e : i = g') => (by rw [e]; exact hg')
           have hba6 := hL.out.at_.fr hfa (fun e => (hL.out.ne.2 _ _ hq0 e).2 rfl)
           have hz6 := fun i => hba6.frozen i
           have hc6 := hfa.cell_some cq0 (fun e => (hL.out.ne.2 _ _ hq0 e).2 rfl)
           have hk6 := HSS.out _ (hfa.mono fun i _ e => .inr e)
           clear hba6)
        | (unfold ld25; go_simp))))
  have h56 : Fr (fun j => j = L.ba ∨ L.g (2 * t) = some j) w (w6.setCell ⟨L.ba, t * 2, none⟩ (.slice (some ⟨g', 0, none⟩) m1 cc)) := (hfa.mono (fun i _ e => .inr e)).setCell (.inl (.inl rfl)) _
  have hp1 := LMem.put hL.out hq0 hbl h1 (.inl ⟨hg', h2⟩)
  rw [GLoc.put_same L _ _ _ hg' hcc, ilv_some, hm1, show 2 * t = t * 2 by omega] at hp1
  generalize (w6.setCell ⟨L.ba, t * 2, none⟩ (.slice (some ⟨g', 0, none⟩) m1 cc)) = w7 at h56 hp1 ⊢
  obtain ⟨lst1, hlst1⟩ : ∃ lst1, (fun p => if p = t * 2 then (G.del k).lst (t * 2) else G.lst p) = lst1 := ⟨_, rfl⟩
  rw [hlst1] at hp1
  have hL7 := hid hp1
  have d1 := HSS.out _ h56
  have b1 := h56.cell_some k1 (fun e => e.elim (fun e => hL.out.ne.1 e) (fun e => (hL.out.ne.2 _ _ hq0 e).1 rfl))
  have b320 := d1.2.1
  have bc1 := d1.2.2.2.1
  have bc2 := d1.2.2.2.2
  have HB7 := hid (HB.out.fr h56 (fun e => e.elim (fun e => hL.out.ne.1 e) (fun e => (hL.out.ne.2 _ _ hq0 e).1 rfl)))
  have HF7 := hid (show Fr (L.own G.n) w w7 from h56.mono fun i _ e => e.elim (fun e => .inr (.inl e)) (fun e => .inr (.inr ⟨_, hq0, e⟩)))
  have hs7 := h56.size
  have hb7 : L.b < w7.heap.size := by omega
  have hl1s : lst1 (2 * hd + 1) = G.lst (2 * hd + 1) := by rw [← hlst1]; exact if_neg (by omega)
  clear h56 hp1 h1 h2 hfa hz6 hc6 hk6 HSS HWC c320 k0 k1 hc1 hc2 cq0 d1
  -- the arcs that come in
  have hq1 : 2 * hd + 1 < 2 * G.n := by omega
  have hIL := hL7.out.ls (2 * hd + 1) hq1
  have cq0 := hL7.out.at_.cell (i := 2 * hd + 1) hq1
  rw [hl1s] at hIL cq0
  obtain ⟨g2, hg2⟩ : ∃ g2, L.g (2 * hd + 1) = some g2 := by
    cases hg : L.g (2 * hd + 1) with
    | none => rw [hg] at hIL; have := hl1.1; rw [hIL.1] at this; simp at this
    | some g => exact ⟨g, rfl⟩
  rw [hg2] at hIL cq0
  obtain ⟨c9, hc9⟩ : ∃ c9, L.c (2 * hd + 1) = c9 := ⟨_, rfl⟩
  rw [hc9] at hIL cq0
  have hwc := without_list_calls g2 (G.lst (2 * hd + 1)) c9 (k : Nat) w7.drew (ILat.fr hIL ((Fr.refl No w7).drew) (fun h => h)) (sel_len _) (sel_sorted _) hl1.1
  rw [hl1.2] at hwc
  obtain ⟨lv2, hlv⟩ : ∃ lv2, ilv (G.lst (2 * hd + 1)) c9 (some g2) = lv2 := ⟨_, rfl⟩
  rw [hlv] at hwc
  simp only [ilv_some] at hwc
  obtain ⟨m2, hm2⟩ : ∃ m2, ((G.del k).lst (2 * hd + 1)).length = m2 := ⟨_, rfl⟩
  rw [hm2] at hwc
  rw [hlv, show 2 * hd + 1 = hd * 2 + 1 by omega] at cq0
  have HWC := hid hwc
  clear hwc hIL hlv
  go_wp2_with fail
  have HSS : Hid (∀ w', Fr (fun j => j = L.ba ∨ L.g (2 * hd + 1) = some j) w7 w' → (Fr (fun j => j = L.ba ∨ L.g (2 * hd + 1) = some j) w7 w' ∧ w'.cell? ⟨L.b, 320, none⟩ = some (.slice (some ⟨L.ba, 0, none⟩) G.n G.n) ∧ w'.cell? ⟨L.b, k * 5 + 1, none⟩ = some (.int .i64 (hd : Nat)) ∧ w'.cell? ⟨c1, 0, none⟩ = some (.pointer (some ⟨L.b, 0, none⟩)) ∧ w'.cell? ⟨c2, 0, none⟩ = some (.int .i64 (k : Nat)))) := hid fun w' hf =>
    ⟨hf, hf.cell_some b320 (fun e => e.elim (fun e => hL.out.ne.1 e) (fun e => (hL.out.ne.2 _ _ hq1 e).1 rfl)), hf.cell_some b1 (fun e => e.elim (fun e => hL.out.ne.1 e) (fun e => (hL.out.ne.2 _ _ hq1 e).1 rfl)),
      hf.cell_some bc1 (fun e => e.elim (fun e => H1.out.2.1 e) (fun e => H1.out.2.2 _ _ hq1 e rfl)), hf.cell_some bc2 (fun e => e.elim (fun e => H2.out.2.1 e) (fun e => H2.out.2.2 _ _ hq1 e rfl))⟩
  rw [show (Op.load 34 (Operand.tmp 49)) = ld50 from rfl]
  (go_loud (go_region_held3 (fun w' => Fr (fun j => j = L.ba ∨ L.g (2 * hd + 1) = some j) w7 w' ∧ w'.cell? ⟨L.b, 320, none⟩ = some (.slice (some ⟨L.ba, 0, none⟩) G.n G.n) ∧ w'.cell? ⟨L.b, k * 5 + 1, none⟩ = some (.int .i64 (hd : Nat)) ∧ w'.cell? ⟨c1, 0, none⟩ = some (.pointer (some ⟨L.b, 0, none⟩)) ∧ w'.cell? ⟨c2, 0, none⟩ = some (.int .i64 (k : Nat)))
      (first | assumption | exact HSS.out _ (Fr.refl _ _) | exact HSS.out _ ((Fr.refl _ _).drew) | exact HSS.out _ (Fr.setCell (F := fun j => j = L.ba ∨ L.g (2 * hd + 1) = some j) (show Fr _ w7 _ ∧ _ from by assumption).1 (p := ⟨L.ba, _, none⟩) (.inl (.inl rfl)) _))
      (first
        | (go_at_call 179
           refine HWC.out.mono ?_
           rintro e w8 ⟨rfl, h1, h2⟩
           have h2 : Fr (One g2) w7 w8 := ((Fr.refl No w7).drew.no).trans h2
           have hfa : Fr (fun j => L.g (2 * hd + 1) = some j) w7 w8 := h2.mono fun i _ (e : i = g2) => (by rw [e]; exact hg2)
           have hba6 := hL7.out.at_.fr hfa (fun e => (hL.out.ne.2 _ _ hq1 e).2 rfl)
           have hz6 := fun i => hba6.frozen i
           have hc6 := hfa.cell_some cq0 (fun e => (hL.out.ne.2 _ _ hq1 e).2 rfl)
           have hk6 := HSS.out _ (hfa.mono fun i _ e => .inr e)
           clear hba6)
        | (unfold ld50; go_simp))))
  have h56 : Fr (fun j => j = L.ba ∨ L.g (2 * hd + 1) = some j) w7 (w8.setCell ⟨L.ba, hd * 2 + 1, none⟩ (.slice (some ⟨g2, 0, none⟩) m2 c9)) := (hfa.mono (fun i _ e => .inr e)).setCell (.inl (.inl rfl)) _
  have hp1 := LMem.put hL7.out hq1 hb7 h1 (.inl ⟨hg2, h2⟩)
  rw [GLoc.put_same L _ _ _ hg2 hc9, ilv_some, hm2, show 2 * hd + 1 = hd * 2 + 1 by omega] at hp1
  generalize (w8.setCell ⟨L.ba, hd * 2 + 1, none⟩ (.slice (some ⟨g2, 0, none⟩) m2 c9)) = w9 at h56 hp1 ⊢
  have hL9 := hid hp1
  have d1 := HSS.out _ h56
  have a320 := d1.2.1
  have ac1 := d1.2.2.2.1
  have hB9 := HB7.out.fr h56 (fun e => e.elim (fun e => hL.out.ne.1 e) (fun e => (hL.out.ne.2 _ _ hq1 e).1 rfl))
  have HF9 := hid (show Fr (L.own G.n) w w9 from HF7.out.trans (h56.mono fun i _ e => e.elim (fun e => .inr (.inl e)) (fun e => .inr (.inr ⟨_, hq1, e⟩))))
  have hs9 := h56.size
  have z0 := hB9.cell (i := k * 5) (by omega)
  have z1 := hB9.cell (i := k * 5 + 1) (by omega)
  have z2 := hB9.cell (i := k * 5 + 2) (by omega)
  have z3 := hB9.cell (i := k * 5 + 3) (by omega)
  have z4 := hB9.cell (i := k * 5 + 4) (by omega)
  have c321 : w9.cell? ⟨L.b, 321, none⟩ = some (.int .i64 (G.cnt : Nat)) := hB9.cell (i := 321) (by omega)
  have zf := fun i => hB9.frozen i
  have hb9 := hB9.lt
  have HB9 := hid hB9
  have h1b := H1.out.1
  clear h56 hp1 h1 h2 hfa hz6 hc6 hk6 HSS HWC b320 b1 bc1 bc2 cq0 d1 hB9
  have hk5 : k * 5 + 4 < 321 := by omega
  go_wp2_with fail
  have B5 := ((((((HB9.out).setCell (k * 5) (.int .i64 0)).setCell (k * 5 + 1) (.int .i64 0)).setCell (k * 5 + 2) (.int .i64 0)).setCell (k * 5 + 3) (.bool false)).setCell (k * 5 + 4) (.bool false)).congr (fun i _ => G.del_cell L.ba G.cnt k hk i)
  have F5 : Fr (One L.b) w9 (((((w9.setCell ⟨L.b, k * 5, none⟩ (.int .i64 0)).setCell ⟨L.b, k * 5 + 1, none⟩ (.int .i64 0)).setCell ⟨L.b, k * 5 + 2, none⟩ (.int .i64 0)).setCell ⟨L.b, k * 5 + 3, none⟩ (.bool false)).setCell ⟨L.b, k * 5 + 4, none⟩ (.bool false)) := (((((Fr.refl _ _).set1 _ _).set1 _ _).set1 _ _).set1 _ _).set1 _ _
  have hdc := G.del_cnt k hk htk
  have hcl : G.cnt ≤ 64 := sel_len _
  have ew : wrap64 ((G.cnt : Nat) - 1) = (((G.del k).cnt : Nat) : Int) := by
    rw [show ((G.cnt : Nat) : Int) - 1 = (((G.del k).cnt : Nat) : Int) by omega]
    exact IntWalk.wrap64_in _ (by omega)
  rw [ew]
  generalize ((((w9.setCell ⟨L.b, k * 5, none⟩ (.int .i64 0)).setCell ⟨L.b, k * 5 + 1, none⟩ (.int .i64 0)).setCell ⟨L.b, k * 5 + 2, none⟩ (.int .i64 0)).setCell ⟨L.b, k * 5 + 3, none⟩ (.bool false)).setCell ⟨L.b, k * 5 + 4, none⟩ (.bool false) = w10 at B5 F5 ⊢
  go_ret
  have fs : Fr (One L.b) w10 (w10.setCell ⟨L.b, 321, none⟩ (.int .i64 (((G.del k).cnt : Nat) : Int))) := (Fr.refl _ _).set1 _ _
  have f9 := F5.trans fs
  have hg := HG.out
  refine ⟨rfl, LMem.gm ⟨hg.ok.n1, hg.ok.n2, hg.ok.m1, hg.ok.m2, fun i hi htk' => ?_⟩ ?_ ((hL9.out.fr f9 (fun e => hg.ne.1 e.symm) (fun q j hq hj e => (hg.ne.2 q j hq hj).1 e)).congr fun q hq => ?_), HF9.out.trans (f9.mono fun i _ e => .inl e)⟩
  · unfold Gr.del at htk' ⊢
    simp only at htk' ⊢
    by_cases e : i = k
    · simp only [e, if_true] at htk'
      cases htk'
    · simp only [e, if_false] at htk' ⊢
      exact hg.ok.arc i hi htk'
  · refine (B5.setCell 321 _).congr fun i hi => ?_
    rw [Gr.cell_eq]
    unfold upd Gr.cellN
    by_cases e : i = 321
    · subst e; simp
    · simp only [e, if_false]
  · show (if q = hd * 2 + 1 then (G.del k).lst (hd * 2 + 1) else lst1 q) = _
    rw [← hlst1]
    by_cases e2 : q = hd * 2 + 1
    · subst e2
      rw [if_pos rfl]
    · rw [if_neg e2]
      by_cases e1 : q = t * 2
      · subst e1
        exact if_pos rfl
      · refine (if_neg e1).trans ((HD.out q).2 ?_)
        rw [ht, hh]
        split
        · omega
        · omega

end Go.Proofs.YtoepbhacpidcbaaGreatDoor

/- A graph's small changes; walked. -/
set_option linter.unusedVariables false
set_option linter.unusedSimpArgs false
namespace Go.Proofs.YtoepbhacpidcbaaGreatDoor
open Go.RowKit Go.Deep

def Gr.shut (G : Gr) (k : Nat) (c : Bool) : Gr := ⟨G.n, G.most, fun i => if i = k then ⟨(G.arc k).t, (G.arc k).h, (G.arc k).w, c⟩ else G.arc i, G.tk⟩
def Gr.wei (G : Gr) (k : Nat) (x : Int) : Gr := ⟨G.n, G.most, fun i => if i = k then ⟨(G.arc k).t, (G.arc k).h, x, (G.arc k).c⟩ else G.arc i, G.tk⟩
theorem Gr.one_lst (G G' : Gr) (ht : G'.tk = G.tk) (ha : ∀ i, (G'.arc i).t = (G.arc i).t ∧ (G'.arc i).h = (G.arc i).h) (q : Nat) : G'.lst q = G.lst q := by
  unfold Gr.lst
  refine sel_congr fun i _ => ?_
  unfold Gr.at
  rw [ht, (ha i).1, (ha i).2]
theorem Gr.shut_arc (G : Gr) (k : Nat) (c : Bool) (i : Nat) : ((G.shut k c).arc i).t = (G.arc i).t ∧ ((G.shut k c).arc i).h = (G.arc i).h := by
  unfold Gr.shut
  by_cases e : i = k
  · subst e; simp
  · simp [e]
theorem Gr.wei_arc (G : Gr) (k : Nat) (c : Int) (i : Nat) : ((G.wei k c).arc i).t = (G.arc i).t ∧ ((G.wei k c).arc i).h = (G.arc i).h := by
  unfold Gr.wei
  by_cases e : i = k
  · subst e; simp
  · simp [e]
theorem Gr.shut_cell (G : Gr) (ba k : Nat) (c : Bool) (hk : k < 64) (i : Nat) : upd (G.cell ba) (k * 5 + 3) (.bool c) i = (G.shut k c).cell ba i := by
  show upd (G.cellN ba G.cnt) (k * 5 + 3) (.bool c) i = (G.shut k c).cellN ba G.cnt i
  unfold upd
  by_cases h2 : i < 320
  · by_cases h1 : i / 5 = k
    · have hc : i = k * 5 + i % 5 := by omega
      have h5 : i % 5 < 5 := Nat.mod_lt _ (by omega)
      unfold Gr.cellN
      rw [if_pos h2, if_pos h2, h1]
      unfold Gr.slot Gr.shut
      simp only [if_true]
      generalize i % 5 = d at hc h5 ⊢
      subst hc
      match d, h5 with
      | 0, _ => simp
      | 1, _ => simp
      | 2, _ => simp
      | 3, _ => simp
      | 4, _ => simp
    · rw [if_neg (by omega)]
      unfold Gr.cellN
      rw [if_pos h2, if_pos h2]
      unfold Gr.slot Gr.shut
      simp only [h1, if_false]
  · rw [if_neg (by omega)]
    unfold Gr.cellN
    rw [if_neg h2, if_neg h2]; rfl
theorem Gr.wei_cell (G : Gr) (ba k : Nat) (c : Int) (hk : k < 64) (i : Nat) : upd (G.cell ba) (k * 5 + 2) (.int .i64 c) i = (G.wei k c).cell ba i := by
  show upd (G.cellN ba G.cnt) (k * 5 + 2) (.int .i64 c) i = (G.wei k c).cellN ba G.cnt i
  unfold upd
  by_cases h2 : i < 320
  · by_cases h1 : i / 5 = k
    · have hc : i = k * 5 + i % 5 := by omega
      have h5 : i % 5 < 5 := Nat.mod_lt _ (by omega)
      unfold Gr.cellN
      rw [if_pos h2, if_pos h2, h1]
      unfold Gr.slot Gr.wei
      simp only [if_true]
      generalize i % 5 = d at hc h5 ⊢
      subst hc
      match d, h5 with
      | 0, _ => simp
      | 1, _ => simp
      | 2, _ => simp
      | 3, _ => simp
      | 4, _ => simp
    · rw [if_neg (by omega)]
      unfold Gr.cellN
      rw [if_pos h2, if_pos h2]
      unfold Gr.slot Gr.wei
      simp only [h1, if_false]
  · rw [if_neg (by omega)]
    unfold Gr.cellN
    rw [if_neg h2, if_neg h2]; rfl
theorem GMem.shut {w : World} {L : GLoc} {G : Gr} (h : GMem w L G) (k : Nat) (hk : k < 64) (c : Bool) : GMem (w.setCell ⟨L.b, k * 5 + 3, none⟩ (.bool c)) L (G.shut k c) := by
  have fs : Fr (One L.b) w (w.setCell ⟨L.b, k * 5 + 3, none⟩ (.bool c)) := (Fr.refl _ _).set1 _ _
  refine LMem.gm ⟨h.ok.n1, h.ok.n2, h.ok.m1, h.ok.m2, fun i hi ht => ?_⟩ ((h.blk.setCell _ _).congr fun i _ => G.shut_cell L.ba k c hk i) ((h.lm.fr fs (fun e => h.ne.1 e.symm) (fun q j hq hj e => (h.ne.2 q j hq hj).1 e)).congr fun q _ => (Gr.one_lst G (G.shut k c) rfl (G.shut_arc k c) q).symm)
  rw [(G.shut_arc k c i).1, (G.shut_arc k c i).2]
  exact h.ok.arc i hi ht
theorem GMem.wei {w : World} {L : GLoc} {G : Gr} (h : GMem w L G) (k : Nat) (hk : k < 64) (c : Int) : GMem (w.setCell ⟨L.b, k * 5 + 2, none⟩ (.int .i64 c)) L (G.wei k c) := by
  have fs : Fr (One L.b) w (w.setCell ⟨L.b, k * 5 + 2, none⟩ (.int .i64 c)) := (Fr.refl _ _).set1 _ _
  refine LMem.gm ⟨h.ok.n1, h.ok.n2, h.ok.m1, h.ok.m2, fun i hi ht => ?_⟩ ((h.blk.setCell _ _).congr fun i _ => G.wei_cell L.ba k c hk i) ((h.lm.fr fs (fun e => h.ne.1 e.symm) (fun q j hq hj e => (h.ne.2 q j hq hj).1 e)).congr fun q _ => (Gr.one_lst G (G.wei k c) rfl (G.wei_arc k c) q).symm)
  rw [(G.wei_arc k c i).1, (G.wei_arc k c i).2]
  exact h.ok.arc i hi ht

theorem GMem.tkc {w : World} {L : GLoc} {G : Gr} (h : GMem w L G) {k : Nat} (hk : k < 64) : w.cell? ⟨L.b, k * 5 + 4, none⟩ = some (.bool (G.tk k)) := by
  have k4 := h.blk.cell (i := k * 5 + 4) (by omega)
  rw [G.slot_cell _ k 4 hk (by omega)] at k4
  exact k4
theorem GMem.clc {w : World} {L : GLoc} {G : Gr} (h : GMem w L G) {k : Nat} (hk : k < 64) : w.cell? ⟨L.b, k * 5 + 3, none⟩ = some (.bool (G.arc k).c) := by
  have k4 := h.blk.cell (i := k * 5 + 3) (by omega)
  rw [G.slot_cell _ k 3 hk (by omega)] at k4
  exact k4
theorem GMem.wtc {w : World} {L : GLoc} {G : Gr} (h : GMem w L G) {k : Nat} (hk : k < 64) : w.cell? ⟨L.b, k * 5 + 2, none⟩ = some (.int .i64 (G.arc k).w) := by
  have k4 := h.blk.cell (i := k * 5 + 2) (by omega)
  rw [G.slot_cell _ k 2 hk (by omega)] at k4
  exact k4

set_option maxRecDepth 100000 in
set_option maxHeartbeats 1000000 in
theorem turn1_no {w : World} {L : GLoc} {G : Gr} (h : GMem w L G) (k : Nat) (hk : k < 64) (c1 : Nat) (hc1 : w.cell? ⟨c1, 0, none⟩ = some (.bool (G.arc k).c)) :
    Calls Tryz.prog 209 #[.pointer (some ⟨L.b, k * 5, none⟩), .pointer (some ⟨c1, 0, none⟩)] w fun e w' => e = .returned (.int .i64 5) ∧ Fr No w w' := by
  have k3 := h.clc hk
  have k3q : ∀ q, (w.drewN q).cell? ⟨L.b, k * 5 + 3, none⟩ = some (.bool (G.arc k).c) := fun q => by simpa using k3
  go_enter Tryz.func209, Tryz.ntmps209
  go_wp2_with (go_quiet (fail))
  go_ret
  exact ⟨rfl, (Fr.refl No w).drewN _⟩

set_option maxRecDepth 100000 in
set_option maxHeartbeats 1000000 in
theorem turn1_yes {w : World} {L : GLoc} {G : Gr} (h : GMem w L G) (k : Nat) (hk : k < 64) (c1 : Nat) (c : Bool) (hcc : (G.arc k).c ≠ c) (hc1 : w.cell? ⟨c1, 0, none⟩ = some (.bool c)) (hn1 : ¬ L.own G.n c1) :
    Calls Tryz.prog 209 #[.pointer (some ⟨L.b, k * 5, none⟩), .pointer (some ⟨c1, 0, none⟩)] w fun e w' => e = .returned (.int .i64 0) ∧ GMem w' L (G.shut k c) ∧ Fr (L.own G.n) w w' := by
  have k3 := h.clc hk
  have zf := h.blk.frozen (k * 5 + 3)
  have H := hid h
  have hb : ((G.arc k).c == c) = false := by simpa using hcc
  clear h hcc
  go_enter Tryz.func209, Tryz.ntmps209
  go_wp2_with (go_quiet (fail))
  go_ret
  exact ⟨rfl, (H.out.no ((Fr.refl No w).drewN _)).shut k hk c, (((Fr.refl No w).drewN _).no).trans (((Fr.refl _ _).set1 _ _).mono fun i _ e => .inl e)⟩

set_option maxRecDepth 100000 in
set_option maxHeartbeats 1000000 in
theorem weigh1_calls {w : World} {L : GLoc} {G : Gr} (h : GMem w L G) (k : Nat) (hk : k < 64) (c1 : Nat) (x : Int) (hc1 : w.cell? ⟨c1, 0, none⟩ = some (.int .i64 x)) (hn1 : ¬ L.own G.n c1) :
    Calls Tryz.prog 180 #[.pointer (some ⟨L.b, k * 5, none⟩), .pointer (some ⟨c1, 0, none⟩)] w fun e w' => e = .returned (.int .i64 0) ∧ GMem w' L (G.wei k x) ∧ Fr (L.own G.n) w w' := by
  have k3 := h.wtc hk
  have zf := h.blk.frozen (k * 5 + 2)
  have H := hid h
  clear h
  go_enter Tryz.func180, Tryz.ntmps180
  go_wp2
  go_ret
  exact ⟨rfl, H.out.wei k hk x, ((Fr.refl _ _).set1 _ _).mono fun i _ e => .inl e⟩

set_option maxRecDepth 100000 in
set_option maxHeartbeats 1000000 in
theorem gof_arg (g fv : Value) (id : Int) (hid' : ¬ (0 ≤ id ∧ id < 64)) (w : World) :
    Calls Tryz.prog 177 #[g, .int .i64 id, fv] w fun e w' => e = .returned (.int .i64 1) ∧ w = w' := by
  have hp : decide (0 ≤ id ∧ id < 64) = false := decide_eq_false hid'
  go_enter Tryz.func177, Tryz.ntmps177
  go_wp2_with fail
  refine (place_id_calls _ _).mono ?_
  rintro e w1 ⟨rfl, rfl⟩
  rw [hp]
  go_wp2
  go_ret
  exact ⟨rfl, rfl⟩

set_option maxRecDepth 100000 in
set_option maxHeartbeats 1000000 in
theorem gof_free {w : World} {L : GLoc} {G : Gr} (h : GMem w L G) (k : Nat) (hk : k < 64) (htk : G.tk k = false) (fv : Value) :
    Calls Tryz.prog 177 #[.pointer (some ⟨L.b, 0, none⟩), .int .i64 (k : Nat), fv] w fun e w' => e = .returned (.int .i64 3) ∧ w = w' := by
  have hp : decide (0 ≤ (k : Int) ∧ (k : Int) < 64) = true := by simp; omega
  have hk2 : (k : Int) < 64 := by omega
  have k4 := h.tkc hk
  rw [htk] at k4
  clear h
  go_enter Tryz.func177, Tryz.ntmps177
  go_wp2_with fail
  refine (place_id_calls _ _).mono ?_
  rintro e w1 ⟨rfl, rfl⟩
  rw [hp]
  go_wp2
  go_ret
  exact ⟨rfl, rfl⟩

set_option maxRecDepth 100000 in
set_option maxHeartbeats 1000000 in
theorem gof_del {w : World} {L : GLoc} {G : Gr} (h : GMem w L G) (k : Nat) (hk : k < 64) (htk : G.tk k = true) (c1 c2 : Nat) (r : Int) (R : World → Prop)
    (hc : Calls Tryz.prog 178 #[.pointer (some ⟨L.b, k * 5, none⟩), .pointer (some ⟨c1, 0, none⟩), .pointer (some ⟨c2, 0, none⟩)] w fun e w' => e = .returned (.int .i64 r) ∧ R w') :
    Calls Tryz.prog 177 #[.pointer (some ⟨L.b, 0, none⟩), .int .i64 (k : Nat), .func (.func 178) #[] #[.pointer (some ⟨c1, 0, none⟩), .pointer (some ⟨c2, 0, none⟩)]] w fun e w' => e = .returned (.int .i64 r) ∧ R w' := by
  have hp : decide (0 ≤ (k : Int) ∧ (k : Int) < 64) = true := by simp; omega
  have hk2 : (k : Int) < 64 := by omega
  have k4 := h.tkc hk
  rw [htk] at k4
  have HC := hid hc
  clear h hc
  go_enter Tryz.func177, Tryz.ntmps177
  go_wp2_with fail
  refine (place_id_calls _ _).mono ?_
  rintro e w1 ⟨rfl, rfl⟩
  rw [hp]
  go_wp2_with fail
  refine HC.out.mono ?_
  rintro e w2 ⟨rfl, hR⟩
  go_wp2
  go_ret
  exact ⟨rfl, hR⟩

set_option maxRecDepth 100000 in
set_option maxHeartbeats 1000000 in
theorem gof_turn {w : World} {L : GLoc} {G : Gr} (h : GMem w L G) (k : Nat) (hk : k < 64) (htk : G.tk k = true) (c1 : Nat) (r : Int) (R : World → Prop)
    (hc : Calls Tryz.prog 209 #[.pointer (some ⟨L.b, k * 5, none⟩), .pointer (some ⟨c1, 0, none⟩)] w fun e w' => e = .returned (.int .i64 r) ∧ R w') :
    Calls Tryz.prog 177 #[.pointer (some ⟨L.b, 0, none⟩), .int .i64 (k : Nat), .func (.func 209) #[] #[.pointer (some ⟨c1, 0, none⟩)]] w fun e w' => e = .returned (.int .i64 r) ∧ R w' := by
  have hp : decide (0 ≤ (k : Int) ∧ (k : Int) < 64) = true := by simp; omega
  have hk2 : (k : Int) < 64 := by omega
  have k4 := h.tkc hk
  rw [htk] at k4
  have HC := hid hc
  clear h hc
  go_enter Tryz.func177, Tryz.ntmps177
  go_wp2_with fail
  refine (place_id_calls _ _).mono ?_
  rintro e w1 ⟨rfl, rfl⟩
  rw [hp]
  go_wp2_with fail
  refine HC.out.mono ?_
  rintro e w2 ⟨rfl, hR⟩
  go_wp2
  go_ret
  exact ⟨rfl, hR⟩

set_option maxRecDepth 100000 in
set_option maxHeartbeats 1000000 in
theorem gof_wei {w : World} {L : GLoc} {G : Gr} (h : GMem w L G) (k : Nat) (hk : k < 64) (htk : G.tk k = true) (c1 : Nat) (r : Int) (R : World → Prop)
    (hc : Calls Tryz.prog 180 #[.pointer (some ⟨L.b, k * 5, none⟩), .pointer (some ⟨c1, 0, none⟩)] w fun e w' => e = .returned (.int .i64 r) ∧ R w') :
    Calls Tryz.prog 177 #[.pointer (some ⟨L.b, 0, none⟩), .int .i64 (k : Nat), .func (.func 180) #[] #[.pointer (some ⟨c1, 0, none⟩)]] w fun e w' => e = .returned (.int .i64 r) ∧ R w' := by
  have hp : decide (0 ≤ (k : Int) ∧ (k : Int) < 64) = true := by simp; omega
  have hk2 : (k : Int) < 64 := by omega
  have k4 := h.tkc hk
  rw [htk] at k4
  have HC := hid hc
  clear h hc
  go_enter Tryz.func177, Tryz.ntmps177
  go_wp2_with fail
  refine (place_id_calls _ _).mono ?_
  rintro e w1 ⟨rfl, rfl⟩
  rw [hp]
  go_wp2_with fail
  refine HC.out.mono ?_
  rintro e w2 ⟨rfl, hR⟩
  go_wp2
  go_ret
  exact ⟨rfl, hR⟩

def Gr.code (G : Gr) (id : Int) : Int := if 0 ≤ id ∧ id < 64 then (if G.tk id.toNat then 0 else 3) else 1
def Gr.rm (G : Gr) (id : Int) : Gr := if G.code id = 0 then G.del id.toNat else G
def Gr.tcode (G : Gr) (id : Int) (c : Bool) : Int := if G.code id = 0 then (if (G.arc id.toNat).c = c then 5 else 0) else G.code id
def Gr.tn (G : Gr) (id : Int) (c : Bool) : Gr := if G.tcode id c = 0 then G.shut id.toNat c else G
def Gr.wcode (G : Gr) (id x : Int) : Int := if 1 ≤ x ∧ x ≤ 4611686018427387904 then G.code id else 1
def Gr.wt (G : Gr) (id x : Int) : Gr := if G.wcode id x = 0 then G.wei id.toNat x else G
def Gr.okA (G : Gr) (a : Arc4) : Prop := (0 ≤ a.t ∧ a.t < G.n) ∧ (0 ≤ a.h ∧ a.h < G.n) ∧ (1 ≤ a.w ∧ a.w ≤ 4611686018427387904)
instance (G : Gr) (a : Arc4) : Decidable (G.okA a) := by unfold Gr.okA; exact inferInstance
def Gr.icode (G : Gr) (id : Int) (a : Arc4) : Int := if (0 ≤ id ∧ id < 64) ∧ G.okA a then (if G.tk id.toNat then 4 else 0) else 1
def Gr.put (G : Gr) (id : Int) (a : Arc4) : Gr := if G.icode id a = 0 then G.ins id.toNat a else G

theorem Gr.code_cases (G : Gr) (id : Int) : (G.code id = 1 ∧ ¬ (0 ≤ id ∧ id < 64)) ∨ (∃ k : Nat, id = k ∧ k < 64 ∧ G.tk k = false ∧ G.code id = 3) ∨ (∃ k : Nat, id = k ∧ k < 64 ∧ G.tk k = true ∧ G.code id = 0) := by
  unfold Gr.code
  by_cases h : 0 ≤ id ∧ id < 64
  · rw [if_pos h]
    refine .inr ?_
    cases e : G.tk id.toNat with
    | false => exact .inl ⟨id.toNat, by omega, by omega, e, by simp⟩
    | true => exact .inr ⟨id.toNat, by omega, by omega, e, by simp⟩
  · rw [if_neg h]
    exact .inl ⟨rfl, h⟩

set_option maxRecDepth 100000 in
set_option maxHeartbeats 1000000 in
theorem gdelete_calls {w : World} {L : GLoc} {G : Gr} (h : GMem w L G) (id : Int) :
    Calls Tryz.prog 123 #[.pointer (some ⟨L.b, 0, none⟩), .int .i64 id] w fun e w' => e = .returned (.int .i64 (G.code id)) ∧ GMem w' L (G.rm id) ∧ Fr (L.own G.n) w w' := by
  have fW : Fr No w ((w.alloc (.cells #[.pointer (some ⟨L.b, 0, none⟩)] 30)).alloc (.cells #[.int .i64 id] 3)) := ((Fr.refl _ _).alloc _).alloc _
  have HC : Hid (Calls Tryz.prog 177 #[.pointer (some ⟨L.b, 0, none⟩), .int .i64 id, .func (.func 178) #[] #[.pointer (some ⟨w.heap.size, 0, none⟩), .pointer (some ⟨w.heap.size + 1, 0, none⟩)]] ((w.alloc (.cells #[.pointer (some ⟨L.b, 0, none⟩)] 30)).alloc (.cells #[.int .i64 id] 3)) fun e w' => e = .returned (.int .i64 (G.code id)) ∧ GMem w' L (G.rm id) ∧ Fr (L.own G.n) w w') := hid (by
    have hW := h.no fW
    rcases G.code_cases id with ⟨e, h1⟩ | ⟨k, rfl, hk, htk, e⟩ | ⟨k, rfl, hk, htk, e⟩
    · refine (gof_arg _ _ id h1 _).mono ?_
      rintro e2 w' ⟨rfl, rfl⟩
      exact ⟨by rw [e], by rw [show G.rm id = G from by unfold Gr.rm; rw [e]; rfl]; exact hW, fW.no⟩
    · refine (gof_free hW k hk htk _).mono ?_
      rintro e2 w' ⟨rfl, rfl⟩
      exact ⟨by rw [e], by rw [show G.rm k = G from by unfold Gr.rm; rw [e]; rfl]; exact hW, fW.no⟩
    · have hok := h.ok.arc k hk htk
      rw [e, show G.rm k = G.del k from by unfold Gr.rm; rw [e]; rfl]
      refine gof_del hW k hk htk _ _ 0 (fun w' => GMem w' L (G.del k) ∧ Fr (L.own G.n) w w') ((gdel1_calls hW k hk htk (G.arc k).t.toNat (G.arc k).h.toNat (by omega) (by omega) _ _ ?_ ?_ ?_ ?_).mono ?_)
      · simp [go_sem]
      · simp [go_sem]
      · exact fun hh => by have := h.own_lt hh; omega
      · exact fun hh => by have := h.own_lt hh; omega
      · rintro e2 w' ⟨rfl, h1, h2⟩
        exact ⟨rfl, h1, fW.no.trans' h2 (fun i _ hi => hi)⟩)
  clear fW h
  go_enter Tryz.func123, Tryz.ntmps123
  go_wp2_with fail
  refine HC.out.mono ?_
  rintro e w2 ⟨rfl, hR⟩
  go_wp2
  go_ret
  exact ⟨rfl, hR⟩

set_option maxRecDepth 100000 in
set_option maxHeartbeats 1000000 in
theorem gturn_calls {w : World} {L : GLoc} {G : Gr} (h : GMem w L G) (id : Int) (c : Bool) :
    Calls Tryz.prog 168 #[.pointer (some ⟨L.b, 0, none⟩), .int .i64 id, .bool c] w fun e w' => e = .returned (.int .i64 (G.tcode id c)) ∧ GMem w' L (G.tn id c) ∧ Fr (L.own G.n) w w' := by
  have fW : Fr No w (w.alloc (.cells #[.bool c] 4)) := ((Fr.refl _ _).alloc _)
  have HC : Hid (Calls Tryz.prog 177 #[.pointer (some ⟨L.b, 0, none⟩), .int .i64 id, .func (.func 209) #[] #[.pointer (some ⟨w.heap.size, 0, none⟩)]] (w.alloc (.cells #[.bool c] 4)) fun e w' => e = .returned (.int .i64 (G.tcode id c)) ∧ GMem w' L (G.tn id c) ∧ Fr (L.own G.n) w w') := hid (by
    have hW := h.no fW
    rcases G.code_cases id with ⟨e, h1⟩ | ⟨k, rfl, hk, htk, e⟩ | ⟨k, rfl, hk, htk, e⟩
    · refine (gof_arg _ _ id h1 _).mono ?_
      rintro e2 w' ⟨rfl, rfl⟩
      have ec : G.tcode id c = 1 := by unfold Gr.tcode; rw [e]; rfl
      exact ⟨by rw [ec], by rw [show G.tn id c = G from by unfold Gr.tn; rw [ec]; rfl]; exact hW, fW.no⟩
    · refine (gof_free hW k hk htk _).mono ?_
      rintro e2 w' ⟨rfl, rfl⟩
      have ec : G.tcode k c = 3 := by unfold Gr.tcode; rw [e]; rfl
      exact ⟨by rw [ec], by rw [show G.tn k c = G from by unfold Gr.tn; rw [ec]; rfl]; exact hW, fW.no⟩
    · by_cases hcc : (G.arc k).c = c
      · have ec : G.tcode k c = 5 := by unfold Gr.tcode; rw [e, if_pos rfl]; exact if_pos hcc
        rw [ec, show G.tn k c = G from by unfold Gr.tn; rw [ec]; rfl]
        refine gof_turn hW k hk htk _ 5 (fun w' => GMem w' L G ∧ Fr (L.own G.n) w w') ((turn1_no hW k hk _ ?_).mono ?_)
        · rw [hcc]; simp [go_sem]
        · rintro e2 w' ⟨rfl, h1⟩
          exact ⟨rfl, hW.no h1, (fW.trans h1).no⟩
      · have ec : G.tcode k c = 0 := by unfold Gr.tcode; rw [e, if_pos rfl]; exact if_neg hcc
        rw [ec, show G.tn k c = G.shut k c from by unfold Gr.tn; rw [ec]; rfl]
        refine gof_turn hW k hk htk _ 0 (fun w' => GMem w' L (G.shut k c) ∧ Fr (L.own G.n) w w') ((turn1_yes hW k hk _ c hcc ?_ ?_).mono ?_)
        · simp [go_sem]
        · exact fun hh => by have := h.own_lt hh; omega
        · rintro e2 w' ⟨rfl, h1, h2⟩
          exact ⟨rfl, h1, fW.no.trans' h2 (fun i _ hi => hi)⟩)
  clear fW h
  go_enter Tryz.func168, Tryz.ntmps168
  go_wp2_with fail
  refine HC.out.mono ?_
  rintro e w2 ⟨rfl, hR⟩
  go_wp2
  go_ret
  exact ⟨rfl, hR⟩

set_option maxRecDepth 100000 in
set_option maxHeartbeats 1000000 in
theorem gclose_calls {w : World} {L : GLoc} {G : Gr} (h : GMem w L G) (id : Int) :
    Calls Tryz.prog 95 #[.pointer (some ⟨L.b, 0, none⟩), .int .i64 id] w fun e w' => e = .returned (.int .i64 (G.tcode id true)) ∧ GMem w' L (G.tn id true) ∧ Fr (L.own G.n) w w' := by
  have HC := hid (gturn_calls h id true)
  clear h
  go_enter Tryz.func95, Tryz.ntmps95
  go_wp2_with fail
  refine HC.out.mono ?_
  rintro e w2 ⟨rfl, hR⟩
  go_wp2
  go_ret
  exact ⟨rfl, hR⟩

set_option maxRecDepth 100000 in
set_option maxHeartbeats 1000000 in
theorem greopen_calls {w : World} {L : GLoc} {G : Gr} (h : GMem w L G) (id : Int) :
    Calls Tryz.prog 96 #[.pointer (some ⟨L.b, 0, none⟩), .int .i64 id] w fun e w' => e = .returned (.int .i64 (G.tcode id false)) ∧ GMem w' L (G.tn id false) ∧ Fr (L.own G.n) w w' := by
  have HC := hid (gturn_calls h id false)
  clear h
  go_enter Tryz.func96, Tryz.ntmps96
  go_wp2_with fail
  refine HC.out.mono ?_
  rintro e w2 ⟨rfl, hR⟩
  go_wp2
  go_ret
  exact ⟨rfl, hR⟩

set_option maxRecDepth 100000 in
set_option maxHeartbeats 1000000 in
theorem gweigh_calls {w : World} {L : GLoc} {G : Gr} (h : GMem w L G) (id x : Int) :
    Calls Tryz.prog 124 #[.pointer (some ⟨L.b, 0, none⟩), .int .i64 id, .int .i64 x] w fun e w' => e = .returned (.int .i64 (G.wcode id x)) ∧ GMem w' L (G.wt id x) ∧ Fr (L.own G.n) w w' := by
  have fW : Fr No w (w.alloc (.cells #[.int .i64 x] 3)) := ((Fr.refl _ _).alloc _)
  have c1 : (w.alloc (.cells #[.int .i64 x] 3)).cell? ⟨w.heap.size, 0, none⟩ = some (.int .i64 x) := by simp [go_sem]
  by_cases hx : 1 ≤ x ∧ x ≤ 4611686018427387904
  · have hxd : decide (1 ≤ x ∧ x ≤ 4611686018427387904) = true := decide_eq_true hx
    have HC : Hid (Calls Tryz.prog 177 #[.pointer (some ⟨L.b, 0, none⟩), .int .i64 id, .func (.func 180) #[] #[.pointer (some ⟨w.heap.size, 0, none⟩)]] (w.alloc (.cells #[.int .i64 x] 3)) fun e w' => e = .returned (.int .i64 (G.wcode id x)) ∧ GMem w' L (G.wt id x) ∧ Fr (L.own G.n) w w') := hid (by
      have hW := h.no fW
      rcases G.code_cases id with ⟨e, h1⟩ | ⟨k, rfl, hk, htk, e⟩ | ⟨k, rfl, hk, htk, e⟩
      · refine (gof_arg _ _ id h1 _).mono ?_
        rintro e2 w' ⟨rfl, rfl⟩
        have ec : G.wcode id x = 1 := by unfold Gr.wcode; rw [if_pos hx, e]
        exact ⟨by rw [ec], by rw [show G.wt id x = G from by unfold Gr.wt; rw [ec]; rfl]; exact hW, fW.no⟩
      · refine (gof_free hW k hk htk _).mono ?_
        rintro e2 w' ⟨rfl, rfl⟩
        have ec : G.wcode k x = 3 := by unfold Gr.wcode; rw [if_pos hx, e]
        exact ⟨by rw [ec], by rw [show G.wt k x = G from by unfold Gr.wt; rw [ec]; rfl]; exact hW, fW.no⟩
      · have ec : G.wcode k x = 0 := by unfold Gr.wcode; rw [if_pos hx, e]
        rw [ec, show G.wt k x = G.wei k x from by unfold Gr.wt; rw [ec]; rfl]
        refine gof_wei hW k hk htk _ 0 (fun w' => GMem w' L (G.wei k x) ∧ Fr (L.own G.n) w w') ((weigh1_calls hW k hk _ x c1 ?_).mono ?_)
        · exact fun hh => by have := h.own_lt hh; omega
        · rintro e2 w' ⟨rfl, h1, h2⟩
          exact ⟨rfl, h1, fW.no.trans' h2 (fun i _ hi => hi)⟩)
    clear fW h hx
    go_enter Tryz.func124, Tryz.ntmps124
    go_wp2_with fail
    refine (weight_calls x _).mono ?_
    rintro e w1 ⟨rfl, rfl⟩
    rw [hxd]
    go_wp2_with fail
    refine HC.out.mono ?_
    rintro e w2 ⟨rfl, hR⟩
    go_wp2
    go_ret
    exact ⟨rfl, hR⟩
  · have hxd : decide (1 ≤ x ∧ x ≤ 4611686018427387904) = false := decide_eq_false hx
    have ec : G.wcode id x = 1 := by unfold Gr.wcode; rw [if_neg hx]
    have hR := hid (show GMem (w.alloc (.cells #[.int .i64 x] 3)) L G ∧ Fr (L.own G.n) w (w.alloc (.cells #[.int .i64 x] 3)) from ⟨h.no fW, fW.no⟩)
    rw [ec, show G.wt id x = G from by unfold Gr.wt; rw [ec]; rfl]
    clear fW h hx ec
    go_enter Tryz.func124, Tryz.ntmps124
    go_wp2_with fail
    refine (weight_calls x _).mono ?_
    rintro e w1 ⟨rfl, rfl⟩
    rw [hxd]
    go_wp2
    go_ret
    exact ⟨rfl, hR.out⟩

end Go.Proofs.YtoepbhacpidcbaaGreatDoor

/- Refusals of an insertion; a change of a graph; walked. -/
set_option linter.unusedVariables false
set_option linter.unusedSimpArgs false
namespace Go.Proofs.YtoepbhacpidcbaaGreatDoor
open Go.RowKit Go.Deep

set_option maxRecDepth 100000 in
set_option maxHeartbeats 2000000 in
theorem gins_n0 {w : World} {L : GLoc} {G : Gr} (h : GMem w L G) (id : Int) (a : Arc4) (h0 : ¬ (0 ≤ id ∧ id < 64)) :
    Calls Tryz.prog 55 #[.pointer (some ⟨L.b, 0, none⟩), .int .i64 id, .agg #[.int .i64 a.t, .int .i64 a.h, .int .i64 a.w, .bool a.c]] w fun e w' => e = .returned (.int .i64 1) ∧ Fr No w w' := by
  have hn2 := h.ok.n2
  have d0 : decide (0 ≤ id ∧ id < 64) = false := decide_eq_false h0
  have f0 : Fr No w (w.alloc (.cells #[.int .i64 a.t, .int .i64 a.h, .int .i64 a.w, .bool a.c] 49)) := (Fr.refl No w).alloc _
  have hA := heap_new w (.cells #[.int .i64 a.t, .int .i64 a.h, .int .i64 a.w, .bool a.c] 49)
  have c320 : (w.alloc (.cells #[.int .i64 a.t, .int .i64 a.h, .int .i64 a.w, .bool a.c] 49)).cell? ⟨L.b, 320, none⟩ = some (.slice (some ⟨L.ba, 0, none⟩) G.n G.n) := (h.no f0).blk.cell (i := 320) (by omega)
  have a0 := cell_of hA 0
  have a1 := cell_of hA 1
  have a2 := cell_of hA 2
  have F0 := hid f0
  clear h f0
  go_enter Tryz.func55, Tryz.ntmps55
  go_wp2_with fail
  refine (place_id_calls _ _).mono ?_
  rintro e w1 ⟨rfl, rfl⟩
  rw [d0]
  obtain ⟨W0, hW0⟩ : ∃ W0, w.alloc (.cells #[.int .i64 a.t, .int .i64 a.h, .int .i64 a.w, .bool a.c] 49) = W0 := ⟨_, rfl⟩
  rw [hW0] at F0 c320 a0 a1 a2  ⊢
  clear hA hW0
  simp at a0 a1 a2
  go_wp2
  go_ret
  exact ⟨rfl, F0.out⟩

set_option maxRecDepth 100000 in
set_option maxHeartbeats 2000000 in
theorem gins_n1 {w : World} {L : GLoc} {G : Gr} (h : GMem w L G) (id : Int) (a : Arc4) (h0 : (0 ≤ id ∧ id < 64)) (h1 : ¬ (0 ≤ a.t ∧ a.t < G.n)) :
    Calls Tryz.prog 55 #[.pointer (some ⟨L.b, 0, none⟩), .int .i64 id, .agg #[.int .i64 a.t, .int .i64 a.h, .int .i64 a.w, .bool a.c]] w fun e w' => e = .returned (.int .i64 1) ∧ Fr No w w' := by
  have hn2 := h.ok.n2
  have d0 : decide (0 ≤ id ∧ id < 64) = true := decide_eq_true h0
  have d1 : decide (0 ≤ a.t ∧ a.t < G.n) = false := decide_eq_false h1
  have f0 : Fr No w (w.alloc (.cells #[.int .i64 a.t, .int .i64 a.h, .int .i64 a.w, .bool a.c] 49)) := (Fr.refl No w).alloc _
  have hA := heap_new w (.cells #[.int .i64 a.t, .int .i64 a.h, .int .i64 a.w, .bool a.c] 49)
  have c320 : (w.alloc (.cells #[.int .i64 a.t, .int .i64 a.h, .int .i64 a.w, .bool a.c] 49)).cell? ⟨L.b, 320, none⟩ = some (.slice (some ⟨L.ba, 0, none⟩) G.n G.n) := (h.no f0).blk.cell (i := 320) (by omega)
  have a0 := cell_of hA 0
  have a1 := cell_of hA 1
  have a2 := cell_of hA 2
  have F0 := hid f0
  clear h f0
  go_enter Tryz.func55, Tryz.ntmps55
  go_wp2_with fail
  refine (place_id_calls _ _).mono ?_
  rintro e w1 ⟨rfl, rfl⟩
  rw [d0]
  obtain ⟨W0, hW0⟩ : ∃ W0, w.alloc (.cells #[.int .i64 a.t, .int .i64 a.h, .int .i64 a.w, .bool a.c] 49) = W0 := ⟨_, rfl⟩
  rw [hW0] at F0 c320 a0 a1 a2  ⊢
  clear hA hW0
  simp at a0 a1 a2
  go_wp2_with fail
  refine (vertex_calls a.t c320 (by omega)).mono ?_
  rintro e w1 ⟨rfl, hf⟩
  rw [d1]
  have F1 := hid (F0.out.trans hf)
  replace c320 := hf.cell_some c320 (fun h => h)
  replace a0 := hf.cell_some a0 (fun h => h)
  replace a1 := hf.cell_some a1 (fun h => h)
  replace a2 := hf.cell_some a2 (fun h => h)
  clear hf
  go_wp2
  go_ret
  exact ⟨rfl, F1.out⟩

set_option maxRecDepth 100000 in
set_option maxHeartbeats 2000000 in
theorem gins_n2 {w : World} {L : GLoc} {G : Gr} (h : GMem w L G) (id : Int) (a : Arc4) (h0 : (0 ≤ id ∧ id < 64)) (h1 : (0 ≤ a.t ∧ a.t < G.n)) (h2 : ¬ (0 ≤ a.h ∧ a.h < G.n)) :
    Calls Tryz.prog 55 #[.pointer (some ⟨L.b, 0, none⟩), .int .i64 id, .agg #[.int .i64 a.t, .int .i64 a.h, .int .i64 a.w, .bool a.c]] w fun e w' => e = .returned (.int .i64 1) ∧ Fr No w w' := by
  have hn2 := h.ok.n2
  have d0 : decide (0 ≤ id ∧ id < 64) = true := decide_eq_true h0
  have d1 : decide (0 ≤ a.t ∧ a.t < G.n) = true := decide_eq_true h1
  have d2 : decide (0 ≤ a.h ∧ a.h < G.n) = false := decide_eq_false h2
  have f0 : Fr No w (w.alloc (.cells #[.int .i64 a.t, .int .i64 a.h, .int .i64 a.w, .bool a.c] 49)) := (Fr.refl No w).alloc _
  have hA := heap_new w (.cells #[.int .i64 a.t, .int .i64 a.h, .int .i64 a.w, .bool a.c] 49)
  have c320 : (w.alloc (.cells #[.int .i64 a.t, .int .i64 a.h, .int .i64 a.w, .bool a.c] 49)).cell? ⟨L.b, 320, none⟩ = some (.slice (some ⟨L.ba, 0, none⟩) G.n G.n) := (h.no f0).blk.cell (i := 320) (by omega)
  have a0 := cell_of hA 0
  have a1 := cell_of hA 1
  have a2 := cell_of hA 2
  have F0 := hid f0
  clear h f0
  go_enter Tryz.func55, Tryz.ntmps55
  go_wp2_with fail
  refine (place_id_calls _ _).mono ?_
  rintro e w1 ⟨rfl, rfl⟩
  rw [d0]
  obtain ⟨W0, hW0⟩ : ∃ W0, w.alloc (.cells #[.int .i64 a.t, .int .i64 a.h, .int .i64 a.w, .bool a.c] 49) = W0 := ⟨_, rfl⟩
  rw [hW0] at F0 c320 a0 a1 a2  ⊢
  clear hA hW0
  simp at a0 a1 a2
  go_wp2_with fail
  refine (vertex_calls a.t c320 (by omega)).mono ?_
  rintro e w1 ⟨rfl, hf⟩
  rw [d1]
  have F1 := hid (F0.out.trans hf)
  replace c320 := hf.cell_some c320 (fun h => h)
  replace a0 := hf.cell_some a0 (fun h => h)
  replace a1 := hf.cell_some a1 (fun h => h)
  replace a2 := hf.cell_some a2 (fun h => h)
  clear hf
  go_wp2_with fail
  refine (vertex_calls a.h c320 (by omega)).mono ?_
  rintro e w2 ⟨rfl, hf⟩
  rw [d2]
  have F2 := hid (F1.out.trans hf)
  replace c320 := hf.cell_some c320 (fun h => h)
  replace a0 := hf.cell_some a0 (fun h => h)
  replace a1 := hf.cell_some a1 (fun h => h)
  replace a2 := hf.cell_some a2 (fun h => h)
  clear hf
  go_wp2
  go_ret
  exact ⟨rfl, F2.out⟩

set_option maxRecDepth 100000 in
set_option maxHeartbeats 2000000 in
theorem gins_n3 {w : World} {L : GLoc} {G : Gr} (h : GMem w L G) (id : Int) (a : Arc4) (h0 : (0 ≤ id ∧ id < 64)) (h1 : (0 ≤ a.t ∧ a.t < G.n)) (h2 : (0 ≤ a.h ∧ a.h < G.n)) (h3 : ¬ (1 ≤ a.w ∧ a.w ≤ 4611686018427387904)) :
    Calls Tryz.prog 55 #[.pointer (some ⟨L.b, 0, none⟩), .int .i64 id, .agg #[.int .i64 a.t, .int .i64 a.h, .int .i64 a.w, .bool a.c]] w fun e w' => e = .returned (.int .i64 1) ∧ Fr No w w' := by
  have hn2 := h.ok.n2
  have d0 : decide (0 ≤ id ∧ id < 64) = true := decide_eq_true h0
  have d1 : decide (0 ≤ a.t ∧ a.t < G.n) = true := decide_eq_true h1
  have d2 : decide (0 ≤ a.h ∧ a.h < G.n) = true := decide_eq_true h2
  have d3 : decide (1 ≤ a.w ∧ a.w ≤ 4611686018427387904) = false := decide_eq_false h3
  have f0 : Fr No w (w.alloc (.cells #[.int .i64 a.t, .int .i64 a.h, .int .i64 a.w, .bool a.c] 49)) := (Fr.refl No w).alloc _
  have hA := heap_new w (.cells #[.int .i64 a.t, .int .i64 a.h, .int .i64 a.w, .bool a.c] 49)
  have c320 : (w.alloc (.cells #[.int .i64 a.t, .int .i64 a.h, .int .i64 a.w, .bool a.c] 49)).cell? ⟨L.b, 320, none⟩ = some (.slice (some ⟨L.ba, 0, none⟩) G.n G.n) := (h.no f0).blk.cell (i := 320) (by omega)
  have a0 := cell_of hA 0
  have a1 := cell_of hA 1
  have a2 := cell_of hA 2
  have F0 := hid f0
  clear h f0
  go_enter Tryz.func55, Tryz.ntmps55
  go_wp2_with fail
  refine (place_id_calls _ _).mono ?_
  rintro e w1 ⟨rfl, rfl⟩
  rw [d0]
  obtain ⟨W0, hW0⟩ : ∃ W0, w.alloc (.cells #[.int .i64 a.t, .int .i64 a.h, .int .i64 a.w, .bool a.c] 49) = W0 := ⟨_, rfl⟩
  rw [hW0] at F0 c320 a0 a1 a2  ⊢
  clear hA hW0
  simp at a0 a1 a2
  go_wp2_with fail
  refine (vertex_calls a.t c320 (by omega)).mono ?_
  rintro e w1 ⟨rfl, hf⟩
  rw [d1]
  have F1 := hid (F0.out.trans hf)
  replace c320 := hf.cell_some c320 (fun h => h)
  replace a0 := hf.cell_some a0 (fun h => h)
  replace a1 := hf.cell_some a1 (fun h => h)
  replace a2 := hf.cell_some a2 (fun h => h)
  clear hf
  go_wp2_with fail
  refine (vertex_calls a.h c320 (by omega)).mono ?_
  rintro e w2 ⟨rfl, hf⟩
  rw [d2]
  have F2 := hid (F1.out.trans hf)
  replace c320 := hf.cell_some c320 (fun h => h)
  replace a0 := hf.cell_some a0 (fun h => h)
  replace a1 := hf.cell_some a1 (fun h => h)
  replace a2 := hf.cell_some a2 (fun h => h)
  clear hf
  go_wp2_with fail
  refine (weight_calls a.w _).mono ?_
  rintro e w3 ⟨rfl, rfl⟩
  rw [d3]
  go_wp2
  go_ret
  exact ⟨rfl, F2.out⟩

set_option maxRecDepth 100000 in
set_option maxHeartbeats 2000000 in
theorem gins_n4 {w : World} {L : GLoc} {G : Gr} (h : GMem w L G) (id : Int) (a : Arc4) (h0 : (0 ≤ id ∧ id < 64)) (h1 : (0 ≤ a.t ∧ a.t < G.n)) (h2 : (0 ≤ a.h ∧ a.h < G.n)) (h3 : (1 ≤ a.w ∧ a.w ≤ 4611686018427387904)) (htk : G.tk id.toNat = true) :
    Calls Tryz.prog 55 #[.pointer (some ⟨L.b, 0, none⟩), .int .i64 id, .agg #[.int .i64 a.t, .int .i64 a.h, .int .i64 a.w, .bool a.c]] w fun e w' => e = .returned (.int .i64 4) ∧ Fr No w w' := by
  have hn2 := h.ok.n2
  have d0 : decide (0 ≤ id ∧ id < 64) = true := decide_eq_true h0
  have d1 : decide (0 ≤ a.t ∧ a.t < G.n) = true := decide_eq_true h1
  have d2 : decide (0 ≤ a.h ∧ a.h < G.n) = true := decide_eq_true h2
  have d3 : decide (1 ≤ a.w ∧ a.w ≤ 4611686018427387904) = true := decide_eq_true h3
  have hk : id.toNat < 64 := by omega
  have htc := h.tkc hk
  rw [htk] at htc
  have h01 := h0.1
  have h02 := h0.2
  have f0 : Fr No w (w.alloc (.cells #[.int .i64 a.t, .int .i64 a.h, .int .i64 a.w, .bool a.c] 49)) := (Fr.refl No w).alloc _
  have hA := heap_new w (.cells #[.int .i64 a.t, .int .i64 a.h, .int .i64 a.w, .bool a.c] 49)
  have c320 : (w.alloc (.cells #[.int .i64 a.t, .int .i64 a.h, .int .i64 a.w, .bool a.c] 49)).cell? ⟨L.b, 320, none⟩ = some (.slice (some ⟨L.ba, 0, none⟩) G.n G.n) := (h.no f0).blk.cell (i := 320) (by omega)
  have ctk := f0.cell_some htc (fun h => h)
  have a0 := cell_of hA 0
  have a1 := cell_of hA 1
  have a2 := cell_of hA 2
  have F0 := hid f0
  clear htc
  clear h f0
  go_enter Tryz.func55, Tryz.ntmps55
  go_wp2_with fail
  refine (place_id_calls _ _).mono ?_
  rintro e w1 ⟨rfl, rfl⟩
  rw [d0]
  obtain ⟨W0, hW0⟩ : ∃ W0, w.alloc (.cells #[.int .i64 a.t, .int .i64 a.h, .int .i64 a.w, .bool a.c] 49) = W0 := ⟨_, rfl⟩
  rw [hW0] at F0 c320 a0 a1 a2 ctk ⊢
  clear hA hW0
  simp at a0 a1 a2
  go_wp2_with fail
  refine (vertex_calls a.t c320 (by omega)).mono ?_
  rintro e w1 ⟨rfl, hf⟩
  rw [d1]
  have F1 := hid (F0.out.trans hf)
  replace c320 := hf.cell_some c320 (fun h => h)
  replace a0 := hf.cell_some a0 (fun h => h)
  replace a1 := hf.cell_some a1 (fun h => h)
  replace a2 := hf.cell_some a2 (fun h => h)
  replace ctk := hf.cell_some ctk (fun h => h)
  clear hf
  go_wp2_with fail
  refine (vertex_calls a.h c320 (by omega)).mono ?_
  rintro e w2 ⟨rfl, hf⟩
  rw [d2]
  have F2 := hid (F1.out.trans hf)
  replace c320 := hf.cell_some c320 (fun h => h)
  replace a0 := hf.cell_some a0 (fun h => h)
  replace a1 := hf.cell_some a1 (fun h => h)
  replace a2 := hf.cell_some a2 (fun h => h)
  replace ctk := hf.cell_some ctk (fun h => h)
  clear hf
  go_wp2_with fail
  refine (weight_calls a.w _).mono ?_
  rintro e w3 ⟨rfl, rfl⟩
  rw [d3]
  go_wp2
  go_ret
  exact ⟨rfl, F2.out⟩

/-- An insertion into a graph that may have 64 arcs. -/
theorem ginsert_calls {w : World} {L : GLoc} {G : Gr} (h : GMem w L G) (hm : G.most = 64) (id : Int) (a : Arc4) :
    Calls Tryz.prog 55 #[.pointer (some ⟨L.b, 0, none⟩), .int .i64 id, .agg #[.int .i64 a.t, .int .i64 a.h, .int .i64 a.w, .bool a.c]] w fun e w' => e = .returned (.int .i64 (G.icode id a)) ∧ ∃ L' : GLoc, GMem w' L' (G.put id a) ∧ L'.b = L.b ∧ Fr (L.own G.n) w w' ∧ ∀ j, L'.own G.n j → L.own G.n j ∨ w.heap.size ≤ j := by
  have no : ∀ c : Int, G.icode id a = c → c ≠ 0 → Calls Tryz.prog 55 #[.pointer (some ⟨L.b, 0, none⟩), .int .i64 id, .agg #[.int .i64 a.t, .int .i64 a.h, .int .i64 a.w, .bool a.c]] w (fun e w' => e = .returned (.int .i64 c) ∧ Fr No w w') →
      Calls Tryz.prog 55 #[.pointer (some ⟨L.b, 0, none⟩), .int .i64 id, .agg #[.int .i64 a.t, .int .i64 a.h, .int .i64 a.w, .bool a.c]] w fun e w' => e = .returned (.int .i64 (G.icode id a)) ∧ ∃ L' : GLoc, GMem w' L' (G.put id a) ∧ L'.b = L.b ∧ Fr (L.own G.n) w w' ∧ ∀ j, L'.own G.n j → L.own G.n j ∨ w.heap.size ≤ j := by
    intro c ec hc hcalls
    refine hcalls.mono ?_
    rintro e w' ⟨rfl, hf⟩
    refine ⟨by rw [ec], L, ?_, rfl, hf.no, fun j hj => .inl hj⟩
    rw [show G.put id a = G from by unfold Gr.put; rw [ec]; exact if_neg hc]
    exact h.no hf
  by_cases h0 : 0 ≤ id ∧ id < 64
  · by_cases h1 : 0 ≤ a.t ∧ a.t < G.n
    · by_cases h2 : 0 ≤ a.h ∧ a.h < G.n
      · by_cases h3 : 1 ≤ a.w ∧ a.w ≤ 4611686018427387904
        · have hok : (0 ≤ id ∧ id < 64) ∧ G.okA a := ⟨h0, h1, h2, h3⟩
          cases htk : G.tk id.toNat with
          | true => exact no 4 (by unfold Gr.icode; rw [if_pos hok, if_pos htk]) (by omega) (gins_n4 h id a h0 h1 h2 h3 htk)
          | false =>
            have ec : G.icode id a = 0 := by unfold Gr.icode; rw [if_pos hok, htk]; rfl
            have hcnt : G.cnt < G.most := by
              have hc := G.ins_cnt id.toNat a (by omega) htk
              have hl : (G.ins id.toNat a).cnt ≤ 64 := sel_len _
              omega
            have hc := gins_yes h id.toNat (by omega) a.t.toNat a.h.toNat a.w a.c (by omega) (by omega) h3.1 h3.2 htk hcnt
            rw [show ((id.toNat : Nat) : Int) = id by omega, show ((a.t.toNat : Nat) : Int) = a.t by omega, show ((a.h.toNat : Nat) : Int) = a.h by omega] at hc
            refine hc.mono ?_
            rintro e w' ⟨rfl, L', h5, h6, h7, h8, h9⟩
            refine ⟨by rw [ec], L', ?_, h6, h8, h9⟩
            rw [show G.put id a = G.ins id.toNat a from by unfold Gr.put; rw [ec]; rfl]
            exact h5
        · exact no 1 (by unfold Gr.icode; rw [if_neg (fun hh => h3 hh.2.2.2)]) (by omega) (gins_n3 h id a h0 h1 h2 h3)
      · exact no 1 (by unfold Gr.icode; rw [if_neg (fun hh => h2 hh.2.2.1)]) (by omega) (gins_n2 h id a h0 h1 h2)
    · exact no 1 (by unfold Gr.icode; rw [if_neg (fun hh => h1 hh.2.1)]) (by omega) (gins_n1 h id a h0 h1)
  · exact no 1 (by unfold Gr.icode; rw [if_neg (fun hh => h0 hh.1)]) (by omega) (gins_n0 h id a h0)

/-- A change: its kind, its place, its arc. -/
structure Chg where
  kd : Int
  id : Int
  a : Arc4
def Chg.val (c : Chg) : Value := .agg #[.int .i64 c.kd, .int .i64 c.id, .int .i64 c.a.t, .int .i64 c.a.h, .int .i64 c.a.w, .bool c.a.c]
def Gr.scode (G : Gr) (c : Chg) : Int := if c.kd = 0 then G.icode c.id c.a else if c.kd = 1 then G.code c.id else if c.kd = 2 then G.tcode c.id true else if c.kd = 3 then G.tcode c.id false else G.wcode c.id c.a.w
def Gr.step (G : Gr) (c : Chg) : Gr := if c.kd = 0 then G.put c.id c.a else if c.kd = 1 then G.rm c.id else if c.kd = 2 then G.tn c.id true else if c.kd = 3 then G.tn c.id false else G.wt c.id c.a.w
/-- The graph has become another one. -/
def GStep (w : World) (L : GLoc) (n : Nat) (w' : World) (G' : Gr) : Prop := ∃ L' : GLoc, GMem w' L' G' ∧ L'.b = L.b ∧ Fr (L.own n) w w' ∧ ∀ j, L'.own n j → L.own n j ∨ w.heap.size ≤ j
theorem GStep.same {w w' : World} {L : GLoc} {n : Nat} {G' : Gr} (h : GMem w' L G') (hf : Fr (L.own n) w w') : GStep w L n w' G' := ⟨L, h, rfl, hf, fun j hj => .inl hj⟩

structure ChgAt (w : World) (b o : Nat) (c : Chg) : Prop where
  k : w.cell? ⟨b, o, none⟩ = some (.int .i64 c.kd)
  i : w.cell? ⟨b, o + 1, none⟩ = some (.int .i64 c.id)
  t : w.cell? ⟨b, o + 2, none⟩ = some (.int .i64 c.a.t)
  h : w.cell? ⟨b, o + 2 + 1, none⟩ = some (.int .i64 c.a.h)
  w_ : w.cell? ⟨b, o + 2 + 2, none⟩ = some (.int .i64 c.a.w)
  c_ : w.cell? ⟨b, o + 2 + 3, none⟩ = some (.bool c.a.c)
theorem ChgAt.fr {w w' : World} {b o : Nat} {c : Chg} (h : ChgAt w b o c) {F : Nat → Prop} (hf : Fr F w w') (hb : ¬ F b) : ChgAt w' b o c :=
  ⟨hf.cell_some h.k hb, hf.cell_some h.i hb, hf.cell_some h.t hb, hf.cell_some h.h hb, hf.cell_some h.w_ hb, hf.cell_some h.c_ hb⟩
/-- A slice of changes that is read. -/
def ChgsF (w : World) (A : Option Addr) (n : Nat) (f : Nat → Chg) : Prop :=
  0 < n → ∃ b off, A = some ⟨b, off, none⟩ ∧ ∀ j, j < n → ChgAt w b (off + j * 6) (f j)
theorem ChgsF.fr {w w' : World} {A : Option Addr} {n : Nat} {f : Nat → Chg} (h : ChgsF w A n f) (hf : Fr No w w') : ChgsF w' A n f := fun h0 => by
  obtain ⟨b, off, e, hc⟩ := h h0
  exact ⟨b, off, e, fun j hj => (hc j hj).fr hf (fun h => h)⟩
/-- A graph behind k changes. -/
def Gr.steps (G : Gr) (f : Nat → Chg) : Nat → Gr
  | 0 => G
  | k + 1 => (G.steps f k).step (f k)

end Go.Proofs.YtoepbhacpidcbaaGreatDoor
