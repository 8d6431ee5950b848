/- How far it is as the document says; up from one end and up from the other comes to it: plain. -/

import Derived.Test.YtoepbhacpidcbaaGreatDoorQBase
import Derived.Test.YtoepbhacpidcbaaGreatDoorQIdx
import Derived.Test.YtoepbhacpidcbaaGreatDoorQIdxB
import Derived.Test.YtoepbhacpidcbaaGreatDoorQPerm
import Derived.Test.YtoepbhacpidcbaaGreatDoorQRef
import Derived.Test.YtoepbhacpidcbaaGreatDoorQBig
import Derived.Test.YtoepbhacpidcbaaGreatDoorQUnref
import Derived.Test.YtoepbhacpidcbaaGreatDoorQUnE
import Derived.Test.YtoepbhacpidcbaaGreatDoorQItr
import Derived.Test.YtoepbhacpidcbaaGreatDoorQDst
import Derived.Test.YtoepbhacpidcbaaGreatDoorQLnk
import Derived.Test.YtoepbhacpidcbaaGreatDoorQRow2
import Derived.Test.YtoepbhacpidcbaaGreatDoorQGr
import Derived.Test.YtoepbhacpidcbaaGreatDoorQGOps
import Derived.Test.YtoepbhacpidcbaaGreatDoorQBld
import Derived.Test.YtoepbhacpidcbaaGreatDoorQBW
import Derived.Test.YtoepbhacpidcbaaGreatDoorQHpK
import Derived.Test.YtoepbhacpidcbaaGreatDoorQG8
import Derived.Test.YtoepbhacpidcbaaGreatDoorQSqO
import Derived.Test.YtoepbhacpidcbaaGreatDoorQGoes
import Derived.Test.YtoepbhacpidcbaaGreatDoorQUp
import Derived.Test.YtoepbhacpidcbaaGreatDoorQSetP

set_option linter.unusedVariables false
set_option linter.unusedSimpArgs false
namespace Go.Proofs.YtoepbhacpidcbaaGreatDoor
open Go.RowKit Go.Deep

def sat (z : Int) : Int := if z ≤ 4611686018427387904 then z else 4611686018427387905
theorem sat_b {z : Int} (h : 0 ≤ z) : Bd (sat z) := by unfold sat Bd; split <;> omega
theorem sat_mono {a b : Int} (h : a ≤ b) : sat a ≤ sat b := by
  unfold sat; (repeat' split) <;> omega
theorem sat_tw {a b : Int} (ha : 0 ≤ a) (hb : 0 ≤ b) : tw (sat a) (sat b) = sat (a + b) := by
  unfold tw sat; (repeat' split) <;> omega
theorem sat_id {a : Int} (h : a ≤ 4611686018427387904) : sat a = a := if_pos h
theorem tw_self0 {a : Int} (ha : Bd a) : tw 0 a = a := by rw [tw_comm, tw_zero' ha]
/-- How far it is from vertex to vertex, ahead of any vertex in between. -/
def Gr.d0 (G : Gr) : Mat := fun a b => if a = b then 0 else G.bst a b
def Gr.far (G : Gr) : Mat := fwM (fun _ => true) G.n G.d0 G.n
theorem Gr.d0_b {G : Gr} (hw : G.Wt) : MB G.n G.d0 := fun a b _ _ => by
  unfold Gr.d0; split
  · unfold Bd; omega
  · exact G.bst_b hw a b
theorem Gr.far_inv {G : Gr} (hw : G.Wt) : FwI (fun _ => true) G.n G.d0 G.far G.n := fwM_inv (G.d0_b hw) G.n (Nat.le_refl _)
theorem Gr.far_b {G : Gr} (hw : G.Wt) : MB G.n G.far := (Gr.far_inv hw).b
theorem Gr.far_self {G : Gr} (hw : G.Wt) {a : Nat} (ha : a < G.n) : G.far a a = 0 := by
  have h1 := (Gr.far_inv hw).le a a ha ha
  have h2 := (Gr.far_b hw a a ha ha).1
  unfold Gr.d0 at h1
  rw [if_pos rfl] at h1
  omega
theorem Gr.far_tri {G : Gr} (hw : G.Wt) {a m b : Nat} (ha : a < G.n) (hm : m < G.n) (hb : b < G.n) : G.far a b ≤ tw (G.far a m) (G.far m b) :=
  (Gr.far_inv hw).tri m hm hm rfl a b ha hb rfl rfl
theorem Gr.far_bst {G : Gr} (hw : G.Wt) {a b : Nat} (ha : a < G.n) (hb : b < G.n) : G.far a b ≤ G.bst a b := by
  by_cases e : a = b
  · subst e; rw [Gr.far_self hw ha]; exact (G.bst_b hw a a).1
  · have := (Gr.far_inv hw).le a b ha hb
    unfold Gr.d0 at this
    rw [if_neg e] at this
    exact this

/-- A walk that is as short as can be. -/
def Gr.Sh (G : Gr) (s : Nat) (l : List Nat) (t : Nat) : Prop := Wk G s l t ∧ ∀ l', Wk G s l' t → G.len l ≤ G.len l'
theorem Wk.len0 {G : Gr} (hw : G.Wt) {l : List Nat} {s t : Nat} (h : Wk G s l t) : 0 ≤ G.len l := by have := Wk.pos hw h; omega
theorem Gr.Sh.min {G : Gr} (hw : G.Wt) {s t : Nat} : ∀ (N : Nat) (l : List Nat), (G.len l).toNat ≤ N → Wk G s l t → ∃ l', G.Sh s l' t := by
  intro N
  induction N with
  | zero =>
    intro l hN h
    refine ⟨l, h, fun l' h' => ?_⟩
    have := h.len0 hw; have := h'.len0 hw; omega
  | succ N ih =>
    intro l hN h
    by_cases hc : ∃ l', Wk G s l' t ∧ G.len l' < G.len l
    · obtain ⟨l', h', hlt⟩ := hc
      have := h'.len0 hw
      exact ih l' (by omega) h'
    · refine ⟨l, h, fun l' h' => ?_⟩
      rcases Int.lt_or_le (G.len l') (G.len l) with hh | hh
      · exact absurd ⟨l', h', hh⟩ hc
      · exact hh
theorem Gr.Sh.cut {G : Gr} {s m t : Nat} {a b : List Nat} (h : G.Sh s (a ++ b) t) (ha : Wk G s a m) (hb : Wk G m b t) : G.Sh s a m ∧ G.Sh m b t := by
  refine ⟨⟨ha, fun l' h' => ?_⟩, ⟨hb, fun l' h' => ?_⟩⟩
  · have := h.2 (l' ++ b) (h'.app hb)
    rw [Gr.len_app, Gr.len_app] at this; omega
  · have := h.2 (a ++ l') (ha.app h')
    rw [Gr.len_app, Gr.len_app] at this; omega
open Classical in
/-- How long a walk is that is as short as can be. -/
noncomputable def Gr.rl (G : Gr) (s t : Nat) : Int := if h : ∃ l, G.Sh s l t then sat (G.len (Classical.choose h)) else 4611686018427387906
theorem Gr.rl_sh {G : Gr} {s t : Nat} {l : List Nat} (h : G.Sh s l t) : G.rl s t = sat (G.len l) := by
  have he : ∃ l, G.Sh s l t := ⟨l, h⟩
  unfold Gr.rl
  rw [dif_pos he]
  have h1 := (Classical.choose_spec he).2 l h.1
  have h2 := h.2 _ (Classical.choose_spec he).1
  rw [show G.len (Classical.choose he) = G.len l by omega]
theorem Gr.rl_no {G : Gr} {s t : Nat} (h : ¬ ∃ l, G.Sh s l t) : G.rl s t = 4611686018427387906 := dif_neg h
theorem Gr.rl_b {G : Gr} (hw : G.Wt) (s t : Nat) : Bd (G.rl s t) := by
  by_cases h : ∃ l, G.Sh s l t
  · obtain ⟨l, h⟩ := h
    rw [Gr.rl_sh h]; exact sat_b (h.1.len0 hw)
  · rw [Gr.rl_no h]; unfold Bd; omega
/-- No distance is less than a walk that is as short as can be. -/
theorem Gr.rl_far {G : Gr} (hw : G.Wt) {s t : Nat} (hs : s < G.n) (ht : t < G.n) : G.rl s t ≤ G.far s t := by
  have hc := (Gr.far_inv hw).sound (G.rl s) (fun i _ _ => Gr.rl_b hw s i) (fun i j hi hj _ _ => by
    by_cases h1 : ∃ l, G.Sh s l i
    · obtain ⟨l, h1⟩ := h1
      unfold Gr.d0
      by_cases e : i = j
      · subst e; rw [if_pos rfl, tw_zero' (Gr.rl_b hw s i)]; exact Int.le_refl _
      · rw [if_neg e]
        rcases G.bst_is i j with e1 | ⟨k, k1, k2, k3, k4, k5, e1⟩
        · rw [e1, none_tw]; exact (Gr.rl_b hw s j).2
        · have hk : Wk G i [k] j := ⟨k1, k2, k5, k3, by show (G.arc k).h.toNat = j; rw [k4]; exact Int.toNat_natCast j⟩
          have hl := h1.1.app hk
          obtain ⟨l', hl'⟩ := Gr.Sh.min hw _ _ (Nat.le_refl _) hl
          have hle := hl'.2 _ hl
          have hwk := hw k k1 k2
          rw [e1, Gr.rl_sh h1, Gr.rl_sh hl', ← sat_id hwk.2, sat_tw (h1.1.len0 hw) (by omega)]
          refine sat_mono (Int.le_trans hle ?_)
          rw [Gr.len_app, Gr.len_cons, Gr.len_nil]; omega
    · rw [Gr.rl_no h1, tw_none]; exact (Gr.rl_b hw s j).2) s t hs ht rfl rfl
  have h0 : G.rl s s = 0 := by
    have : G.Sh s [] s := ⟨rfl, fun l' h' => h'.len0 hw⟩
    rw [Gr.rl_sh this]; rfl
  rw [h0, tw_self0 (Gr.far_b hw s t hs ht)] at hc
  exact hc
theorem Gr.Sh.far {G : Gr} (hw : G.Wt) {s t : Nat} {l : List Nat} (hs : s < G.n) (ht : t < G.n) (h : G.Sh s l t) : sat (G.len l) ≤ G.far s t := by
  rw [← Gr.rl_sh h]; exact Gr.rl_far hw hs ht

/-- A walk by way of lower vertices bounds an entry, however long it is. -/
theorem Whole.least' {G : Gr} {x : Ix} (h : Whole G x) (hok : x.Ok) (ho : G.Ok) (hw : G.Wt) (hn : G.n = x.n) : ∀ (N : Nat) (l : List Nat) (u v : Nat), l.length ≤ N → u < x.n → v < x.n → u ≠ v → Wk G u l v →
    (∀ z ∈ G.mds l, z = u ∨ z = v ∨ x.rk z < min (x.rk u) (x.rk v)) → (x.ent u v).w ≤ sat (G.len l) := by
  intro N
  induction N with
  | zero =>
    intro l u v hl _ _ hne hk
    have : l = [] := List.length_eq_zero_iff.1 (by omega)
    subst this
    exact absurd hk hne
  | succ N ih =>
    intro l u v hl hu hv hne hk hz
    by_cases h0 : G.mds l = []
    · match l, hk with
      | [], hk => exact absurd hk hne
      | [k], hk =>
        have hkk := (hw k hk.1 hk.2.1).2
        have hlen : G.len [k] ≤ 4611686018427387904 := by rw [Gr.len_cons, Gr.len_nil]; omega
        have := h.least hok ho hw hn 1 [k] u v (Nat.le_refl _) hu hv hne hk (fun z hz' => by rw [h0] at hz'; cases hz') hlen
        rw [sat_id hlen]; exact this
      | k :: k' :: l', hk => simp [Gr.mds] at h0
    · obtain ⟨m, hm, htop⟩ := top_of x.rk (G.mds l) h0
      by_cases hmu : u ∈ G.mds l
      · obtain ⟨a, b, e, ha, hb, h1, h2, h3, h4⟩ := hk.at hmu
        have hla : 0 < a.length := List.length_pos_iff.2 ha
        have hlb : a.length + b.length = l.length := by rw [e, List.length_append]
        have hpa := Wk.pos hw h1
        have hla2 : G.len l = G.len a + G.len b := by rw [e, Gr.len_app]
        have := ih b u v (by omega) hu hv hne h2 (fun z hz' => hz z (h4 z hz'))
        exact Int.le_trans this (sat_mono (by omega))
      · by_cases hmv : v ∈ G.mds l
        · obtain ⟨a, b, e, ha, hb, h1, h2, h3, h4⟩ := hk.at hmv
          have hlb0 : 0 < b.length := List.length_pos_iff.2 hb
          have hlb : a.length + b.length = l.length := by rw [e, List.length_append]
          have hpb := Wk.pos hw h2
          have hla2 : G.len l = G.len a + G.len b := by rw [e, Gr.len_app]
          have := ih a u v (by omega) hu hv hne h1 (fun z hz' => hz z (h3 z hz'))
          exact Int.le_trans this (sat_mono (by omega))
        · have hlow : ∀ z ∈ G.mds l, x.rk z < min (x.rk u) (x.rk v) := fun z hz' => by
            rcases hz z hz' with rfl | rfl | h'
            · exact absurd hz' hmu
            · exact absurd hz' hmv
            · exact h'
          have hmlow := hlow m hm
          obtain ⟨a, b, e, ha, hb, h1, h2, h3, h4⟩ := hk.at hm
          have hin : ∀ z, z ∈ G.mds l → z < x.n := fun z hz' => by
            rw [← hn]
            refine Wk.hds ho hk z ?_
            unfold Gr.mds at hz'
            obtain ⟨k, hk', rfl⟩ := List.mem_map.1 hz'
            exact List.mem_map.2 ⟨k, List.dropLast_subset l hk', rfl⟩
          have hmn := hin m hm
          have hum : u ≠ m := fun e => by subst e; omega
          have hmv' : m ≠ v := fun e => by subst e; omega
          have hla0 : 0 < a.length := List.length_pos_iff.2 ha
          have hlb0 : 0 < b.length := List.length_pos_iff.2 hb
          have hlb : a.length + b.length = l.length := by rw [e, List.length_append]
          have hpa := h1.len0 hw
          have hpb := h2.len0 hw
          have hla2 : G.len l = G.len a + G.len b := by rw [e, Gr.len_app]
          have hlt : ∀ z, z ∈ G.mds l → z = m ∨ x.rk z < x.rk m := fun z hz' => by
            by_cases e : z = m
            · exact .inl e
            · right
              have h5 := htop z hz'
              have h6 : x.rk z ≠ x.rk m := fun e2 => e (hok.inj (hin z hz') hmn e2)
              omega
          have i1 := ih a u m (by omega) hu hmn hum h1 (fun z hz' => by
            rcases hlt z (h3 z hz') with h5 | h5
            · exact .inr (.inl h5)
            · exact .inr (.inr (by omega)))
          have i2 := ih b m v (by omega) hmn hv hmv' h2 (fun z hz' => by
            rcases hlt z (h4 z hz') with h5 | h5
            · exact .inl h5
            · exact .inr (.inr (by omega)))
          have hs := hok.sum2_tw (u : Nat) (v : Nat) (x.rk m)
          rw [(hok.rk m hmn).2, at_nat (two_nat hu hmn hum), at_nat (two_nat hmn hv hmv')] at hs
          have hle : (x.ent u v).w ≤ x.sum2 (u : Nat) (v : Nat) (x.rk m) := by
            rcases h.cases hu hv hne with ⟨e1, _, e2⟩ | ⟨e1, _, e2⟩ | ⟨j, hc, _⟩
            · have := e2 _ hmlow
              rw [e1]; show (4611686018427387906 : Int) ≤ _; omega
            · rw [e1]; exact e2 _ hmlow
            · rw [hc.w]; exact hc.le _ hmlow
          rw [hs] at hle
          have b1 := hok.ent_b u m
          have b2 := hok.ent_b m v
          rw [hla2, ← sat_tw hpa hpb]
          exact Int.le_trans hle (tw_mono (by omega) (by omega) i1 i2 (sat_b hpa).2 (sat_b hpb).2)

/-- No entry of a whole index is less than how far it is. -/
theorem Whole.far_ent {G : Gr} {x : Ix} (h : Whole G x) (hok : x.Ok) (hw : G.Wt) (hn : G.n = x.n) {u v : Nat} (hu : u < x.n) (hv : v < x.n) (hne : u ≠ v) : G.far u v ≤ (x.ent u v).w := by
  have hMB : MB x.n G.bst := fun a b _ _ => G.bst_b hw a b
  have hb : ∀ r, r < x.n → x.by_ r < x.n := fun r hr => (hok.by_ r hr).1
  have ru := hok.rk u hu
  have rv := hok.rk v hv
  rw [(h.rkw hok hw _ _ u v (Nat.lt_succ_self _) hu hv hne rfl).1]
  have hu' : u < G.n := by omega
  have := (rkw_tri hb hMB (min (x.rk u) (x.rk v)) (by omega)).sound (fun i => G.far u (x.by_ i)) (fun i hi _ => Gr.far_b hw _ _ hu' (by have := hb i hi; omega)) (fun i j hi hj _ _ => by
    have bi := hb i hi
    have bj := hb j hj
    have b1 := Gr.far_b hw u (x.by_ i) hu' (by omega)
    have b2 := Gr.far_b hw (x.by_ i) (x.by_ j) (by omega) (by omega)
    exact Int.le_trans (Gr.far_tri hw hu' (show x.by_ i < G.n by omega) (by omega)) (tw_mono b1.1 b2.1 (Int.le_refl _) (Gr.far_bst hw (by omega) (by omega)) b1.2 (G.bst_b hw _ _).2)) (x.rk u) (x.rk v) ru.1 rv.1 rfl rfl
  simp only [ru.2, rv.2] at this
  have hbr := rkw_b hb hMB (min (x.rk u) (x.rk v)) (by omega) u v hu hv
  rw [Gr.far_self hw hu', tw_self0 hbr] at this
  exact this

/-- What is told of ways up from s: K bounds it from below; where it is K, it goes on. -/
structure Clm (x : Ix) (ew : Mat) (s : Nat) (K U : Nat → Int) : Prop where
  b : ∀ v, v < x.n → Bd (U v)
  s0 : U s = 0
  low : ∀ v, v < x.n → K v ≤ U v
  tri : ∀ z v, z < x.n → v < x.n → x.rk z < x.rk v → U z ≤ K z → U v ≤ tw (U z) (ew z v)
def Ix.ew (x : Ix) (back : Bool) : Mat := fun z v => if back then (x.ent v z).w else (x.ent z v).w

theorem Wk.vs {G : Gr} {l : List Nat} {u v : Nat} (h : Wk G u l v) (hl : l ≠ []) : G.mds l ++ [v] = l.map G.hd := by
  have hdl := List.dropLast_concat_getLast hl
  have hh := h
  rw [← hdl] at hh
  have := Wk.last hh
  unfold Gr.mds
  rw [this]
  conv => rhs; rw [← hdl, List.map_append]
  rfl
/-- In a walk that is as short as can be no vertex comes again at the end. -/
theorem Gr.Sh.end_new {G : Gr} (hw : G.Wt) {s h : Nat} {l : List Nat} (hs : G.Sh s l h) : ¬ h ∈ G.mds l := fun hm => by
  obtain ⟨a, b, e, ha, hb, h1, h2, _, _⟩ := hs.1.at hm
  have := hs.2 a h1
  have hp := Wk.pos hw h2
  have : 0 < b.length := List.length_pos_iff.2 hb
  rw [e, Gr.len_app] at *
  omega
theorem Gr.Sh.first_new {G : Gr} (hw : G.Wt) {s h : Nat} {l : List Nat} (hs : G.Sh s l h) : ¬ s ∈ G.mds l := fun hm => by
  obtain ⟨a, b, e, ha, hb, h1, h2, _, _⟩ := hs.1.at hm
  have := hs.2 b h2
  have hp := Wk.pos hw h1
  have : 0 < a.length := List.length_pos_iff.2 ha
  rw [e, Gr.len_app] at *
  omega
theorem Gr.Sh.ends {G : Gr} (hw : G.Wt) {s : Nat} {l : List Nat} (hs : G.Sh s l s) : l = [] := by
  have h1 := hs.2 [] rfl
  have hp := Wk.pos hw hs.1
  rw [Gr.len_nil] at h1
  exact List.length_eq_zero_iff.1 (by omega)

theorem Wk.mds_lt {G : Gr} (ho : G.Ok) {l : List Nat} {u v z : Nat} (h : Wk G u l v) (hz : z ∈ G.mds l) : z < G.n := by
  refine Wk.hds ho h z ?_
  unfold Gr.mds at hz
  obtain ⟨k, hk', rfl⟩ := List.mem_map.1 hz
  exact List.mem_map.2 ⟨k, List.dropLast_subset l hk', rfl⟩

/-- Up a walk that is as short as can be, to its highest vertex. -/
theorem Clm.up {G : Gr} {x : Ix} (h : Whole G x) (hok : x.Ok) (ho : G.Ok) (hw : G.Wt) (hn : G.n = x.n) {s : Nat} {U : Nat → Int} (hU : Clm x (x.ew false) s (fun v => G.far s v) U) : ∀ (N : Nat) (l : List Nat) (t : Nat), l.length ≤ N → s < x.n → t < x.n →
    G.Sh s l t → x.rk s ≤ x.rk t → (∀ z ∈ G.mds l, x.rk z ≤ x.rk t) → U t ≤ sat (G.len l) := by
  intro N
  induction N with
  | zero =>
    intro l t hl _ _ hS _ _
    have : l = [] := List.length_eq_zero_iff.1 (by omega)
    subst this
    obtain rfl : s = t := hS.1
    rw [hU.s0]; rw [Gr.len_nil]; decide
  | succ N ih =>
    intro l t hl hs ht hS hst hall
    by_cases est : s = t
    · subst est
      have := hS.ends hw
      subst this
      rw [hU.s0]; rw [Gr.len_nil]; decide
    · obtain ⟨m, hm, htop⟩ := top_of x.rk (s :: G.mds l) (by simp)
      have hmn : m < x.n := by
        rcases List.mem_cons.1 hm with rfl | hm
        · exact hs
        · rw [← hn]; exact hS.1.mds_lt ho hm
      have hmt : m ≠ t := fun e => by
        subst e
        rcases List.mem_cons.1 hm with e | hm
        · exact est e.symm
        · exact hS.end_new hw hm
      have hrm : x.rk m < x.rk t := by
        have h1 : x.rk m ≤ x.rk t := by
          rcases List.mem_cons.1 hm with rfl | hm
          · exact hst
          · exact hall m hm
        have h2 : x.rk m ≠ x.rk t := fun e => hmt (hok.inj hmn ht e)
        omega
      have key : ∃ a b, l = a ++ b ∧ a.length < l.length ∧ Wk G s a m ∧ Wk G m b t ∧ (∀ y ∈ G.mds a, y ∈ G.mds l) ∧ (∀ y ∈ G.mds b, y ∈ G.mds l) := by
        by_cases ems : m = s
        · subst ems
          have hl0 : l ≠ [] := fun e => by subst e; exact est hS.1
          exact ⟨[], l, rfl, List.length_pos_iff.2 hl0, rfl, hS.1, fun y hy => (by cases hy), fun y hy => hy⟩
        · rcases List.mem_cons.1 hm with e | hm
          · exact absurd e ems
          · obtain ⟨a, b, e, ha, hb, h1, h2, h3, h4⟩ := hS.1.at hm
            have hb0 : 0 < b.length := List.length_pos_iff.2 hb
            exact ⟨a, b, e, by rw [e, List.length_append]; omega, h1, h2, h3, h4⟩
      obtain ⟨a, b, e, hal, h1, h2, h3, h4⟩ := key
      rw [e] at hS
      obtain ⟨sa, sb⟩ := hS.cut h1 h2
      have i1 := ih a m (by omega) hs hmn sa (htop s (by simp)) (fun z hz => htop z (List.mem_cons_of_mem _ (h3 z hz)))
      have hfar : sat (G.len a) ≤ G.far s m := sa.far hw (by omega) (by omega)
      have i2 := h.least' hok ho hw hn b.length b m t (Nat.le_refl _) hmn ht hmt h2 (fun z hz => by
        have hzl := h4 z hz
        have h5 := htop z (List.mem_cons_of_mem _ hzl)
        by_cases ez : z = m
        · exact .inl ez
        · have hzn : z < x.n := by rw [← hn]; exact h2.mds_lt ho hz
          have h6 : x.rk z ≠ x.rk m := fun e2 => ez (hok.inj hzn hmn e2)
          exact .inr (.inr (by omega)))
      have ht1 := hU.tri m t hmn ht hrm (Int.le_trans i1 hfar)
      have pa := h1.len0 hw
      have pb := h2.len0 hw
      have eb := hok.ent_b m t
      rw [e, Gr.len_app, ← sat_tw pa pb]
      refine Int.le_trans ht1 ?_
      show tw (U m) (x.ent m t).w ≤ _
      exact tw_mono (hU.b m hmn).1 (by omega) i1 i2 (sat_b pa).2 (sat_b pb).2
/-- And down from it. -/
theorem Clm.down {G : Gr} {x : Ix} (h : Whole G x) (hok : x.Ok) (ho : G.Ok) (hw : G.Wt) (hn : G.n = x.n) {s : Nat} {U : Nat → Int} (hU : Clm x (x.ew true) s (fun v => G.far v s) U) : ∀ (N : Nat) (l : List Nat) (t : Nat), l.length ≤ N → s < x.n → t < x.n →
    G.Sh t l s → x.rk s ≤ x.rk t → (∀ z ∈ G.mds l, x.rk z ≤ x.rk t) → U t ≤ sat (G.len l) := by
  intro N
  induction N with
  | zero =>
    intro l t hl _ _ hS _ _
    have : l = [] := List.length_eq_zero_iff.1 (by omega)
    subst this
    obtain rfl : t = s := hS.1
    rw [hU.s0]; rw [Gr.len_nil]; decide
  | succ N ih =>
    intro l t hl hs ht hS hst hall
    by_cases est : s = t
    · subst est
      have := hS.ends hw
      subst this
      rw [hU.s0]; rw [Gr.len_nil]; decide
    · obtain ⟨m, hm, htop⟩ := top_of x.rk (s :: G.mds l) (by simp)
      have hmn : m < x.n := by
        rcases List.mem_cons.1 hm with rfl | hm
        · exact hs
        · rw [← hn]; exact hS.1.mds_lt ho hm
      have hmt : m ≠ t := fun e => by
        subst e
        rcases List.mem_cons.1 hm with e | hm
        · exact est e.symm
        · exact hS.first_new hw hm
      have hrm : x.rk m < x.rk t := by
        have h1 : x.rk m ≤ x.rk t := by
          rcases List.mem_cons.1 hm with rfl | hm
          · exact hst
          · exact hall m hm
        have h2 : x.rk m ≠ x.rk t := fun e => hmt (hok.inj hmn ht e)
        omega
      have key : ∃ a b, l = a ++ b ∧ b.length < l.length ∧ Wk G t a m ∧ Wk G m b s ∧ (∀ y ∈ G.mds a, y ∈ G.mds l) ∧ (∀ y ∈ G.mds b, y ∈ G.mds l) := by
        by_cases ems : m = s
        · subst ems
          have hl0 : l ≠ [] := fun e => by subst e; exact est hS.1.symm
          exact ⟨l, [], by simp, List.length_pos_iff.2 hl0, hS.1, rfl, fun y hy => hy, fun y hy => by cases hy⟩
        · rcases List.mem_cons.1 hm with e | hm
          · exact absurd e ems
          · obtain ⟨a, b, e, ha, hb, h1, h2, h3, h4⟩ := hS.1.at hm
            have ha0 : 0 < a.length := List.length_pos_iff.2 ha
            exact ⟨a, b, e, by rw [e, List.length_append]; omega, h1, h2, h3, h4⟩
      obtain ⟨a, b, e, hbl, h1, h2, h3, h4⟩ := key
      rw [e] at hS
      obtain ⟨sa, sb⟩ := hS.cut h1 h2
      have i1 := ih b m (by omega) hs hmn sb (htop s (by simp)) (fun z hz => htop z (List.mem_cons_of_mem _ (h4 z hz)))
      have hfar : sat (G.len b) ≤ G.far m s := sb.far hw (by omega) (by omega)
      have i2 := h.least' hok ho hw hn a.length a t m (Nat.le_refl _) ht hmn (fun e => hmt e.symm) h1 (fun z hz => by
        have hzl := h3 z hz
        have h5 := htop z (List.mem_cons_of_mem _ hzl)
        by_cases ez : z = m
        · exact .inr (.inl ez)
        · have hzn : z < x.n := by rw [← hn]; exact h1.mds_lt ho hz
          have h6 : x.rk z ≠ x.rk m := fun e2 => ez (hok.inj hzn hmn e2)
          exact .inr (.inr (by omega)))
      have ht1 := hU.tri m t hmn ht hrm (Int.le_trans i1 hfar)
      have pa := h1.len0 hw
      have pb := h2.len0 hw
      have eb := hok.ent_b t m
      rw [e, Gr.len_app, ← sat_tw pa pb, tw_comm]
      refine Int.le_trans ht1 ?_
      show tw (U m) (x.ent t m).w ≤ _
      exact tw_mono (hU.b m hmn).1 (by omega) i1 i2 (sat_b pb).2 (sat_b pa).2

/-- UP FROM ONE END AND DOWN TO THE OTHER ONE, it is as far as in the graph. -/
theorem Clm.meet {G : Gr} {x : Ix} (h : Whole G x) (hok : x.Ok) (ho : G.Ok) (hw : G.Wt) (hn : G.n = x.n) {s t : Nat} {U W : Nat → Int} (hs : s < x.n) (ht : t < x.n) (hU : Clm x (x.ew false) s (fun v => G.far s v) U) (hW : Clm x (x.ew true) t (fun v => G.far v t) W) :
    (∀ v, v < x.n → G.far s t ≤ tw (U v) (W v)) ∧ (G.far s t = 4611686018427387906 ∨ ∃ v, v < x.n ∧ tw (U v) (W v) = G.far s t) := by
  have h1 : ∀ v, v < x.n → G.far s t ≤ tw (U v) (W v) := fun v hv => by
    have b1 := Gr.far_b hw s v (by omega) (by omega)
    have b2 := Gr.far_b hw v t (by omega) (by omega)
    exact Int.le_trans (Gr.far_tri hw (by omega) (show v < G.n by omega) (by omega)) (tw_mono b1.1 b2.1 (hU.low v hv) (hW.low v hv) (hU.b v hv).2 (hW.b v hv).2)
  refine ⟨h1, ?_⟩
  by_cases hr : ∃ l, G.Sh s l t
  · right
    obtain ⟨l, hS⟩ := hr
    obtain ⟨m, hm, htop⟩ := top_of x.rk (s :: l.map G.hd) (by simp)
    obtain ⟨pa, pc, e⟩ := List.append_of_mem hm
    obtain ⟨a, b, e1, w1, w2, e2, e3, e4⟩ := Wk.cut pa m pc hS.1 e
    have hmn : m < x.n := by
      rcases List.mem_cons.1 hm with rfl | hm
      · exact hs
      · rw [← hn]; exact Wk.hds ho hS.1 m hm
    rw [e1] at hS
    obtain ⟨sa, sb⟩ := hS.cut w1 w2
    have hsub : ∀ k, k ∈ a ∨ k ∈ b → G.hd k ∈ s :: l.map G.hd := fun k hk => List.mem_cons_of_mem _ (List.mem_map.2 ⟨k, by rw [e1]; exact List.mem_append.2 hk, rfl⟩)
    have hmda : ∀ z ∈ G.mds a, x.rk z ≤ x.rk m := fun z hz => by
      unfold Gr.mds at hz
      obtain ⟨k, hk', rfl⟩ := List.mem_map.1 hz
      exact htop _ (hsub k (.inl (List.dropLast_subset _ hk')))
    have hmdb : ∀ z ∈ G.mds b, x.rk z ≤ x.rk m := fun z hz => by
      unfold Gr.mds at hz
      obtain ⟨k, hk', rfl⟩ := List.mem_map.1 hz
      exact htop _ (hsub k (.inr (List.dropLast_subset _ hk')))
    have htl : x.rk t ≤ x.rk m := by
      by_cases hb0 : b = []
      · subst hb0
        obtain rfl : m = t := w2
        exact Nat.le_refl _
      · have := Wk.vs w2 hb0
        have ht' : t ∈ b.map G.hd := by rw [← this]; simp
        obtain ⟨k, hk, rfl⟩ := List.mem_map.1 ht'
        exact htop _ (hsub k (.inr hk))
    have u1 := hU.up h hok ho hw hn a.length a m (Nat.le_refl _) hs hmn sa (htop s (by simp)) hmda
    have u2 := hW.down h hok ho hw hn b.length b m (Nat.le_refl _) ht hmn sb htl hmdb
    have pa' := w1.len0 hw
    have pb' := w2.len0 hw
    have hle : tw (U m) (W m) ≤ sat (G.len (a ++ b)) := by
      rw [Gr.len_app, ← sat_tw pa' pb']
      exact tw_mono (hU.b m hmn).1 (hW.b m hmn).1 u1 u2 (sat_b pa').2 (sat_b pb').2
    have hf := hS.far hw (by omega) (by omega)
    have := h1 m hmn
    exact ⟨m, hmn, by omega⟩
  · left
    have h2 := Gr.rl_far hw (show s < G.n by omega) (show t < G.n by omega)
    rw [Gr.rl_no hr] at h2
    have := (Gr.far_b hw s t (by omega) (by omega)).2
    omega

/-- The least sums of ways up (or, back, down to it), as they are defined. -/
structure UpS (x : Ix) (ew : Mat) (s : Nat) (U : Nat → Int) : Prop where
  b : ∀ v, v < x.n → Bd (U v)
  s0 : U s = 0
  tri : ∀ z v, z < x.n → v < x.n → x.rk z < x.rk v → U v ≤ tw (U z) (ew z v)
  low : ∀ K : Nat → Int, (∀ v, v < x.n → Bd (K v)) → K s = 0 → (∀ z v, z < x.n → v < x.n → x.rk z < x.rk v → K v ≤ tw (K z) (ew z v)) → ∀ v, v < x.n → K v ≤ U v
theorem Whole.far_up {G : Gr} {x : Ix} (h : Whole G x) (hok : x.Ok) (hw : G.Wt) (hn : G.n = x.n) {s : Nat} (hs : s < x.n) : ∀ z v, z < x.n → v < x.n → x.rk z < x.rk v → G.far s v ≤ tw (G.far s z) (x.ew false z v) := fun z v hz hv hlt => by
  have b1 := Gr.far_b hw s z (by omega) (by omega)
  have b2 := Gr.far_b hw z v (by omega) (by omega)
  exact Int.le_trans (Gr.far_tri hw (by omega) (show z < G.n by omega) (by omega)) (tw_mono b1.1 b2.1 (Int.le_refl _) (h.far_ent hok hw hn hz hv (fun e => by subst e; omega)) b1.2 (hok.ent_b z v).2)
theorem Whole.far_down {G : Gr} {x : Ix} (h : Whole G x) (hok : x.Ok) (hw : G.Wt) (hn : G.n = x.n) {t : Nat} (ht : t < x.n) : ∀ z v, z < x.n → v < x.n → x.rk z < x.rk v → G.far v t ≤ tw (G.far z t) (x.ew true z v) := fun z v hz hv hlt => by
  have b1 := Gr.far_b hw z t (by omega) (by omega)
  have b2 := Gr.far_b hw v z (by omega) (by omega)
  rw [tw_comm]
  exact Int.le_trans (Gr.far_tri hw (by omega) (show z < G.n by omega) (by omega)) (tw_mono b2.1 b1.1 (h.far_ent hok hw hn hv hz (fun e => by subst e; omega)) (Int.le_refl _) (hok.ent_b v z).2 b1.2)
/-- While the document makes ways: those from lower ranks are made, and of rank r the first ones. -/
structure WI (x : Ix) (ew : Mat) (s r : Nat) (pre : List Int) (U : Nat → Int) : Prop where
  b : ∀ v, v < x.n → Bd (U v)
  s0 : U s = 0
  low : ∀ K : Nat → Int, (∀ v, v < x.n → Bd (K v)) → K s = 0 → (∀ z v, z < x.n → v < x.n → x.rk z < x.rk v → K v ≤ tw (K z) (ew z v)) → ∀ v, v < x.n → K v ≤ U v
  tri : ∀ z v, z < x.n → v < x.n → x.rk z < x.rk v → x.rk z < r → U v ≤ tw (U z) (ew z v)
  cur : ∀ w, w < x.n → (w : Int) ∈ pre → U w ≤ tw (U (x.by_ r)) (ew (x.by_ r) w)
theorem Ix.Ok.ew_b {x : Ix} (h : x.Ok) (back : Bool) (i j : Nat) : Bd (x.ew back i j) := by
  have h1 := h.ent_b i j
  have h2 := h.ent_b j i
  unfold Ix.ew Bd
  cases back <;> simp <;> omega
theorem WI.first {x : Ix} {ew : Mat} {s : Nat} (hok : x.Ok) (hs : s < x.n) : WI x ew s (x.rk s) [] (fun v => if v = s then 0 else 4611686018427387906) := by
  refine ⟨fun v _ => ?_, if_pos rfl, fun K hK h0 _ v hv => ?_, fun z v hz hv _ hlt => ?_, fun w _ h => by cases h⟩
  · show Bd (if v = s then 0 else 4611686018427387906)
    unfold Bd; split <;> omega
  · show K v ≤ if v = s then 0 else 4611686018427387906
    split
    · next e => subst e; omega
    · exact (hK v hv).2
  · have hzs : z ≠ s := fun e => by subst e; omega
    show (if v = s then 0 else 4611686018427387906 : Int) ≤ tw (if z = s then 0 else 4611686018427387906) (ew z v)
    rw [if_neg hzs, tw_none]
    split <;> omega
theorem WI.step {x : Ix} {ew : Mat} {s r : Nat} {pre : List Int} {U : Nat → Int} (h : WI x ew s r pre U) (hok : x.Ok) (hsr : x.rk s ≤ r) (hr : r < x.n) (he : ∀ i j, Bd (ew i j)) {w : Nat} (hw : w < x.n) (hrw : r < x.rk w) :
    WI x ew s r (pre ++ [(w : Int)]) (if tw (U (x.by_ r)) (ew (x.by_ r) w) < U w then updI U w (tw (U (x.by_ r)) (ew (x.by_ r) w)) else U) := by
  have hb := hok.by_ r hr
  have hbw : x.by_ r ≠ w := fun e => by rw [e] at hb; omega
  have hsw : s ≠ w := fun e => by subst e; omega
  by_cases hc : tw (U (x.by_ r)) (ew (x.by_ r) w) < U w
  · rw [if_pos hc]
    have hle : ∀ v, updI U w (tw (U (x.by_ r)) (ew (x.by_ r) w)) v ≤ U v := fun v => by
      unfold updI; split
      · next e => rw [e]; omega
      · exact Int.le_refl _
    refine ⟨fun v hv => ?_, ?_, fun K hK h0 hcl v hv => ?_, fun z v hz hv hlt hzr => ?_, fun v hv hm => ?_⟩
    · unfold updI; split
      · exact tw_b (h.b _ hb.1) (he _ _)
      · exact h.b v hv
    · rw [updI_ne _ _ hsw]; exact h.s0
    · unfold updI; split
      · next e =>
        subst e
        exact Int.le_trans (hcl _ _ hb.1 hv (by rw [hb.2]; exact hrw)) (tw_mono (hK _ hb.1).1 (he _ _).1 (h.low K hK h0 hcl _ hb.1) (Int.le_refl _) (h.b _ hb.1).2 (he _ _).2)
      · exact h.low K hK h0 hcl v hv
    · have hzw : z ≠ w := fun e => by subst e; omega
      rw [updI_ne U _ hzw]
      exact Int.le_trans (hle v) (h.tri z v hz hv hlt hzr)
    · rw [updI_ne U _ hbw]
      rcases List.mem_append.1 hm with hm | hm
      · exact Int.le_trans (hle v) (h.cur v hv hm)
      · have : v = w := by have := List.mem_singleton.1 hm; omega
        subst this
        rw [updI_eq]; exact Int.le_refl _
  · rw [if_neg hc]
    refine ⟨h.b, h.s0, h.low, h.tri, fun v hv hm => ?_⟩
    rcases List.mem_append.1 hm with hm | hm
    · exact h.cur v hv hm
    · have : v = w := by have := List.mem_singleton.1 hm; omega
      subst this
      omega
theorem WI.next {x : Ix} {ew : Mat} {s r : Nat} {l : List Int} {U : Nat → Int} (h : WI x ew s r l U) (hok : x.Ok) (hr : r < x.n) (hl : ∀ w, w < x.n → r < x.rk w → (w : Int) ∈ l ∨ ew (x.by_ r) w = 4611686018427387906) : WI x ew s (r + 1) [] U := by
  refine ⟨h.b, h.s0, h.low, fun z v hz hv hlt hzr => ?_, fun w _ h => by cases h⟩
  by_cases e : x.rk z = r
  · have ez : z = x.by_ r := by rw [← e, (hok.rk z hz).2]
    rcases hl v hv (by omega) with h1 | h1
    · rw [ez]; exact h.cur v hv h1
    · rw [ez, h1, none_tw]; exact (h.b v hv).2
  · exact h.tri z v hz hv hlt (by omega)
theorem WI.last {x : Ix} {ew : Mat} {s : Nat} {U : Nat → Int} (hok : x.Ok) (h : WI x ew s x.n [] U) : UpS x ew s U :=
  ⟨h.b, h.s0, fun z v hz hv hlt => h.tri z v hz hv hlt (hok.rk z hz).1, h.low⟩
theorem Ix.upsTo_mem (x : Ix) (v : Int) (back : Bool) (z : Int) : ∀ k, z ∈ x.upsTo v back k ↔ ∃ r : Nat, r < k ∧ x.rank v < r ∧ x.dirE v back (x.by_ r : Nat) ≠ En.none ∧ z = (x.by_ r : Nat)
  | 0 => by simp [Ix.upsTo]
  | k + 1 => by
    have ih := x.upsTo_mem v back z k
    unfold Ix.upsTo
    by_cases hc : x.rank v < k ∧ x.dirE v back (x.by_ k : Nat) ≠ En.none
    · rw [if_pos hc, List.mem_append, ih, List.mem_singleton]
      constructor
      · rintro (⟨r, h1, h2⟩ | h)
        · exact ⟨r, by omega, h2⟩
        · exact ⟨k, by omega, hc.1, hc.2, h⟩
      · rintro ⟨r, h1, h2, h3, h4⟩
        by_cases e : r = k
        · subst e; exact .inr h4
        · exact .inl ⟨r, by omega, h2, h3, h4⟩
    · rw [if_neg hc, ih]
      constructor
      · rintro ⟨r, h1, h2⟩; exact ⟨r, by omega, h2⟩
      · rintro ⟨r, h1, h2, h3, h4⟩
        by_cases e : r = k
        · subst e; exact absurd ⟨h2, h3⟩ hc
        · exact ⟨r, by omega, h2, h3, h4⟩
theorem Ix.Ok.dir_ew {x : Ix} (hok : x.Ok) (back : Bool) {v w : Nat} (hv : v < x.n) (hw : w < x.n) (hne : v ≠ w) : (x.dirE (v : Nat) back (w : Nat)).w = x.ew back v w := by
  unfold Ix.dirE Ix.ew
  cases back
  · simp [at_nat (two_nat hv hw hne)]
  · simp [at_nat (two_nat hw hv (fun e => hne e.symm))]
theorem Ix.Ok.ups_mem {x : Ix} (hok : x.Ok) (back : Bool) {v : Nat} (hv : v < x.n) (z : Int) : z ∈ x.ups (v : Nat) back ↔ ∃ w : Nat, z = w ∧ w < x.n ∧ x.rk v < x.rk w ∧ x.dirE (v : Nat) back (w : Nat) ≠ En.none := by
  have hra : x.rank (v : Nat) = x.rk v := by unfold Ix.rank; rw [if_pos ⟨by omega, by omega⟩]; simp
  unfold Ix.ups Ix.vertex
  rw [if_pos (by simp; omega), x.upsTo_mem, hra]
  constructor
  · rintro ⟨r, h1, h2, h3, h4⟩
    have hb := hok.by_ r h1
    exact ⟨x.by_ r, h4, hb.1, by omega, h3⟩
  · rintro ⟨w, h1, h2, h3, h4⟩
    have hr := hok.rk w h2
    exact ⟨x.rk w, hr.1, by omega, by rw [hr.2]; exact h4, by rw [hr.2]; exact h1⟩
/-- Whoever is higher is in the row, or its entry is none. -/
theorem Ix.Ok.ups_or {x : Ix} (hok : x.Ok) (back : Bool) {v : Nat} (hv : v < x.n) : ∀ w, w < x.n → x.rk v < x.rk w → (w : Int) ∈ x.ups (v : Nat) back ∨ x.ew back v w = 4611686018427387906 := fun w hw hlt => by
  by_cases h : x.dirE (v : Nat) back (w : Nat) = En.none
  · right
    rw [← hok.dir_ew back hv hw (fun e => by subst e; omega), h]; rfl
  · left
    exact (hok.ups_mem back hv _).2 ⟨w, rfl, hw, hlt, h⟩

end Go.Proofs.YtoepbhacpidcbaaGreatDoor

/- How far it is along a row's entries, corrected vertex by vertex in whatever order, where a vertex may be stopped at: plain. -/
set_option linter.unusedVariables false
set_option linter.unusedSimpArgs false
namespace Go.Proofs.YtoepbhacpidcbaaGreatDoor
open Go.RowKit Go.Deep

structure SInvX (n : Nat) (E : Edges) (I : List (Nat × Int)) (T : Nat → Int → Prop) (x : Option Nat) (s : SpS) : Prop where
  sb : SB n E I s
  out : ∀ v, v < n → s.S v = false → some v ≠ x → (∀ e ∈ E v, s.far e.1 ≤ ad (s.far v) e.2) ∨ T v (s.far v)
  ini : ∀ e ∈ I, s.far e.1 ≤ e.2
theorem SInvX.pop {n : Nat} {E : Edges} {I : List (Nat × Int)} {T : Nat → Int → Prop} {s : SpS} (h : SInvX n E I T none s) {v : Nat} (hv : v < n) (hS : s.S v = true) :
    SInvX n E I T (some v) ⟨s.far, setS s.S v false, s.pr⟩ ∧ mu n ⟨s.far, setS s.S v false, s.pr⟩ < mu n s ∧ s.pr v = s.far v := by
  refine ⟨⟨⟨h.sb.rng, fun x hx hSx => ?_, h.sb.low⟩, fun x hx hSx hne => ?_, h.ini⟩, ?_, h.sb.ins v hv hS⟩
  · have hSx : setS s.S v false x = true := hSx
    unfold setS at hSx
    by_cases e : x = v
    · rw [if_pos e] at hSx; cases hSx
    · rw [if_neg e] at hSx; exact h.sb.ins x hx hSx
  · have hSx : setS s.S v false x = false := hSx
    unfold setS at hSx
    by_cases e : x = v
    · subst e; exact absurd rfl hne
    · rw [if_neg e] at hSx
      exact h.out x hx hSx (fun h => by cases h)
  · have := sumN_pop v hS n hv
    show 2 * sumN (fun v => (s.far v).toNat) n + sumN (fun x => if setS s.S v false x then 1 else 0) n < 2 * sumN (fun v => (s.far v).toNat) n + sumN (fun v => if s.S v then 1 else 0) n
    omega
structure SFarT (n : Nat) (E : Edges) (I : List (Nat × Int)) (T : Nat → Int → Prop) (far : Nat → Int) : Prop where
  rng : ∀ v, v < n → 0 ≤ far v ∧ far v ≤ 4611686018427387906
  ini : ∀ e ∈ I, far e.1 ≤ e.2
  out : ∀ v, v < n → (∀ e ∈ E v, far e.1 ≤ ad (far v) e.2) ∨ T v (far v)
  low : ∀ X, SGood n E I X → ∀ v, v < n → X v ≤ far v
theorem SInvX.last {n : Nat} {E : Edges} {I : List (Nat × Int)} {T : Nat → Int → Prop} {s : SpS} (h : SInvX n E I T none s) (h0 : ∀ v, v < n → s.S v = false) : SFarT n E I T s.far :=
  ⟨h.sb.rng, h.ini, fun v hv => h.out v hv (h0 v hv) (fun h => by cases h), h.sb.low⟩
/-- The first: all is None but s, which is 0 and in. -/
theorem SInvX.first {n : Nat} {E : Edges} {T : Nat → Int → Prop} {u : Nat} (hu : u < n) (hE : ∀ v, v < n → EOk n (E v)) (s : SpS) (hf : ∀ v, v < n → s.far v = if v = u then 0 else 4611686018427387906) (hS : ∀ v, v < n → s.S v = decide (v = u)) (hp : s.pr u = 0) :
    SInvX n E [(u, 0)] T none s := by
  refine ⟨⟨fun v hv => ?_, fun v hv h => ?_, fun X hX v hv => ?_⟩, fun v hv hSv _ => ?_, fun e he => ?_⟩
  · rw [hf v hv]; split <;> omega
  · rw [hS v hv, decide_eq_true_eq] at h
    subst h
    rw [hp, hf v hv, if_pos rfl]
  · rw [hf v hv]; split
    · next e => subst e; exact hX.2.1 (v, 0) (by simp)
    · exact hX.1 v
  · rw [hS v hv, decide_eq_false_iff_not] at hSv
    left
    intro e he
    have h1 := (hE v hv e he)
    rw [hf v hv, if_neg hSv, ad_none h1.2, hf _ h1.1]
    split <;> omega
  · rw [List.mem_singleton] at he
    subst he
    show s.far u ≤ 0
    rw [hf u hu, if_pos rfl]; exact Int.le_refl _

/-- The entries that a vertex goes on by. -/
def Ix.edE (x : Ix) (v : Nat) (back : Bool) (el : x.RowEl v back) : Nat × Int := (x.by_ el.1, (x.rowE v back el.1).w)
def Ix.ued (x : Ix) (back : Bool) : Edges := fun v => (x.rowTo v back 24).map (x.edE v back)
theorem Ix.Ok.edE_eq {x : Ix} (hok : x.Ok) {v : Nat} {back : Bool} (hv : v < x.n) (el : x.RowEl v back) : (x.edE v back el).1 < x.n ∧ x.rk v < x.rk (x.edE v back el).1 ∧ (x.edE v back el).2 = x.ew back v (x.edE v back el).1 := by
  obtain ⟨r, h1, h2, h3⟩ := el
  have hb := hok.by_ r h2
  refine ⟨hb.1, by show x.rk v < x.rk (x.by_ r); omega, ?_⟩
  show (x.rowE v back r).w = x.ew back v (x.by_ r)
  rw [hok.rowE_dir back hv h1 h2, hok.dir_ew back hv hb.1 (fun e => by rw [← e] at hb; omega)]
theorem Ix.Ok.ued_mem {x : Ix} (hok : x.Ok) {v : Nat} {back : Bool} (hv : v < x.n) {e : Nat × Int} (he : e ∈ x.ued back v) : e.1 < x.n ∧ x.rk v < x.rk e.1 ∧ e.2 = x.ew back v e.1 := by
  unfold Ix.ued at he
  obtain ⟨el, _, rfl⟩ := List.mem_map.1 he
  exact hok.edE_eq hv el
theorem Ix.Ok.ued_or {x : Ix} (hok : x.Ok) (back : Bool) {v w : Nat} (hv : v < x.n) (hw : w < x.n) (hlt : x.rk v < x.rk w) : (w, x.ew back v w) ∈ x.ued back v ∨ x.ew back v w = 4611686018427387906 := by
  rcases hok.ups_or back hv w hw hlt with h | h
  · left
    rw [← hok.row_all back hv] at h
    obtain ⟨el, h1, h2⟩ := List.mem_map.1 h
    refine List.mem_map.2 ⟨el, h1, ?_⟩
    have h3 := hok.edE_eq hv el
    have h4 : (x.edE v back el).1 = w := by have : ((x.by_ el.1 : Nat) : Int) = (w : Int) := h2; show x.by_ el.1 = w; omega
    rw [h4] at h3
    exact Prod.ext h4 h3.2.2
  · exact .inr h
/-- A vertex is stopped at: it is come to better from above. -/
def Stl (x : Ix) (back : Bool) (s v : Nat) (d : Int) : Prop := ∃ (w : Nat) (c : Int), w < x.n ∧ x.rk v < x.rk w ∧ (0 ≤ c ∧ c ≤ 4611686018427387906) ∧ (∀ X, SGood x.n (x.ued back) [(s, 0)] X → X w ≤ c) ∧ ad c (x.ew (!back) v w) < d

theorem sgood_of {x : Ix} (hok : x.Ok) {back : Bool} {s : Nat} (hs : s < x.n) {K : Nat → Int} (hK : ∀ v, v < x.n → Bd (K v)) (h0 : K s = 0) (hcl : ∀ z v, z < x.n → v < x.n → x.rk z < x.rk v → K v ≤ tw (K z) (x.ew back z v)) :
    SGood x.n (x.ued back) [(s, 0)] (fun v => if v < x.n then K v else 0) := by
  refine ⟨fun v => ?_, fun e he => ?_, fun v hv e he d h1 h2 h3 => ?_⟩
  · show (if v < x.n then K v else 0) ≤ _
    split
    · next h => exact (hK v h).2
    · omega
  · rw [List.mem_singleton] at he
    subst he
    show (if s < x.n then K s else 0) ≤ 0
    rw [if_pos hs, h0]; exact Int.le_refl _
  · obtain ⟨e1, e2, e3⟩ := hok.ued_mem hv he
    have h1 : (if v < x.n then K v else 0) ≤ d := h1
    rw [if_pos hv] at h1
    show (if e.1 < x.n then K e.1 else 0) ≤ ad d e.2
    have be := hok.ew_b back v e.1
    rw [if_pos e1, e3, ad_tw ⟨h2, h3⟩ be]
    exact Int.le_trans (hcl v e.1 hv e1 e2) (tw_mono (hK v hv).1 be.1 h1 (Int.le_refl _) h3 be.2)
theorem SFarT.tri {x : Ix} (hok : x.Ok) {back : Bool} {I : List (Nat × Int)} {T : Nat → Int → Prop} {U : Nat → Int} (h : SFarT x.n (x.ued back) I T U) {z v : Nat} (hz : z < x.n) (hv : v < x.n) (hlt : x.rk z < x.rk v) (hn : ¬ T z (U z)) : U v ≤ tw (U z) (x.ew back z v) := by
  rcases hok.ued_or back hz hv hlt with h1 | h1
  · rcases h.out z hz with h2 | h2
    · have := h2 _ h1
      rw [ad_tw (h.rng z hz) (hok.ew_b back z v)] at this
      exact this
    · exact absurd h2 hn
  · rw [h1, none_tw]; exact (h.rng v hv).2
theorem SFarT.ups {x : Ix} (hok : x.Ok) {back : Bool} {s : Nat} (hs : s < x.n) {U : Nat → Int} (h : SFarT x.n (x.ued back) [(s, 0)] (fun _ _ => False) U) : UpS x (x.ew back) s U := by
  refine ⟨h.rng, ?_, fun z v hz hv hlt => h.tri hok hz hv hlt (fun h => h), fun K hK h0 hcl v hv => ?_⟩
  · have h1 := h.ini (s, 0) (by simp)
    have h2 := (h.rng s hs).1
    have h1 : U s ≤ 0 := h1
    omega
  · have := h.low _ (sgood_of hok hs hK h0 hcl) v hv
    simp only [if_pos hv] at this
    exact this
theorem SFarT.clm {x : Ix} (hok : x.Ok) {back : Bool} {s : Nat} (hs : s < x.n) {U : Nat → Int} (h : SFarT x.n (x.ued back) [(s, 0)] (Stl x back s) U) {K : Nat → Int} (hK : ∀ v, v < x.n → Bd (K v)) (h0 : K s = 0)
    (hcl : ∀ z v, z < x.n → v < x.n → x.rk z < x.rk v → K v ≤ tw (K z) (x.ew back z v)) (hba : ∀ z v, z < x.n → v < x.n → x.rk z < x.rk v → K z ≤ tw (K v) (x.ew (!back) z v)) : Clm x (x.ew back) s K U := by
  have hg := sgood_of hok hs hK h0 hcl
  refine ⟨h.rng, ?_, fun v hv => ?_, fun z v hz hv hlt hle => h.tri hok hz hv hlt ?_⟩
  · have h1 := h.ini (s, 0) (by simp)
    have h2 := (h.rng s hs).1
    have h1 : U s ≤ 0 := h1
    omega
  · have := h.low _ hg v hv
    simp only [if_pos hv] at this
    exact this
  · rintro ⟨w, c, hw, hzw, hc, hX, hlt2⟩
    have h1 := hX _ hg
    simp only [if_pos hw] at h1
    have h2 := hba z w hz hw hzw
    have be := hok.ew_b (!back) z w
    rw [ad_tw hc be] at hlt2
    have h3 := tw_mono (hK w hw).1 be.1 h1 (Int.le_refl _) hc.2 be.2
    omega
theorem Whole.far_up' {G : Gr} {x : Ix} (h : Whole G x) (hok : x.Ok) (hw : G.Wt) (hn : G.n = x.n) {s : Nat} (hs : s < x.n) : ∀ z v, z < x.n → v < x.n → x.rk z < x.rk v → G.far s z ≤ tw (G.far s v) (x.ew true z v) := fun z v hz hv hlt => by
  have b1 := Gr.far_b hw s v (by omega) (by omega)
  have b2 := Gr.far_b hw v z (by omega) (by omega)
  exact Int.le_trans (Gr.far_tri hw (by omega) (show v < G.n by omega) (by omega)) (tw_mono b1.1 b2.1 (Int.le_refl _) (h.far_ent hok hw hn hv hz (fun e => by subst e; omega)) b1.2 (hok.ent_b v z).2)
theorem Whole.far_down' {G : Gr} {x : Ix} (h : Whole G x) (hok : x.Ok) (hw : G.Wt) (hn : G.n = x.n) {t : Nat} (ht : t < x.n) : ∀ z v, z < x.n → v < x.n → x.rk z < x.rk v → G.far z t ≤ tw (G.far v t) (x.ew false z v) := fun z v hz hv hlt => by
  have b1 := Gr.far_b hw v t (by omega) (by omega)
  have b2 := Gr.far_b hw z v (by omega) (by omega)
  rw [tw_comm]
  exact Int.le_trans (Gr.far_tri hw (by omega) (show v < G.n by omega) (by omega)) (tw_mono b2.1 b1.1 (h.far_ent hok hw hn hz hv (fun e => by subst e; omega)) (Int.le_refl _) (hok.ent_b z v).2 b1.2)
/-- Where it is stopped at what is come to better from above: it is as far all the same. -/
theorem SFarT.meet {G : Gr} {x : Ix} (h : Whole G x) (hok : x.Ok) (ho : G.Ok) (hw : G.Wt) (hn : G.n = x.n) {s t : Nat} {U W : Nat → Int} (hs : s < x.n) (ht : t < x.n) (hU : SFarT x.n (x.ued false) [(s, 0)] (Stl x false s) U) (hW : SFarT x.n (x.ued true) [(t, 0)] (Stl x true t) W) :
    (∀ v, v < x.n → G.far s t ≤ tw (U v) (W v)) ∧ (G.far s t = 4611686018427387906 ∨ ∃ v, v < x.n ∧ tw (U v) (W v) = G.far s t) :=
  Clm.meet h hok ho hw hn hs ht (hU.clm hok hs (fun v hv => Gr.far_b hw s v (by omega) (by omega)) (Gr.far_self hw (by omega)) (h.far_up hok hw hn hs) (h.far_up' hok hw hn hs))
    (hW.clm hok ht (fun v hv => Gr.far_b hw v t (by omega) (by omega)) (Gr.far_self hw (by omega)) (h.far_down hok hw hn ht) (h.far_down' hok hw hn ht))

end Go.Proofs.YtoepbhacpidcbaaGreatDoor

/- climb.spread: how far it is along a row's entries, stopped at where it is said; walked. -/
set_option linter.unusedVariables false
set_option linter.unusedSimpArgs false
namespace Go.Proofs.YtoepbhacpidcbaaGreatDoor
open Go.RowKit Go.Shelf Go.Deep

attribute [local go_sem] Oper.semAt_some

/-- A range over a function, one of whose locals lies in a box of its own in each round. -/
theorem wpIn_rangeFunc_ownB {P : Program} {F : Fence} {n : Nat} {α : Type} {g : Operand} {ps : Array Tmp} {assign body : Code} {Q : Exit → Act → World → Prop} {a : Act} {w : World}
    (hro : F.round = none) (h1 : 1 ≤ n) {gf : Nat} {lb : Array Value} (hg : a.eval g = .func (.func gf) #[] lb) (hFg : F.fn gf) (eg : ∀ args w, (callFunc gf args).run P w = .ok (.enter gf args) w)
    {encs : α → Array Value} {Kp : World → World → Prop} {S Sp : List α → Prop} {N : Nat} {w0 : World} (hseq : SeqStopsK F (n - 1) P gf lb encs Kp S Sp N w0)
    (hKt : ∀ {A B C : World}, Kp A B → Kp B C → Kp A C) (hKb : ∀ (W : World) (l : Nat) (o o' : Obj), w.heap.size ≤ l → W.heap[l]? = some o → o.isCells = false → o.isWalk = false → Kp W (W.putObj l o')) (hKa : ∀ (W : World) (o : Obj), Kp W (W.alloc o)) (hb0 : Below w0.heap.size w0 w) (hps : ∀ x, (encs x).size = ps.size)
    (I : List α → World → Prop) (Ix : Code → List α → World → Prop) (hI : OwnFrom w.heap.size I) (hIx : ∀ c, OwnFrom w.heap.size (Ix c)) (hIa : ∀ pre W o, I pre W → I pre (W.alloc o)) (hIs : ∀ pre W, I pre W → w.heap.size ≤ W.heap.size) (h0 : I [] w) (A : α → Nat → Array Value → Array Value) (T : TypeId) (cs : α → Array Value)
    (hassign : ∀ (l : Nat) (x : α) (W : World) (K : Act → World → Prop), K { tmps := A x W.heap.size ((ps.zip (encs x)).foldl (fun t (p, v) => t.setIfInBounds p v) a.tmps), defers := [] } (W.alloc (.cells (cs x) T)) →
      assign.wpIn (F.inRound l) (n - 1 - 1) P (Exit.then K (fun _ _ _ => False)) { tmps := (ps.zip (encs x)).foldl (fun t (p, v) => t.setIfInBounds p v) a.tmps, defers := [] } W)
    (hbody : ∀ (l : Nat) (pre : List α) (x : α) (W : World) (b : Nat), w.heap.size ≤ l → (∃ r, W.heap[l]? = some (.loop r)) → I pre W → pre.length < N → w.heap.size ≤ b → W.heap[b]? = some (.cells (cs x) T) →
      body.wpIn (F.inRound l) (n - 1 - 1) P (ownPostG w.heap.size Kp I Ix (pre ++ [x]) W) { tmps := A x b ((ps.zip (encs x)).foldl (fun t (p, v) => t.setIfInBounds p v) a.tmps), defers := [] } W)
    (hdone : ∀ (D : Nat) (xs : List α) (W : World), w.heap.size ≤ D → S xs → I xs W → W.heap[D]? = some (.deferred (some [])) → Q .normal { a with defers := { target := .collected D, args := #[] } :: a.defers } W)
    (hstop : ∀ (D : Nat) (c : Code) (pre : List α) (W : World), w.heap.size ≤ D → Sp pre → Ix c pre W → W.heap[D]? = some (.deferred (some [])) → c.wpIn F n P Q { a with defers := { target := .collected D, args := #[] } :: a.defers } W) :
    (Code.rangeFunc g ps assign body).wpIn F n P Q a w :=
  wpIn_rangeFunc_ownH hro h1 hg hFg eg hseq hKt hKb hb0 hps I Ix hI hIx h0 (fun x a' W => ∃ b, w.heap.size ≤ b ∧ W.heap[b]? = some (.cells (cs x) T) ∧ a' = { tmps := A x b ((ps.zip (encs x)).foldl (fun t (p, v) => t.setIfInBounds p v) a.tmps), defers := [] })
    (fun x a' s A B row hs hg hr => by
      obtain ⟨b, h1, h2, h3⟩ := hs
      refine ⟨b, h1, ?_, h3⟩
      refine (hg.block b (heap_lt h2) (fun e => ?_)).trans h2
      obtain ⟨_, o, ho, hc⟩ := hr b e.symm
      rw [h2] at ho; injection ho with ho; rw [← ho] at hc; cases hc)
    (fun l pre x W K hi hK => hassign l x W K (hK _ _ ((KeepsOthers.alloc _ _).from _) (hKa _ _) (hIa _ _ _ hi) ⟨W.heap.size, hIs _ _ hi, heap_new W _, rfl⟩))
    (fun l pre x a' W hl hr hi hx hlen => by
      obtain ⟨b, hb1, hb2, rfl⟩ := hx
      exact hbody l pre x W b hl hr hi hlen hb1 hb2) hdone hstop

/-- One box more. -/
theorem ThM.add {w : World} {bx : List (Nat × Value)} {Lh : HLoc} {Bf n : Nat} {s : SpS} {t : Value} {W : World} (h : ThM w bx Lh Bf n s t W) {b : Nat} {v : Value} (hb : W.cell? ⟨b, 0, none⟩ = some v) (hn : ∀ j, (Lh.at t).own j → j ≠ b) (hf : Bf ≠ b) : ThM w ((b, v) :: bx) Lh Bf n s t W :=
  ⟨fun x hx => by
    rcases List.mem_cons.1 hx with rfl | hx
    · exact hb
    · exact h.box x hx, h.bag, h.far, h.fr, fun j hj => ⟨(h.own j hj).1, (h.own j hj).2.1, fun x hx => by
      rcases List.mem_cons.1 hx with rfl | hx
      · exact hn j hj
      · exact (h.own j hj).2.2 x hx⟩, ⟨h.sep.1, fun x hx => by
      rcases List.mem_cons.1 hx with rfl | hx
      · exact hf
      · exact h.sep.2 x hx⟩⟩
theorem ThM.drop {w : World} {bx : List (Nat × Value)} {Lh : HLoc} {Bf n : Nat} {s : SpS} {t : Value} {W : World} {b : Nat × Value} (h : ThM w (b :: bx) Lh Bf n s t W) : ThM w bx Lh Bf n s t W :=
  ⟨fun x hx => h.box x (List.mem_cons_of_mem _ hx), h.bag, h.far, h.fr, fun j hj => ⟨(h.own j hj).1, (h.own j hj).2.1, fun x hx => (h.own j hj).2.2 x (List.mem_cons_of_mem _ hx)⟩, ⟨h.sep.1, fun x hx => h.sep.2 x (List.mem_cons_of_mem _ hx)⟩⟩

/-- What leads up (or down): the function that is asked for a vertex's row, and the row's own function. -/
structure ToOk (x : Ix) (L : IxLoc) (back : Bool) (f f1 : Nat) : Prop where
  ent : ∀ args w, (callFunc f args).run Tryz.prog w = .ok (.enter f args) w
  call : ∀ (v : Int) (w : World), Calls Tryz.prog f #[.pointer (some ⟨L.b, 0, none⟩), .int .i64 v] w fun e w' => e = .returned (.func (.func 220) #[] #[.pointer (some ⟨w.heap.size, 0, none⟩), .pointer (some ⟨w.heap.size + 1, 0, none⟩), .pointer (some ⟨w.heap.size + 1 + 1, 0, none⟩)]) ∧
      w' = ((w.alloc (.cells #[.pointer (some ⟨L.b, 0, none⟩)] 26)).alloc (.cells #[.int .i64 v] 3)).alloc (.cells #[.func (.func f1) #[] #[]] 270)
  seq : ∀ (Bx Bv Br : Nat) (a : Nat) (ha : a < x.n) (F : Nat → Prop) (f1' : ¬ F L.b) (f2 : ¬ F L.br) (f3 : ¬ F L.bb) (f4 : ¬ F 0) (f5 : ¬ F Bx) (f6 : ¬ F Bv) (w : World) (h : IxMem w L x)
    (hx : w.cell? ⟨Bx, 0, none⟩ = some (.pointer (some ⟨L.b, 0, none⟩))) (hv : w.cell? ⟨Bv, 0, none⟩ = some (.int .i64 (a : Nat))) (hr : w.cell? ⟨Br, 0, none⟩ = some (.func (.func f1) #[] #[])),
    SeqStopsK Fence.wide 6 Tryz.prog 220 #[.pointer (some ⟨Bx, 0, none⟩), .pointer (some ⟨Bv, 0, none⟩), .pointer (some ⟨Br, 0, none⟩)] (x.rowEnc a back) (Fr F) (fun ys => ys = x.rowTo a back 24) (fun pre => pre <+: x.rowTo a back 24) (x.rowTo a back 24).length w
theorem to_up (x : Ix) (L : IxLoc) : ToOk x L false 136 192 := ⟨enters_of Tryz.func136 (by kernel_rfl) rfl, fun v w => up_calls L.b v w, fun Bx Bv Br a ha F f1 f2 f3 f4 f5 f6 w h hx hv hr => all1_up 6 (by omega) Bx Bv Br a ha F f1 f2 f3 f4 f5 f6 w h hx hv hr⟩
theorem to_down (x : Ix) (L : IxLoc) : ToOk x L true 140 196 := ⟨enters_of Tryz.func140 (by kernel_rfl) rfl, fun v w => down_calls L.b v w, fun Bx Bv Br a ha F f1 f2 f3 f4 f5 f6 w h hx hv hr => all1_down 6 (by omega) Bx Bv Br a ha F f1 f2 f3 f4 f5 f6 w h hx hv hr⟩

end Go.Proofs.YtoepbhacpidcbaaGreatDoor
/- ringroadref16.Ways and Dist: the least sums of ways up, and of ways up and then down, as the document says; walked. -/
set_option linter.unusedVariables false
set_option linter.unusedSimpArgs false
namespace Go.Proofs.YtoepbhacpidcbaaGreatDoor
open Go.RowKit Go.Deep

/-- A row of one's own: its first n places hold U. -/
def RwI (W : World) (g c n : Nat) (U : Nat → Int) : Prop := n ≤ c ∧ ∃ V : Nat → Value, Blk W g c 3 V ∧ ∀ i, i < n → V i = .int .i64 (U i)
theorem RwI.fr {W W' : World} {g c n : Nat} {U : Nat → Int} (h : RwI W g c n U) {F : Nat → Prop} (hf : Fr F W W') (hF : ¬ F g) : RwI W' g c n U := by
  obtain ⟨h0, V, h1, h2⟩ := h
  exact ⟨h0, V, h1.fr hf hF, h2⟩
theorem RwI.cell {W : World} {g c n : Nat} {U : Nat → Int} (h : RwI W g c n U) {i : Nat} (hi : i < n) : W.cell? ⟨g, i, none⟩ = some (.int .i64 (U i)) := by
  obtain ⟨h0, V, h1, h2⟩ := h
  rw [h1.cell (show i < c by omega), h2 i hi]
theorem RwI.frozen {W : World} {g c n : Nat} {U : Nat → Int} (h : RwI W g c n U) (i : Nat) : W.frozen? ⟨g, i, none⟩ = false := by
  obtain ⟨h0, V, h1, h2⟩ := h
  exact h1.frozen i
theorem RwI.lt {W : World} {g c n : Nat} {U : Nat → Int} (h : RwI W g c n U) : g < W.heap.size := by
  obtain ⟨h0, V, h1, h2⟩ := h
  exact h1.lt
theorem RwI.set {W : World} {g c n : Nat} {U : Nat → Int} (h : RwI W g c n U) (i : Nat) (z : Int) : RwI (W.setCell ⟨g, i, none⟩ (.int .i64 z)) g c n (updI U i z) := by
  obtain ⟨h0, V, h1, h2⟩ := h
  refine ⟨h0, _, h1.setCell i (.int .i64 z), fun k hk => ?_⟩
  show (if k = i then Value.int .i64 z else V k) = Value.int .i64 (if k = i then z else U k)
  split
  · rfl
  · exact h2 k hk
theorem RwI.congr {W : World} {g c n : Nat} {U U' : Nat → Int} (h : RwI W g c n U) (e : ∀ i, i < n → U i = U' i) : RwI W g c n U' := by
  obtain ⟨h0, V, h1, h2⟩ := h
  exact ⟨h0, V, h1, fun i hi => (h2 i hi).trans (by rw [e i hi])⟩
theorem RwI.ints {W : World} {g c n : Nat} {U : Nat → Int} (h : RwI W g c n U) : IntsF W (some ⟨g, 0, none⟩) n U := fun _ => ⟨g, 0, rfl, fun j hj => by rw [Nat.zero_add]; exact h.cell hj⟩
/-- Out of a row that was appended to. -/
theorem own_rw {W : World} {base c : Nat} {A : Option Addr} {l : List Int} (h : W.ownsRow base 3 1 (.slice A l.length c) l.length (l.map (Value.int .i64))) (hl : 0 < l.length) : ∃ g, A = some ⟨g, 0, none⟩ ∧ base ≤ g ∧ RwI W g c l.length (fun j => l.getD j 0) := by
  obtain ⟨h1, h2 | ⟨g, cap, cur, e1, hb, hg, hn, _, hsz, ht⟩⟩ := h
  · have := h2.1
    simp only [Value.slice.injEq] at this
    omega
  · simp only [Value.slice.injEq] at e1
    obtain ⟨rfl, _, rfl⟩ := e1
    refine ⟨g, rfl, hb, hn, fun i => cur[i]?.getD undef, ⟨cur, hg, by omega, fun i hi => by show cur[i]? = some (cur[i]?.getD undef); rw [Array.getElem?_eq_getElem (by omega)]; rfl⟩, fun i hi => ?_⟩
    have e : (cur.toList.take (l.length * 1))[i]? = (l.map (Value.int .i64))[i]? := by rw [ht]
    rw [List.getElem?_take, if_pos (by omega), List.getElem?_map, List.getElem?_eq_getElem hi, Array.getElem?_toList] at e
    show cur[i]?.getD undef = _
    rw [e]
    simp [List.getD, List.getElem?_eq_getElem hi]

end Go.Proofs.YtoepbhacpidcbaaGreatDoor
