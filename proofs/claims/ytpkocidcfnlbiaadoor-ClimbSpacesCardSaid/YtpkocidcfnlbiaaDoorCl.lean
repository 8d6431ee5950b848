/- How far it is as the document says; up from one end and up from the other comes to it: plain. -/
import Derived.Test.YtpkocidcfnlbiaaDoorSetP
import Derived.Test.YtpkocidcfnlbiaaDoorWk
import Derived.Test.YtpkocidcfnlbiaaDoorRow2
import Derived.Test.YtpkocidcfnlbiaaDoorThz
set_option linter.unusedVariables false
set_option linter.unusedSimpArgs false
namespace Go.Proofs.YtpkocidcfnlbiaaDoor
open Go.RowKit Go.Deep

def sat (z : Int) : Int := if z ≤ 4611686018427387904 then z else 4611686018427387905
theorem sat_b {z : Int} (h : 0 ≤ z) : Bd (sat z) := by unfold sat Bd; split <;> omega
theorem sat_mono {a b : Int} (h : a ≤ b) : sat a ≤ sat b := by
  unfold sat; (repeat' split) <;> omega
theorem sat_le {a : Int} (h : 0 ≤ a) : sat a ≤ 4611686018427387905 := by unfold sat; split <;> omega
theorem sat_tw {a b : Int} (ha : 0 ≤ a) (hb : 0 ≤ b) : tw (sat a) (sat b) = sat (a + b) := by
  unfold tw sat; (repeat' split) <;> omega
theorem sat_id {a : Int} (h : a ≤ 4611686018427387904) : sat a = a := if_pos h
theorem tw_self0 {a : Int} (ha : Bd a) : tw 0 a = a := by rw [tw_comm, tw_zero' ha]
theorem tw_ge {a b : Int} (ha : Bd a) (hb : Bd b) : b ≤ tw a b := by rw [tw_comm]; exact tw_le hb ha

/-- How far it is from vertex to vertex, ahead of any vertex in between. -/
def Gr.d0 (G : Gr) : Mat := fun a b => if a = b then 0 else G.bst a b
def Gr.far (G : Gr) : Mat := fwM (fun _ => true) G.n G.d0 G.n
theorem Gr.d0_b {G : Gr} (hw : G.Wt) : MB G.n G.d0 := fun a b _ _ => by
  unfold Gr.d0; split
  · unfold Bd; omega
  · exact G.bst_b hw a b
theorem Gr.far_inv {G : Gr} (hw : G.Wt) : FwI (fun _ => true) G.n G.d0 G.far G.n := fwM_inv (G.d0_b hw) G.n (Nat.le_refl _)
theorem Gr.far_b {G : Gr} (hw : G.Wt) : MB G.n G.far := (Gr.far_inv hw).b
theorem Gr.far_self {G : Gr} (hw : G.Wt) {a : Nat} (ha : a < G.n) : G.far a a = 0 := by
  have h1 := (Gr.far_inv hw).le a a ha ha
  have h2 := (Gr.far_b hw a a ha ha).1
  unfold Gr.d0 at h1
  rw [if_pos rfl] at h1
  omega
theorem Gr.far_tri {G : Gr} (hw : G.Wt) {a m b : Nat} (ha : a < G.n) (hm : m < G.n) (hb : b < G.n) : G.far a b ≤ tw (G.far a m) (G.far m b) :=
  (Gr.far_inv hw).tri m hm hm rfl a b ha hb rfl rfl
theorem Gr.far_bst {G : Gr} (hw : G.Wt) {a b : Nat} (ha : a < G.n) (hb : b < G.n) : G.far a b ≤ G.bst a b := by
  by_cases e : a = b
  · subst e; rw [Gr.far_self hw ha]; exact (G.bst_b hw a a).1
  · have := (Gr.far_inv hw).le a b ha hb
    unfold Gr.d0 at this
    rw [if_neg e] at this
    exact this

/-- A walk that is as short as can be. -/
def Gr.Sh (G : Gr) (s : Nat) (l : List Nat) (t : Nat) : Prop := Wk G s l t ∧ ∀ l', Wk G s l' t → G.len l ≤ G.len l'
theorem Wk.len0 {G : Gr} (hw : G.Wt) {l : List Nat} {s t : Nat} (h : Wk G s l t) : 0 ≤ G.len l := by have := Wk.pos hw h; omega
theorem Gr.Sh.min {G : Gr} (hw : G.Wt) {s t : Nat} : ∀ (N : Nat) (l : List Nat), (G.len l).toNat ≤ N → Wk G s l t → ∃ l', G.Sh s l' t := by
  intro N
  induction N with
  | zero =>
    intro l hN h
    refine ⟨l, h, fun l' h' => ?_⟩
    have := h.len0 hw; have := h'.len0 hw; omega
  | succ N ih =>
    intro l hN h
    by_cases hc : ∃ l', Wk G s l' t ∧ G.len l' < G.len l
    · obtain ⟨l', h', hlt⟩ := hc
      have := h'.len0 hw
      exact ih l' (by omega) h'
    · refine ⟨l, h, fun l' h' => ?_⟩
      rcases Int.lt_or_le (G.len l') (G.len l) with hh | hh
      · exact absurd ⟨l', h', hh⟩ hc
      · exact hh
theorem Gr.Sh.cut {G : Gr} {s m t : Nat} {a b : List Nat} (h : G.Sh s (a ++ b) t) (ha : Wk G s a m) (hb : Wk G m b t) : G.Sh s a m ∧ G.Sh m b t := by
  refine ⟨⟨ha, fun l' h' => ?_⟩, ⟨hb, fun l' h' => ?_⟩⟩
  · have := h.2 (l' ++ b) (h'.app hb)
    rw [Gr.len_app, Gr.len_app] at this; omega
  · have := h.2 (a ++ l') (ha.app h')
    rw [Gr.len_app, Gr.len_app] at this; omega
open Classical in
/-- How long a walk is that is as short as can be. -/
noncomputable def Gr.rl (G : Gr) (s t : Nat) : Int := if h : ∃ l, G.Sh s l t then sat (G.len (Classical.choose h)) else 4611686018427387906
theorem Gr.rl_sh {G : Gr} {s t : Nat} {l : List Nat} (h : G.Sh s l t) : G.rl s t = sat (G.len l) := by
  have he : ∃ l, G.Sh s l t := ⟨l, h⟩
  unfold Gr.rl
  rw [dif_pos he]
  have h1 := (Classical.choose_spec he).2 l h.1
  have h2 := h.2 _ (Classical.choose_spec he).1
  rw [show G.len (Classical.choose he) = G.len l by omega]
theorem Gr.rl_no {G : Gr} {s t : Nat} (h : ¬ ∃ l, G.Sh s l t) : G.rl s t = 4611686018427387906 := dif_neg h
theorem Gr.rl_b {G : Gr} (hw : G.Wt) (s t : Nat) : Bd (G.rl s t) := by
  by_cases h : ∃ l, G.Sh s l t
  · obtain ⟨l, h⟩ := h
    rw [Gr.rl_sh h]; exact sat_b (h.1.len0 hw)
  · rw [Gr.rl_no h]; unfold Bd; omega
/-- No distance is less than a walk that is as short as can be. -/
theorem Gr.rl_far {G : Gr} (hw : G.Wt) {s t : Nat} (hs : s < G.n) (ht : t < G.n) : G.rl s t ≤ G.far s t := by
  have hc := (Gr.far_inv hw).sound (G.rl s) (fun i _ _ => Gr.rl_b hw s i) (fun i j hi hj _ _ => by
    by_cases h1 : ∃ l, G.Sh s l i
    · obtain ⟨l, h1⟩ := h1
      unfold Gr.d0
      by_cases e : i = j
      · subst e; rw [if_pos rfl, tw_zero' (Gr.rl_b hw s i)]; exact Int.le_refl _
      · rw [if_neg e]
        rcases G.bst_is i j with e1 | ⟨k, k1, k2, k3, k4, k5, e1⟩
        · rw [e1, none_tw]; exact (Gr.rl_b hw s j).2
        · have hk : Wk G i [k] j := ⟨k1, k2, k5, k3, by show (G.arc k).h.toNat = j; rw [k4]; exact Int.toNat_natCast j⟩
          have hl := h1.1.app hk
          obtain ⟨l', hl'⟩ := Gr.Sh.min hw _ _ (Nat.le_refl _) hl
          have hle := hl'.2 _ hl
          have hwk := hw k k1 k2
          rw [e1, Gr.rl_sh h1, Gr.rl_sh hl', ← sat_id hwk.2, sat_tw (h1.1.len0 hw) (by omega)]
          refine sat_mono (Int.le_trans hle ?_)
          rw [Gr.len_app, Gr.len_cons, Gr.len_nil]; omega
    · rw [Gr.rl_no h1, tw_none]; exact (Gr.rl_b hw s j).2) s t hs ht rfl rfl
  have h0 : G.rl s s = 0 := by
    have : G.Sh s [] s := ⟨rfl, fun l' h' => h'.len0 hw⟩
    rw [Gr.rl_sh this]; rfl
  rw [h0, tw_self0 (Gr.far_b hw s t hs ht)] at hc
  exact hc
theorem Gr.Sh.far {G : Gr} (hw : G.Wt) {s t : Nat} {l : List Nat} (hs : s < G.n) (ht : t < G.n) (h : G.Sh s l t) : sat (G.len l) ≤ G.far s t := by
  rw [← Gr.rl_sh h]; exact Gr.rl_far hw hs ht

/-- A walk by way of lower vertices bounds an entry, however long it is. -/
theorem Whole.least' {G : Gr} {x : Ix} (h : Whole G x) (hok : x.Ok) (ho : G.Ok) (hw : G.Wt) (hn : G.n = x.n) : ∀ (N : Nat) (l : List Nat) (u v : Nat), l.length ≤ N → u < x.n → v < x.n → u ≠ v → Wk G u l v →
    (∀ z ∈ G.mds l, z = u ∨ z = v ∨ x.rk z < min (x.rk u) (x.rk v)) → (x.ent u v).w ≤ sat (G.len l) := by
  intro N
  induction N with
  | zero =>
    intro l u v hl _ _ hne hk
    have : l = [] := List.length_eq_zero_iff.1 (by omega)
    subst this
    exact absurd hk hne
  | succ N ih =>
    intro l u v hl hu hv hne hk hz
    by_cases h0 : G.mds l = []
    · match l, hk with
      | [], hk => exact absurd hk hne
      | [k], hk =>
        have hkk := (hw k hk.1 hk.2.1).2
        have hlen : G.len [k] ≤ 4611686018427387904 := by rw [Gr.len_cons, Gr.len_nil]; omega
        have := h.least hok ho hw hn 1 [k] u v (Nat.le_refl _) hu hv hne hk (fun z hz' => by rw [h0] at hz'; cases hz') hlen
        rw [sat_id hlen]; exact this
      | k :: k' :: l', hk => simp [Gr.mds] at h0
    · obtain ⟨m, hm, htop⟩ := top_of x.rk (G.mds l) h0
      by_cases hmu : u ∈ G.mds l
      · obtain ⟨a, b, e, ha, hb, h1, h2, h3, h4⟩ := hk.at hmu
        have hla : 0 < a.length := List.length_pos_iff.2 ha
        have hlb : a.length + b.length = l.length := by rw [e, List.length_append]
        have hpa := Wk.pos hw h1
        have hla2 : G.len l = G.len a + G.len b := by rw [e, Gr.len_app]
        have := ih b u v (by omega) hu hv hne h2 (fun z hz' => hz z (h4 z hz'))
        exact Int.le_trans this (sat_mono (by omega))
      · by_cases hmv : v ∈ G.mds l
        · obtain ⟨a, b, e, ha, hb, h1, h2, h3, h4⟩ := hk.at hmv
          have hlb0 : 0 < b.length := List.length_pos_iff.2 hb
          have hlb : a.length + b.length = l.length := by rw [e, List.length_append]
          have hpb := Wk.pos hw h2
          have hla2 : G.len l = G.len a + G.len b := by rw [e, Gr.len_app]
          have := ih a u v (by omega) hu hv hne h1 (fun z hz' => hz z (h3 z hz'))
          exact Int.le_trans this (sat_mono (by omega))
        · have hlow : ∀ z ∈ G.mds l, x.rk z < min (x.rk u) (x.rk v) := fun z hz' => by
            rcases hz z hz' with rfl | rfl | h'
            · exact absurd hz' hmu
            · exact absurd hz' hmv
            · exact h'
          have hmlow := hlow m hm
          obtain ⟨a, b, e, ha, hb, h1, h2, h3, h4⟩ := hk.at hm
          have hin : ∀ z, z ∈ G.mds l → z < x.n := fun z hz' => by
            rw [← hn]
            refine Wk.hds ho hk z ?_
            unfold Gr.mds at hz'
            obtain ⟨k, hk', rfl⟩ := List.mem_map.1 hz'
            exact List.mem_map.2 ⟨k, List.dropLast_subset l hk', rfl⟩
          have hmn := hin m hm
          have hum : u ≠ m := fun e => by subst e; omega
          have hmv' : m ≠ v := fun e => by subst e; omega
          have hla0 : 0 < a.length := List.length_pos_iff.2 ha
          have hlb0 : 0 < b.length := List.length_pos_iff.2 hb
          have hlb : a.length + b.length = l.length := by rw [e, List.length_append]
          have hpa := h1.len0 hw
          have hpb := h2.len0 hw
          have hla2 : G.len l = G.len a + G.len b := by rw [e, Gr.len_app]
          have hlt : ∀ z, z ∈ G.mds l → z = m ∨ x.rk z < x.rk m := fun z hz' => by
            by_cases e : z = m
            · exact .inl e
            · right
              have h5 := htop z hz'
              have h6 : x.rk z ≠ x.rk m := fun e2 => e (hok.inj (hin z hz') hmn e2)
              omega
          have i1 := ih a u m (by omega) hu hmn hum h1 (fun z hz' => by
            rcases hlt z (h3 z hz') with h5 | h5
            · exact .inr (.inl h5)
            · exact .inr (.inr (by omega)))
          have i2 := ih b m v (by omega) hmn hv hmv' h2 (fun z hz' => by
            rcases hlt z (h4 z hz') with h5 | h5
            · exact .inl h5
            · exact .inr (.inr (by omega)))
          have hs := hok.sum2_tw (u : Nat) (v : Nat) (x.rk m)
          rw [(hok.rk m hmn).2, at_nat (two_nat hu hmn hum), at_nat (two_nat hmn hv hmv')] at hs
          have hle : (x.ent u v).w ≤ x.sum2 (u : Nat) (v : Nat) (x.rk m) := by
            rcases h.cases hu hv hne with ⟨e1, _, e2⟩ | ⟨e1, _, e2⟩ | ⟨j, hc, _⟩
            · have := e2 _ hmlow
              rw [e1]; show (4611686018427387906 : Int) ≤ _; omega
            · rw [e1]; exact e2 _ hmlow
            · rw [hc.w]; exact hc.le _ hmlow
          rw [hs] at hle
          have b1 := hok.ent_b u m
          have b2 := hok.ent_b m v
          rw [hla2, ← sat_tw hpa hpb]
          exact Int.le_trans hle (tw_mono (by omega) (by omega) i1 i2 (sat_b hpa).2 (sat_b hpb).2)

/-- No entry of a whole index is less than how far it is. -/
theorem Whole.far_ent {G : Gr} {x : Ix} (h : Whole G x) (hok : x.Ok) (hw : G.Wt) (hn : G.n = x.n) {u v : Nat} (hu : u < x.n) (hv : v < x.n) (hne : u ≠ v) : G.far u v ≤ (x.ent u v).w := by
  have hMB : MB x.n G.bst := fun a b _ _ => G.bst_b hw a b
  have hb : ∀ r, r < x.n → x.by_ r < x.n := fun r hr => (hok.by_ r hr).1
  have ru := hok.rk u hu
  have rv := hok.rk v hv
  rw [(h.rkw hok hw _ _ u v (Nat.lt_succ_self _) hu hv hne rfl).1]
  have hu' : u < G.n := by omega
  have := (rkw_tri hb hMB (min (x.rk u) (x.rk v)) (by omega)).sound (fun i => G.far u (x.by_ i)) (fun i hi _ => Gr.far_b hw _ _ hu' (by have := hb i hi; omega)) (fun i j hi hj _ _ => by
    have bi := hb i hi
    have bj := hb j hj
    have b1 := Gr.far_b hw u (x.by_ i) hu' (by omega)
    have b2 := Gr.far_b hw (x.by_ i) (x.by_ j) (by omega) (by omega)
    exact Int.le_trans (Gr.far_tri hw hu' (show x.by_ i < G.n by omega) (by omega)) (tw_mono b1.1 b2.1 (Int.le_refl _) (Gr.far_bst hw (by omega) (by omega)) b1.2 (G.bst_b hw _ _).2)) (x.rk u) (x.rk v) ru.1 rv.1 rfl rfl
  simp only [ru.2, rv.2] at this
  have hbr := rkw_b hb hMB (min (x.rk u) (x.rk v)) (by omega) u v hu hv
  rw [Gr.far_self hw hu', tw_self0 hbr] at this
  exact this

/-- What is told of ways up from s: K bounds it from below; where it is K, it goes on. -/
structure Clm (x : Ix) (ew : Mat) (s : Nat) (K U : Nat → Int) : Prop where
  b : ∀ v, v < x.n → Bd (U v)
  s0 : U s = 0
  low : ∀ v, v < x.n → K v ≤ U v
  tri : ∀ z v, z < x.n → v < x.n → x.rk z < x.rk v → U z ≤ K z → U v ≤ tw (U z) (ew z v)
def Ix.ew (x : Ix) (back : Bool) : Mat := fun z v => if back then (x.ent v z).w else (x.ent z v).w

theorem Wk.vs {G : Gr} {l : List Nat} {u v : Nat} (h : Wk G u l v) (hl : l ≠ []) : G.mds l ++ [v] = l.map G.hd := by
  have hdl := List.dropLast_concat_getLast hl
  have hh := h
  rw [← hdl] at hh
  have := Wk.last hh
  unfold Gr.mds
  rw [this]
  conv => rhs; rw [← hdl, List.map_append]
  rfl
/-- In a walk that is as short as can be no vertex comes again at the end. -/
theorem Gr.Sh.end_new {G : Gr} (hw : G.Wt) {s h : Nat} {l : List Nat} (hs : G.Sh s l h) : ¬ h ∈ G.mds l := fun hm => by
  obtain ⟨a, b, e, ha, hb, h1, h2, _, _⟩ := hs.1.at hm
  have := hs.2 a h1
  have hp := Wk.pos hw h2
  have : 0 < b.length := List.length_pos_iff.2 hb
  rw [e, Gr.len_app] at *
  omega
theorem Gr.Sh.first_new {G : Gr} (hw : G.Wt) {s h : Nat} {l : List Nat} (hs : G.Sh s l h) : ¬ s ∈ G.mds l := fun hm => by
  obtain ⟨a, b, e, ha, hb, h1, h2, _, _⟩ := hs.1.at hm
  have := hs.2 b h2
  have hp := Wk.pos hw h1
  have : 0 < a.length := List.length_pos_iff.2 ha
  rw [e, Gr.len_app] at *
  omega
theorem Gr.Sh.ends {G : Gr} (hw : G.Wt) {s : Nat} {l : List Nat} (hs : G.Sh s l s) : l = [] := by
  have h1 := hs.2 [] rfl
  have hp := Wk.pos hw hs.1
  rw [Gr.len_nil] at h1
  exact List.length_eq_zero_iff.1 (by omega)

theorem Wk.mds_lt {G : Gr} (ho : G.Ok) {l : List Nat} {u v z : Nat} (h : Wk G u l v) (hz : z ∈ G.mds l) : z < G.n := by
  refine Wk.hds ho h z ?_
  unfold Gr.mds at hz
  obtain ⟨k, hk', rfl⟩ := List.mem_map.1 hz
  exact List.mem_map.2 ⟨k, List.dropLast_subset l hk', rfl⟩

/-- Up a walk that is as short as can be, to its highest vertex. -/
theorem Clm.up {G : Gr} {x : Ix} (h : Whole G x) (hok : x.Ok) (ho : G.Ok) (hw : G.Wt) (hn : G.n = x.n) {s : Nat} {U : Nat → Int} (hU : Clm x (x.ew false) s (fun v => G.far s v) U) : ∀ (N : Nat) (l : List Nat) (t : Nat), l.length ≤ N → s < x.n → t < x.n →
    G.Sh s l t → x.rk s ≤ x.rk t → (∀ z ∈ G.mds l, x.rk z ≤ x.rk t) → U t ≤ sat (G.len l) := by
  intro N
  induction N with
  | zero =>
    intro l t hl _ _ hS _ _
    have : l = [] := List.length_eq_zero_iff.1 (by omega)
    subst this
    obtain rfl : s = t := hS.1
    rw [hU.s0]; rw [Gr.len_nil]; decide
  | succ N ih =>
    intro l t hl hs ht hS hst hall
    by_cases est : s = t
    · subst est
      have := hS.ends hw
      subst this
      rw [hU.s0]; rw [Gr.len_nil]; decide
    · obtain ⟨m, hm, htop⟩ := top_of x.rk (s :: G.mds l) (by simp)
      have hmn : m < x.n := by
        rcases List.mem_cons.1 hm with rfl | hm
        · exact hs
        · rw [← hn]; exact hS.1.mds_lt ho hm
      have hmt : m ≠ t := fun e => by
        subst e
        rcases List.mem_cons.1 hm with e | hm
        · exact est e.symm
        · exact hS.end_new hw hm
      have hrm : x.rk m < x.rk t := by
        have h1 : x.rk m ≤ x.rk t := by
          rcases List.mem_cons.1 hm with rfl | hm
          · exact hst
          · exact hall m hm
        have h2 : x.rk m ≠ x.rk t := fun e => hmt (hok.inj hmn ht e)
        omega
      have key : ∃ a b, l = a ++ b ∧ a.length < l.length ∧ Wk G s a m ∧ Wk G m b t ∧ (∀ y ∈ G.mds a, y ∈ G.mds l) ∧ (∀ y ∈ G.mds b, y ∈ G.mds l) := by
        by_cases ems : m = s
        · subst ems
          have hl0 : l ≠ [] := fun e => by subst e; exact est hS.1
          exact ⟨[], l, rfl, List.length_pos_iff.2 hl0, rfl, hS.1, fun y hy => (by cases hy), fun y hy => hy⟩
        · rcases List.mem_cons.1 hm with e | hm
          · exact absurd e ems
          · obtain ⟨a, b, e, ha, hb, h1, h2, h3, h4⟩ := hS.1.at hm
            have hb0 : 0 < b.length := List.length_pos_iff.2 hb
            exact ⟨a, b, e, by rw [e, List.length_append]; omega, h1, h2, h3, h4⟩
      obtain ⟨a, b, e, hal, h1, h2, h3, h4⟩ := key
      rw [e] at hS
      obtain ⟨sa, sb⟩ := hS.cut h1 h2
      have i1 := ih a m (by omega) hs hmn sa (htop s (by simp)) (fun z hz => htop z (List.mem_cons_of_mem _ (h3 z hz)))
      have hfar : sat (G.len a) ≤ G.far s m := sa.far hw (by omega) (by omega)
      have i2 := h.least' hok ho hw hn b.length b m t (Nat.le_refl _) hmn ht hmt h2 (fun z hz => by
        have hzl := h4 z hz
        have h5 := htop z (List.mem_cons_of_mem _ hzl)
        by_cases ez : z = m
        · exact .inl ez
        · have hzn : z < x.n := by rw [← hn]; exact h2.mds_lt ho hz
          have h6 : x.rk z ≠ x.rk m := fun e2 => ez (hok.inj hzn hmn e2)
          exact .inr (.inr (by omega)))
      have ht1 := hU.tri m t hmn ht hrm (Int.le_trans i1 hfar)
      have pa := h1.len0 hw
      have pb := h2.len0 hw
      have eb := hok.ent_b m t
      rw [e, Gr.len_app, ← sat_tw pa pb]
      refine Int.le_trans ht1 ?_
      show tw (U m) (x.ent m t).w ≤ _
      exact tw_mono (hU.b m hmn).1 (by omega) i1 i2 (sat_b pa).2 (sat_b pb).2
/-- And down from it. -/
theorem Clm.down {G : Gr} {x : Ix} (h : Whole G x) (hok : x.Ok) (ho : G.Ok) (hw : G.Wt) (hn : G.n = x.n) {s : Nat} {U : Nat → Int} (hU : Clm x (x.ew true) s (fun v => G.far v s) U) : ∀ (N : Nat) (l : List Nat) (t : Nat), l.length ≤ N → s < x.n → t < x.n →
    G.Sh t l s → x.rk s ≤ x.rk t → (∀ z ∈ G.mds l, x.rk z ≤ x.rk t) → U t ≤ sat (G.len l) := by
  intro N
  induction N with
  | zero =>
    intro l t hl _ _ hS _ _
    have : l = [] := List.length_eq_zero_iff.1 (by omega)
    subst this
    obtain rfl : t = s := hS.1
    rw [hU.s0]; rw [Gr.len_nil]; decide
  | succ N ih =>
    intro l t hl hs ht hS hst hall
    by_cases est : s = t
    · subst est
      have := hS.ends hw
      subst this
      rw [hU.s0]; rw [Gr.len_nil]; decide
    · obtain ⟨m, hm, htop⟩ := top_of x.rk (s :: G.mds l) (by simp)
      have hmn : m < x.n := by
        rcases List.mem_cons.1 hm with rfl | hm
        · exact hs
        · rw [← hn]; exact hS.1.mds_lt ho hm
      have hmt : m ≠ t := fun e => by
        subst e
        rcases List.mem_cons.1 hm with e | hm
        · exact est e.symm
        · exact hS.first_new hw hm
      have hrm : x.rk m < x.rk t := by
        have h1 : x.rk m ≤ x.rk t := by
          rcases List.mem_cons.1 hm with rfl | hm
          · exact hst
          · exact hall m hm
        have h2 : x.rk m ≠ x.rk t := fun e => hmt (hok.inj hmn ht e)
        omega
      have key : ∃ a b, l = a ++ b ∧ b.length < l.length ∧ Wk G t a m ∧ Wk G m b s ∧ (∀ y ∈ G.mds a, y ∈ G.mds l) ∧ (∀ y ∈ G.mds b, y ∈ G.mds l) := by
        by_cases ems : m = s
        · subst ems
          have hl0 : l ≠ [] := fun e => by subst e; exact est hS.1.symm
          exact ⟨l, [], by simp, List.length_pos_iff.2 hl0, hS.1, rfl, fun y hy => hy, fun y hy => by cases hy⟩
        · rcases List.mem_cons.1 hm with e | hm
          · exact absurd e ems
          · obtain ⟨a, b, e, ha, hb, h1, h2, h3, h4⟩ := hS.1.at hm
            have ha0 : 0 < a.length := List.length_pos_iff.2 ha
            exact ⟨a, b, e, by rw [e, List.length_append]; omega, h1, h2, h3, h4⟩
      obtain ⟨a, b, e, hbl, h1, h2, h3, h4⟩ := key
      rw [e] at hS
      obtain ⟨sa, sb⟩ := hS.cut h1 h2
      have i1 := ih b m (by omega) hs hmn sb (htop s (by simp)) (fun z hz => htop z (List.mem_cons_of_mem _ (h4 z hz)))
      have hfar : sat (G.len b) ≤ G.far m s := sb.far hw (by omega) (by omega)
      have i2 := h.least' hok ho hw hn a.length a t m (Nat.le_refl _) ht hmn (fun e => hmt e.symm) h1 (fun z hz => by
        have hzl := h3 z hz
        have h5 := htop z (List.mem_cons_of_mem _ hzl)
        by_cases ez : z = m
        · exact .inr (.inl ez)
        · have hzn : z < x.n := by rw [← hn]; exact h1.mds_lt ho hz
          have h6 : x.rk z ≠ x.rk m := fun e2 => ez (hok.inj hzn hmn e2)
          exact .inr (.inr (by omega)))
      have ht1 := hU.tri m t hmn ht hrm (Int.le_trans i1 hfar)
      have pa := h1.len0 hw
      have pb := h2.len0 hw
      have eb := hok.ent_b t m
      rw [e, Gr.len_app, ← sat_tw pa pb, tw_comm]
      refine Int.le_trans ht1 ?_
      show tw (U m) (x.ent t m).w ≤ _
      exact tw_mono (hU.b m hmn).1 (by omega) i1 i2 (sat_b pb).2 (sat_b pa).2

/-- UP FROM ONE END AND DOWN TO THE OTHER ONE, it is as far as in the graph. -/
theorem Clm.meet {G : Gr} {x : Ix} (h : Whole G x) (hok : x.Ok) (ho : G.Ok) (hw : G.Wt) (hn : G.n = x.n) {s t : Nat} {U W : Nat → Int} (hs : s < x.n) (ht : t < x.n) (hU : Clm x (x.ew false) s (fun v => G.far s v) U) (hW : Clm x (x.ew true) t (fun v => G.far v t) W) :
    (∀ v, v < x.n → G.far s t ≤ tw (U v) (W v)) ∧ (G.far s t = 4611686018427387906 ∨ ∃ v, v < x.n ∧ tw (U v) (W v) = G.far s t) := by
  have h1 : ∀ v, v < x.n → G.far s t ≤ tw (U v) (W v) := fun v hv => by
    have b1 := Gr.far_b hw s v (by omega) (by omega)
    have b2 := Gr.far_b hw v t (by omega) (by omega)
    exact Int.le_trans (Gr.far_tri hw (by omega) (show v < G.n by omega) (by omega)) (tw_mono b1.1 b2.1 (hU.low v hv) (hW.low v hv) (hU.b v hv).2 (hW.b v hv).2)
  refine ⟨h1, ?_⟩
  by_cases hr : ∃ l, G.Sh s l t
  · right
    obtain ⟨l, hS⟩ := hr
    obtain ⟨m, hm, htop⟩ := top_of x.rk (s :: l.map G.hd) (by simp)
    obtain ⟨pa, pc, e⟩ := List.append_of_mem hm
    obtain ⟨a, b, e1, w1, w2, e2, e3, e4⟩ := Wk.cut pa m pc hS.1 e
    have hmn : m < x.n := by
      rcases List.mem_cons.1 hm with rfl | hm
      · exact hs
      · rw [← hn]; exact Wk.hds ho hS.1 m hm
    rw [e1] at hS
    obtain ⟨sa, sb⟩ := hS.cut w1 w2
    have hsub : ∀ k, k ∈ a ∨ k ∈ b → G.hd k ∈ s :: l.map G.hd := fun k hk => List.mem_cons_of_mem _ (List.mem_map.2 ⟨k, by rw [e1]; exact List.mem_append.2 hk, rfl⟩)
    have hmda : ∀ z ∈ G.mds a, x.rk z ≤ x.rk m := fun z hz => by
      unfold Gr.mds at hz
      obtain ⟨k, hk', rfl⟩ := List.mem_map.1 hz
      exact htop _ (hsub k (.inl (List.dropLast_subset _ hk')))
    have hmdb : ∀ z ∈ G.mds b, x.rk z ≤ x.rk m := fun z hz => by
      unfold Gr.mds at hz
      obtain ⟨k, hk', rfl⟩ := List.mem_map.1 hz
      exact htop _ (hsub k (.inr (List.dropLast_subset _ hk')))
    have htl : x.rk t ≤ x.rk m := by
      by_cases hb0 : b = []
      · subst hb0
        obtain rfl : m = t := w2
        exact Nat.le_refl _
      · have := Wk.vs w2 hb0
        have ht' : t ∈ b.map G.hd := by rw [← this]; simp
        obtain ⟨k, hk, rfl⟩ := List.mem_map.1 ht'
        exact htop _ (hsub k (.inr hk))
    have u1 := hU.up h hok ho hw hn a.length a m (Nat.le_refl _) hs hmn sa (htop s (by simp)) hmda
    have u2 := hW.down h hok ho hw hn b.length b m (Nat.le_refl _) ht hmn sb htl hmdb
    have pa' := w1.len0 hw
    have pb' := w2.len0 hw
    have hle : tw (U m) (W m) ≤ sat (G.len (a ++ b)) := by
      rw [Gr.len_app, ← sat_tw pa' pb']
      exact tw_mono (hU.b m hmn).1 (hW.b m hmn).1 u1 u2 (sat_b pa').2 (sat_b pb').2
    have hf := hS.far hw (by omega) (by omega)
    have := h1 m hmn
    exact ⟨m, hmn, by omega⟩
  · left
    have h2 := Gr.rl_far hw (show s < G.n by omega) (show t < G.n by omega)
    rw [Gr.rl_no hr] at h2
    have := (Gr.far_b hw s t (by omega) (by omega)).2
    omega

/-- The least sums of ways up (or, back, down to it), as they are defined. -/
structure UpS (x : Ix) (ew : Mat) (s : Nat) (U : Nat → Int) : Prop where
  b : ∀ v, v < x.n → Bd (U v)
  s0 : U s = 0
  tri : ∀ z v, z < x.n → v < x.n → x.rk z < x.rk v → U v ≤ tw (U z) (ew z v)
  low : ∀ K : Nat → Int, (∀ v, v < x.n → Bd (K v)) → K s = 0 → (∀ z v, z < x.n → v < x.n → x.rk z < x.rk v → K v ≤ tw (K z) (ew z v)) → ∀ v, v < x.n → K v ≤ U v
theorem UpS.uniq {x : Ix} {ew : Mat} {s : Nat} {U W : Nat → Int} (hU : UpS x ew s U) (hW : UpS x ew s W) {v : Nat} (hv : v < x.n) : U v = W v := by
  have h1 := hU.low W hW.b hW.s0 hW.tri v hv
  have h2 := hW.low U hU.b hU.s0 hU.tri v hv
  omega
theorem Whole.far_up {G : Gr} {x : Ix} (h : Whole G x) (hok : x.Ok) (hw : G.Wt) (hn : G.n = x.n) {s : Nat} (hs : s < x.n) : ∀ z v, z < x.n → v < x.n → x.rk z < x.rk v → G.far s v ≤ tw (G.far s z) (x.ew false z v) := fun z v hz hv hlt => by
  have b1 := Gr.far_b hw s z (by omega) (by omega)
  have b2 := Gr.far_b hw z v (by omega) (by omega)
  exact Int.le_trans (Gr.far_tri hw (by omega) (show z < G.n by omega) (by omega)) (tw_mono b1.1 b2.1 (Int.le_refl _) (h.far_ent hok hw hn hz hv (fun e => by subst e; omega)) b1.2 (hok.ent_b z v).2)
theorem Whole.far_down {G : Gr} {x : Ix} (h : Whole G x) (hok : x.Ok) (hw : G.Wt) (hn : G.n = x.n) {t : Nat} (ht : t < x.n) : ∀ z v, z < x.n → v < x.n → x.rk z < x.rk v → G.far v t ≤ tw (G.far z t) (x.ew true z v) := fun z v hz hv hlt => by
  have b1 := Gr.far_b hw z t (by omega) (by omega)
  have b2 := Gr.far_b hw v z (by omega) (by omega)
  rw [tw_comm]
  exact Int.le_trans (Gr.far_tri hw (by omega) (show z < G.n by omega) (by omega)) (tw_mono b2.1 b1.1 (h.far_ent hok hw hn hv hz (fun e => by subst e; omega)) (Int.le_refl _) (hok.ent_b v z).2 b1.2)
theorem UpS.clm_up {G : Gr} {x : Ix} (h : Whole G x) (hok : x.Ok) (hw : G.Wt) (hn : G.n = x.n) {s : Nat} (hs : s < x.n) {U : Nat → Int} (hU : UpS x (x.ew false) s U) : Clm x (x.ew false) s (fun v => G.far s v) U :=
  ⟨hU.b, hU.s0, hU.low _ (fun v hv => Gr.far_b hw s v (by omega) (by omega)) (Gr.far_self hw (by omega)) (h.far_up hok hw hn hs), fun z v hz hv hlt _ => hU.tri z v hz hv hlt⟩
theorem UpS.clm_down {G : Gr} {x : Ix} (h : Whole G x) (hok : x.Ok) (hw : G.Wt) (hn : G.n = x.n) {t : Nat} (ht : t < x.n) {U : Nat → Int} (hU : UpS x (x.ew true) t U) : Clm x (x.ew true) t (fun v => G.far v t) U :=
  ⟨hU.b, hU.s0, hU.low _ (fun v hv => Gr.far_b hw v t (by omega) (by omega)) (Gr.far_self hw (by omega)) (h.far_down hok hw hn ht), fun z v hz hv hlt _ => hU.tri z v hz hv hlt⟩

/-- While the document makes ways: those from lower ranks are made, and of rank r the first ones. -/
structure WI (x : Ix) (ew : Mat) (s r : Nat) (pre : List Int) (U : Nat → Int) : Prop where
  b : ∀ v, v < x.n → Bd (U v)
  s0 : U s = 0
  low : ∀ K : Nat → Int, (∀ v, v < x.n → Bd (K v)) → K s = 0 → (∀ z v, z < x.n → v < x.n → x.rk z < x.rk v → K v ≤ tw (K z) (ew z v)) → ∀ v, v < x.n → K v ≤ U v
  tri : ∀ z v, z < x.n → v < x.n → x.rk z < x.rk v → x.rk z < r → U v ≤ tw (U z) (ew z v)
  cur : ∀ w, w < x.n → (w : Int) ∈ pre → U w ≤ tw (U (x.by_ r)) (ew (x.by_ r) w)
def MBe (n : Nat) (ew : Mat) : Prop := ∀ i j, i < n → j < n → Bd (ew i j)
theorem Ix.Ok.ew_b {x : Ix} (h : x.Ok) (back : Bool) (i j : Nat) : Bd (x.ew back i j) := by
  have h1 := h.ent_b i j
  have h2 := h.ent_b j i
  unfold Ix.ew Bd
  cases back <;> simp <;> omega
theorem WI.first {x : Ix} {ew : Mat} {s : Nat} (hok : x.Ok) (hs : s < x.n) : WI x ew s (x.rk s) [] (fun v => if v = s then 0 else 4611686018427387906) := by
  refine ⟨fun v _ => ?_, if_pos rfl, fun K hK h0 _ v hv => ?_, fun z v hz hv _ hlt => ?_, fun w _ h => by cases h⟩
  · show Bd (if v = s then 0 else 4611686018427387906)
    unfold Bd; split <;> omega
  · show K v ≤ if v = s then 0 else 4611686018427387906
    split
    · next e => subst e; omega
    · exact (hK v hv).2
  · have hzs : z ≠ s := fun e => by subst e; omega
    show (if v = s then 0 else 4611686018427387906 : Int) ≤ tw (if z = s then 0 else 4611686018427387906) (ew z v)
    rw [if_neg hzs, tw_none]
    split <;> omega
theorem WI.step {x : Ix} {ew : Mat} {s r : Nat} {pre : List Int} {U : Nat → Int} (h : WI x ew s r pre U) (hok : x.Ok) (hsr : x.rk s ≤ r) (hr : r < x.n) (he : ∀ i j, Bd (ew i j)) {w : Nat} (hw : w < x.n) (hrw : r < x.rk w) :
    WI x ew s r (pre ++ [(w : Int)]) (if tw (U (x.by_ r)) (ew (x.by_ r) w) < U w then updI U w (tw (U (x.by_ r)) (ew (x.by_ r) w)) else U) := by
  have hb := hok.by_ r hr
  have hbw : x.by_ r ≠ w := fun e => by rw [e] at hb; omega
  have hsw : s ≠ w := fun e => by subst e; omega
  by_cases hc : tw (U (x.by_ r)) (ew (x.by_ r) w) < U w
  · rw [if_pos hc]
    have hle : ∀ v, updI U w (tw (U (x.by_ r)) (ew (x.by_ r) w)) v ≤ U v := fun v => by
      unfold updI; split
      · next e => rw [e]; omega
      · exact Int.le_refl _
    refine ⟨fun v hv => ?_, ?_, fun K hK h0 hcl v hv => ?_, fun z v hz hv hlt hzr => ?_, fun v hv hm => ?_⟩
    · unfold updI; split
      · exact tw_b (h.b _ hb.1) (he _ _)
      · exact h.b v hv
    · rw [updI_ne _ _ hsw]; exact h.s0
    · unfold updI; split
      · next e =>
        subst e
        exact Int.le_trans (hcl _ _ hb.1 hv (by rw [hb.2]; exact hrw)) (tw_mono (hK _ hb.1).1 (he _ _).1 (h.low K hK h0 hcl _ hb.1) (Int.le_refl _) (h.b _ hb.1).2 (he _ _).2)
      · exact h.low K hK h0 hcl v hv
    · have hzw : z ≠ w := fun e => by subst e; omega
      rw [updI_ne U _ hzw]
      exact Int.le_trans (hle v) (h.tri z v hz hv hlt hzr)
    · rw [updI_ne U _ hbw]
      rcases List.mem_append.1 hm with hm | hm
      · exact Int.le_trans (hle v) (h.cur v hv hm)
      · have : v = w := by have := List.mem_singleton.1 hm; omega
        subst this
        rw [updI_eq]; exact Int.le_refl _
  · rw [if_neg hc]
    refine ⟨h.b, h.s0, h.low, h.tri, fun v hv hm => ?_⟩
    rcases List.mem_append.1 hm with hm | hm
    · exact h.cur v hv hm
    · have : v = w := by have := List.mem_singleton.1 hm; omega
      subst this
      omega
theorem WI.next {x : Ix} {ew : Mat} {s r : Nat} {l : List Int} {U : Nat → Int} (h : WI x ew s r l U) (hok : x.Ok) (hr : r < x.n) (hl : ∀ w, w < x.n → r < x.rk w → (w : Int) ∈ l ∨ ew (x.by_ r) w = 4611686018427387906) : WI x ew s (r + 1) [] U := by
  refine ⟨h.b, h.s0, h.low, fun z v hz hv hlt hzr => ?_, fun w _ h => by cases h⟩
  by_cases e : x.rk z = r
  · have ez : z = x.by_ r := by rw [← e, (hok.rk z hz).2]
    rcases hl v hv (by omega) with h1 | h1
    · rw [ez]; exact h.cur v hv h1
    · rw [ez, h1, none_tw]; exact (h.b v hv).2
  · exact h.tri z v hz hv hlt (by omega)
theorem WI.last {x : Ix} {ew : Mat} {s : Nat} {U : Nat → Int} (hok : x.Ok) (h : WI x ew s x.n [] U) : UpS x ew s U :=
  ⟨h.b, h.s0, fun z v hz hv hlt => h.tri z v hz hv hlt (hok.rk z hz).1, h.low⟩
theorem Ix.upsTo_mem (x : Ix) (v : Int) (back : Bool) (z : Int) : ∀ k, z ∈ x.upsTo v back k ↔ ∃ r : Nat, r < k ∧ x.rank v < r ∧ x.dirE v back (x.by_ r : Nat) ≠ En.none ∧ z = (x.by_ r : Nat)
  | 0 => by simp [Ix.upsTo]
  | k + 1 => by
    have ih := x.upsTo_mem v back z k
    unfold Ix.upsTo
    by_cases hc : x.rank v < k ∧ x.dirE v back (x.by_ k : Nat) ≠ En.none
    · rw [if_pos hc, List.mem_append, ih, List.mem_singleton]
      constructor
      · rintro (⟨r, h1, h2⟩ | h)
        · exact ⟨r, by omega, h2⟩
        · exact ⟨k, by omega, hc.1, hc.2, h⟩
      · rintro ⟨r, h1, h2, h3, h4⟩
        by_cases e : r = k
        · subst e; exact .inr h4
        · exact .inl ⟨r, by omega, h2, h3, h4⟩
    · rw [if_neg hc, ih]
      constructor
      · rintro ⟨r, h1, h2⟩; exact ⟨r, by omega, h2⟩
      · rintro ⟨r, h1, h2, h3, h4⟩
        by_cases e : r = k
        · subst e; exact absurd ⟨h2, h3⟩ hc
        · exact ⟨r, by omega, h2, h3, h4⟩
theorem Ix.Ok.dir_ew {x : Ix} (hok : x.Ok) (back : Bool) {v w : Nat} (hv : v < x.n) (hw : w < x.n) (hne : v ≠ w) : (x.dirE (v : Nat) back (w : Nat)).w = x.ew back v w := by
  unfold Ix.dirE Ix.ew
  cases back
  · simp [at_nat (two_nat hv hw hne)]
  · simp [at_nat (two_nat hw hv (fun e => hne e.symm))]
theorem Ix.Ok.ups_mem {x : Ix} (hok : x.Ok) (back : Bool) {v : Nat} (hv : v < x.n) (z : Int) : z ∈ x.ups (v : Nat) back ↔ ∃ w : Nat, z = w ∧ w < x.n ∧ x.rk v < x.rk w ∧ x.dirE (v : Nat) back (w : Nat) ≠ En.none := by
  have hra : x.rank (v : Nat) = x.rk v := by unfold Ix.rank; rw [if_pos ⟨by omega, by omega⟩]; simp
  unfold Ix.ups Ix.vertex
  rw [if_pos (by simp; omega), x.upsTo_mem, hra]
  constructor
  · rintro ⟨r, h1, h2, h3, h4⟩
    have hb := hok.by_ r h1
    exact ⟨x.by_ r, h4, hb.1, by omega, h3⟩
  · rintro ⟨w, h1, h2, h3, h4⟩
    have hr := hok.rk w h2
    exact ⟨x.rk w, hr.1, by omega, by rw [hr.2]; exact h4, by rw [hr.2]; exact h1⟩
/-- Whoever is higher is in the row, or its entry is none. -/
theorem Ix.Ok.ups_or {x : Ix} (hok : x.Ok) (back : Bool) {v : Nat} (hv : v < x.n) : ∀ w, w < x.n → x.rk v < x.rk w → (w : Int) ∈ x.ups (v : Nat) back ∨ x.ew back v w = 4611686018427387906 := fun w hw hlt => by
  by_cases h : x.dirE (v : Nat) back (w : Nat) = En.none
  · right
    rw [← hok.dir_ew back hv hw (fun e => by subst e; omega), h]; rfl
  · left
    exact (hok.ups_mem back hv _).2 ⟨w, rfl, hw, hlt, h⟩

end Go.Proofs.YtpkocidcfnlbiaaDoor

/- How far it is along a row's entries, corrected vertex by vertex in whatever order, where a vertex may be stopped at: plain. -/
set_option linter.unusedVariables false
set_option linter.unusedSimpArgs false
namespace Go.Proofs.YtpkocidcfnlbiaaDoor
open Go.RowKit Go.Deep

structure SInvX (n : Nat) (E : Edges) (I : List (Nat × Int)) (T : Nat → Int → Prop) (x : Option Nat) (s : SpS) : Prop where
  sb : SB n E I s
  out : ∀ v, v < n → s.S v = false → some v ≠ x → (∀ e ∈ E v, s.far e.1 ≤ ad (s.far v) e.2) ∨ T v (s.far v)
  ini : ∀ e ∈ I, s.far e.1 ≤ e.2
theorem SInvX.pop {n : Nat} {E : Edges} {I : List (Nat × Int)} {T : Nat → Int → Prop} {s : SpS} (h : SInvX n E I T none s) {v : Nat} (hv : v < n) (hS : s.S v = true) :
    SInvX n E I T (some v) ⟨s.far, setS s.S v false, s.pr⟩ ∧ mu n ⟨s.far, setS s.S v false, s.pr⟩ < mu n s ∧ s.pr v = s.far v := by
  refine ⟨⟨⟨h.sb.rng, fun x hx hSx => ?_, h.sb.low⟩, fun x hx hSx hne => ?_, h.ini⟩, ?_, h.sb.ins v hv hS⟩
  · have hSx : setS s.S v false x = true := hSx
    unfold setS at hSx
    by_cases e : x = v
    · rw [if_pos e] at hSx; cases hSx
    · rw [if_neg e] at hSx; exact h.sb.ins x hx hSx
  · have hSx : setS s.S v false x = false := hSx
    unfold setS at hSx
    by_cases e : x = v
    · subst e; exact absurd rfl hne
    · rw [if_neg e] at hSx
      exact h.out x hx hSx (fun h => by cases h)
  · have := sumN_pop v hS n hv
    show 2 * sumN (fun v => (s.far v).toNat) n + sumN (fun x => if setS s.S v false x then 1 else 0) n < 2 * sumN (fun v => (s.far v).toNat) n + sumN (fun v => if s.S v then 1 else 0) n
    omega
theorem SInvX.go {n : Nat} {E : Edges} {I : List (Nat × Int)} {T : Nat → Int → Prop} {s : SpS} {v : Nat} (h : SInvX n E I T (some v) s) (hE : EOk n (E v)) (hI : ∀ e ∈ I, e.1 < n) (hEE : ∀ v, v < n → EOk n (E v)) (hv : v < n) (hnv : ∀ e ∈ E v, e.1 ≠ v) :
    SInvX n E I T none ((E v).foldl (relax (s.far v)) s) ∧ mu n ((E v).foldl (relax (s.far v)) s) ≤ mu n s := by
  have hr := h.sb.rng v hv
  obtain ⟨b1, b2, b3, b4, b5, b6⟩ := SB.fold (d := s.far v) hr (E v) s h.sb hE (fun e he X hX => hX.2.2 v hv e he _ (h.sb.low X hX v hv) hr.1 hr.2)
  refine ⟨⟨b1, fun x hx hSx _ => ?_, fun e he => Int.le_trans (b2 _ (hI e he)) (h.ini e he)⟩, b6⟩
  obtain ⟨c1, c2⟩ := b4 x hx hSx
  rw [c2]
  by_cases ev : x = v
  · subst ev; exact .inl b3
  · rcases h.out x hx c1 (fun e => ev (Option.some.inj e)) with h1 | h1
    · exact .inl fun e he => Int.le_trans (b2 _ (hEE x hx e he).1) (h1 e he)
    · exact .inr h1
theorem SInvX.stop {n : Nat} {E : Edges} {I : List (Nat × Int)} {T : Nat → Int → Prop} {s : SpS} {v : Nat} (h : SInvX n E I T (some v) s) (hT : T v (s.far v)) : SInvX n E I T none s :=
  ⟨h.sb, fun x hx hSx _ => by
    by_cases e : x = v
    · subst e; exact .inr hT
    · exact h.out x hx hSx (fun h => e (Option.some.inj h)), h.ini⟩
structure SFarT (n : Nat) (E : Edges) (I : List (Nat × Int)) (T : Nat → Int → Prop) (far : Nat → Int) : Prop where
  rng : ∀ v, v < n → 0 ≤ far v ∧ far v ≤ 4611686018427387906
  ini : ∀ e ∈ I, far e.1 ≤ e.2
  out : ∀ v, v < n → (∀ e ∈ E v, far e.1 ≤ ad (far v) e.2) ∨ T v (far v)
  low : ∀ X, SGood n E I X → ∀ v, v < n → X v ≤ far v
theorem SInvX.last {n : Nat} {E : Edges} {I : List (Nat × Int)} {T : Nat → Int → Prop} {s : SpS} (h : SInvX n E I T none s) (h0 : ∀ v, v < n → s.S v = false) : SFarT n E I T s.far :=
  ⟨h.sb.rng, h.ini, fun v hv => h.out v hv (h0 v hv) (fun h => by cases h), h.sb.low⟩
/-- The first: all is None but s, which is 0 and in. -/
theorem SInvX.first {n : Nat} {E : Edges} {T : Nat → Int → Prop} {u : Nat} (hu : u < n) (hE : ∀ v, v < n → EOk n (E v)) (s : SpS) (hf : ∀ v, v < n → s.far v = if v = u then 0 else 4611686018427387906) (hS : ∀ v, v < n → s.S v = decide (v = u)) (hp : s.pr u = 0) :
    SInvX n E [(u, 0)] T none s := by
  refine ⟨⟨fun v hv => ?_, fun v hv h => ?_, fun X hX v hv => ?_⟩, fun v hv hSv _ => ?_, fun e he => ?_⟩
  · rw [hf v hv]; split <;> omega
  · rw [hS v hv, decide_eq_true_eq] at h
    subst h
    rw [hp, hf v hv, if_pos rfl]
  · rw [hf v hv]; split
    · next e => subst e; exact hX.2.1 (v, 0) (by simp)
    · exact hX.1 v
  · rw [hS v hv, decide_eq_false_iff_not] at hSv
    left
    intro e he
    have h1 := (hE v hv e he)
    rw [hf v hv, if_neg hSv, ad_none h1.2, hf _ h1.1]
    split <;> omega
  · rw [List.mem_singleton] at he
    subst he
    show s.far u ≤ 0
    rw [hf u hu, if_pos rfl]; exact Int.le_refl _

/-- The entries that a vertex goes on by. -/
def Ix.edE (x : Ix) (v : Nat) (back : Bool) (el : x.RowEl v back) : Nat × Int := (x.by_ el.1, (x.rowE v back el.1).w)
def Ix.ued (x : Ix) (back : Bool) : Edges := fun v => (x.rowTo v back 24).map (x.edE v back)
theorem Ix.Ok.edE_eq {x : Ix} (hok : x.Ok) {v : Nat} {back : Bool} (hv : v < x.n) (el : x.RowEl v back) : (x.edE v back el).1 < x.n ∧ x.rk v < x.rk (x.edE v back el).1 ∧ (x.edE v back el).2 = x.ew back v (x.edE v back el).1 := by
  obtain ⟨r, h1, h2, h3⟩ := el
  have hb := hok.by_ r h2
  refine ⟨hb.1, by show x.rk v < x.rk (x.by_ r); omega, ?_⟩
  show (x.rowE v back r).w = x.ew back v (x.by_ r)
  rw [hok.rowE_dir back hv h1 h2, hok.dir_ew back hv hb.1 (fun e => by rw [← e] at hb; omega)]
theorem Ix.Ok.ued_mem {x : Ix} (hok : x.Ok) {v : Nat} {back : Bool} (hv : v < x.n) {e : Nat × Int} (he : e ∈ x.ued back v) : e.1 < x.n ∧ x.rk v < x.rk e.1 ∧ e.2 = x.ew back v e.1 := by
  unfold Ix.ued at he
  obtain ⟨el, _, rfl⟩ := List.mem_map.1 he
  exact hok.edE_eq hv el
theorem Ix.Ok.ued_or {x : Ix} (hok : x.Ok) (back : Bool) {v w : Nat} (hv : v < x.n) (hw : w < x.n) (hlt : x.rk v < x.rk w) : (w, x.ew back v w) ∈ x.ued back v ∨ x.ew back v w = 4611686018427387906 := by
  rcases hok.ups_or back hv w hw hlt with h | h
  · left
    rw [← hok.row_all back hv] at h
    obtain ⟨el, h1, h2⟩ := List.mem_map.1 h
    refine List.mem_map.2 ⟨el, h1, ?_⟩
    have h3 := hok.edE_eq hv el
    have h4 : (x.edE v back el).1 = w := by have : ((x.by_ el.1 : Nat) : Int) = (w : Int) := h2; show x.by_ el.1 = w; omega
    rw [h4] at h3
    exact Prod.ext h4 h3.2.2
  · exact .inr h
theorem Ix.Ok.ued_ok {x : Ix} (hok : x.Ok) (back : Bool) {v : Nat} (hv : v < x.n) : EOk x.n (x.ued back v) := fun e he => by
  obtain ⟨h1, _, h3⟩ := hok.ued_mem hv he
  have b1 := hok.ent_b v e.1
  have b2 := hok.ent_b e.1 v
  refine ⟨h1, ?_⟩
  rw [h3]
  unfold Ix.ew
  cases back <;> simp <;> omega
theorem Ix.Ok.ued_ne {x : Ix} (hok : x.Ok) (back : Bool) {v : Nat} (hv : v < x.n) : ∀ e ∈ x.ued back v, e.1 ≠ v := fun e he h => by
  have := (hok.ued_mem hv he).2.1
  rw [h] at this; omega

/-- Behind some of them. -/
def rsu (x : Ix) (v : Nat) (back : Bool) (d : Int) (s : SpS) (pre : List (x.RowEl v back)) : SpS := (pre.map (x.edE v back)).foldl (relax d) s
theorem rsu_nil (x : Ix) (v : Nat) (back : Bool) (d : Int) (s : SpS) : rsu x v back d s [] = s := rfl
theorem rsu_snoc (x : Ix) (v : Nat) (back : Bool) (d : Int) (s : SpS) (pre : List (x.RowEl v back)) (el : x.RowEl v back) : rsu x v back d s (pre ++ [el]) = relax d (rsu x v back d s pre) (x.edE v back el) := by
  unfold rsu
  rw [List.map_append, List.foldl_append]; rfl
theorem rsu_all (x : Ix) (v : Nat) (back : Bool) (d : Int) (s : SpS) : rsu x v back d s (x.rowTo v back 24) = (x.ued back v).foldl (relax d) s := rfl

/-- A vertex is stopped at: it is come to better from above. -/
def Stl (x : Ix) (back : Bool) (s v : Nat) (d : Int) : Prop := ∃ (w : Nat) (c : Int), w < x.n ∧ x.rk v < x.rk w ∧ (0 ≤ c ∧ c ≤ 4611686018427387906) ∧ (∀ X, SGood x.n (x.ued back) [(s, 0)] X → X w ≤ c) ∧ ad c (x.ew (!back) v w) < d

theorem sgood_of {x : Ix} (hok : x.Ok) {back : Bool} {s : Nat} (hs : s < x.n) {K : Nat → Int} (hK : ∀ v, v < x.n → Bd (K v)) (h0 : K s = 0) (hcl : ∀ z v, z < x.n → v < x.n → x.rk z < x.rk v → K v ≤ tw (K z) (x.ew back z v)) :
    SGood x.n (x.ued back) [(s, 0)] (fun v => if v < x.n then K v else 0) := by
  refine ⟨fun v => ?_, fun e he => ?_, fun v hv e he d h1 h2 h3 => ?_⟩
  · show (if v < x.n then K v else 0) ≤ _
    split
    · next h => exact (hK v h).2
    · omega
  · rw [List.mem_singleton] at he
    subst he
    show (if s < x.n then K s else 0) ≤ 0
    rw [if_pos hs, h0]; exact Int.le_refl _
  · obtain ⟨e1, e2, e3⟩ := hok.ued_mem hv he
    have h1 : (if v < x.n then K v else 0) ≤ d := h1
    rw [if_pos hv] at h1
    show (if e.1 < x.n then K e.1 else 0) ≤ ad d e.2
    have be := hok.ew_b back v e.1
    rw [if_pos e1, e3, ad_tw ⟨h2, h3⟩ be]
    exact Int.le_trans (hcl v e.1 hv e1 e2) (tw_mono (hK v hv).1 be.1 h1 (Int.le_refl _) h3 be.2)
theorem SFarT.tri {x : Ix} (hok : x.Ok) {back : Bool} {I : List (Nat × Int)} {T : Nat → Int → Prop} {U : Nat → Int} (h : SFarT x.n (x.ued back) I T U) {z v : Nat} (hz : z < x.n) (hv : v < x.n) (hlt : x.rk z < x.rk v) (hn : ¬ T z (U z)) : U v ≤ tw (U z) (x.ew back z v) := by
  rcases hok.ued_or back hz hv hlt with h1 | h1
  · rcases h.out z hz with h2 | h2
    · have := h2 _ h1
      rw [ad_tw (h.rng z hz) (hok.ew_b back z v)] at this
      exact this
    · exact absurd h2 hn
  · rw [h1, none_tw]; exact (h.rng v hv).2
theorem SFarT.ups {x : Ix} (hok : x.Ok) {back : Bool} {s : Nat} (hs : s < x.n) {U : Nat → Int} (h : SFarT x.n (x.ued back) [(s, 0)] (fun _ _ => False) U) : UpS x (x.ew back) s U := by
  refine ⟨h.rng, ?_, fun z v hz hv hlt => h.tri hok hz hv hlt (fun h => h), fun K hK h0 hcl v hv => ?_⟩
  · have h1 := h.ini (s, 0) (by simp)
    have h2 := (h.rng s hs).1
    have h1 : U s ≤ 0 := h1
    omega
  · have := h.low _ (sgood_of hok hs hK h0 hcl) v hv
    simp only [if_pos hv] at this
    exact this
theorem SFarT.clm {x : Ix} (hok : x.Ok) {back : Bool} {s : Nat} (hs : s < x.n) {U : Nat → Int} (h : SFarT x.n (x.ued back) [(s, 0)] (Stl x back s) U) {K : Nat → Int} (hK : ∀ v, v < x.n → Bd (K v)) (h0 : K s = 0)
    (hcl : ∀ z v, z < x.n → v < x.n → x.rk z < x.rk v → K v ≤ tw (K z) (x.ew back z v)) (hba : ∀ z v, z < x.n → v < x.n → x.rk z < x.rk v → K z ≤ tw (K v) (x.ew (!back) z v)) : Clm x (x.ew back) s K U := by
  have hg := sgood_of hok hs hK h0 hcl
  refine ⟨h.rng, ?_, fun v hv => ?_, fun z v hz hv hlt hle => h.tri hok hz hv hlt ?_⟩
  · have h1 := h.ini (s, 0) (by simp)
    have h2 := (h.rng s hs).1
    have h1 : U s ≤ 0 := h1
    omega
  · have := h.low _ hg v hv
    simp only [if_pos hv] at this
    exact this
  · rintro ⟨w, c, hw, hzw, hc, hX, hlt2⟩
    have h1 := hX _ hg
    simp only [if_pos hw] at h1
    have h2 := hba z w hz hw hzw
    have be := hok.ew_b (!back) z w
    rw [ad_tw hc be] at hlt2
    have h3 := tw_mono (hK w hw).1 be.1 h1 (Int.le_refl _) hc.2 be.2
    omega
theorem Whole.far_up' {G : Gr} {x : Ix} (h : Whole G x) (hok : x.Ok) (hw : G.Wt) (hn : G.n = x.n) {s : Nat} (hs : s < x.n) : ∀ z v, z < x.n → v < x.n → x.rk z < x.rk v → G.far s z ≤ tw (G.far s v) (x.ew true z v) := fun z v hz hv hlt => by
  have b1 := Gr.far_b hw s v (by omega) (by omega)
  have b2 := Gr.far_b hw v z (by omega) (by omega)
  exact Int.le_trans (Gr.far_tri hw (by omega) (show v < G.n by omega) (by omega)) (tw_mono b1.1 b2.1 (Int.le_refl _) (h.far_ent hok hw hn hv hz (fun e => by subst e; omega)) b1.2 (hok.ent_b v z).2)
theorem Whole.far_down' {G : Gr} {x : Ix} (h : Whole G x) (hok : x.Ok) (hw : G.Wt) (hn : G.n = x.n) {t : Nat} (ht : t < x.n) : ∀ z v, z < x.n → v < x.n → x.rk z < x.rk v → G.far z t ≤ tw (G.far v t) (x.ew false z v) := fun z v hz hv hlt => by
  have b1 := Gr.far_b hw v t (by omega) (by omega)
  have b2 := Gr.far_b hw z v (by omega) (by omega)
  rw [tw_comm]
  exact Int.le_trans (Gr.far_tri hw (by omega) (show v < G.n by omega) (by omega)) (tw_mono b2.1 b1.1 (h.far_ent hok hw hn hz hv (fun e => by subst e; omega)) (Int.le_refl _) (hok.ent_b z v).2 b1.2)
/-- Where it is stopped at what is come to better from above: it is as far all the same. -/
theorem SFarT.meet {G : Gr} {x : Ix} (h : Whole G x) (hok : x.Ok) (ho : G.Ok) (hw : G.Wt) (hn : G.n = x.n) {s t : Nat} {U W : Nat → Int} (hs : s < x.n) (ht : t < x.n) (hU : SFarT x.n (x.ued false) [(s, 0)] (Stl x false s) U) (hW : SFarT x.n (x.ued true) [(t, 0)] (Stl x true t) W) :
    (∀ v, v < x.n → G.far s t ≤ tw (U v) (W v)) ∧ (G.far s t = 4611686018427387906 ∨ ∃ v, v < x.n ∧ tw (U v) (W v) = G.far s t) :=
  Clm.meet h hok ho hw hn hs ht (hU.clm hok hs (fun v hv => Gr.far_b hw s v (by omega) (by omega)) (Gr.far_self hw (by omega)) (h.far_up hok hw hn hs) (h.far_up' hok hw hn hs))
    (hW.clm hok ht (fun v hv => Gr.far_b hw v t (by omega) (by omega)) (Gr.far_self hw (by omega)) (h.far_down hok hw hn ht) (h.far_down' hok hw hn ht))

end Go.Proofs.YtpkocidcfnlbiaaDoor

/- climb.spread: how far it is along a row's entries, stopped at where it is said; walked. -/
set_option linter.unusedVariables false
set_option linter.unusedSimpArgs false
namespace Go.Proofs.YtpkocidcfnlbiaaDoor
open Go.RowKit Go.Shelf Go.Deep

attribute [local go_sem] Oper.semAt_some

/-- A range over a function, one of whose locals lies in a box of its own in each round. -/
theorem wpIn_rangeFunc_ownB {P : Program} {F : Fence} {n : Nat} {α : Type} {g : Operand} {ps : Array Tmp} {assign body : Code} {Q : Exit → Act → World → Prop} {a : Act} {w : World}
    (hro : F.round = none) (h1 : 1 ≤ n) {gf : Nat} {lb : Array Value} (hg : a.eval g = .func (.func gf) #[] lb) (hFg : F.fn gf) (eg : ∀ args w, (callFunc gf args).run P w = .ok (.enter gf args) w)
    {encs : α → Array Value} {Kp : World → World → Prop} {S Sp : List α → Prop} {N : Nat} {w0 : World} (hseq : SeqStopsK F (n - 1) P gf lb encs Kp S Sp N w0)
    (hKt : ∀ {A B C : World}, Kp A B → Kp B C → Kp A C) (hKb : ∀ (W : World) (l : Nat) (o o' : Obj), w.heap.size ≤ l → W.heap[l]? = some o → o.isCells = false → o.isWalk = false → Kp W (W.putObj l o')) (hKa : ∀ (W : World) (o : Obj), Kp W (W.alloc o)) (hb0 : Below w0.heap.size w0 w) (hps : ∀ x, (encs x).size = ps.size)
    (I : List α → World → Prop) (Ix : Code → List α → World → Prop) (hI : OwnFrom w.heap.size I) (hIx : ∀ c, OwnFrom w.heap.size (Ix c)) (hIa : ∀ pre W o, I pre W → I pre (W.alloc o)) (hIs : ∀ pre W, I pre W → w.heap.size ≤ W.heap.size) (h0 : I [] w) (A : α → Nat → Array Value → Array Value) (T : TypeId) (cs : α → Array Value)
    (hassign : ∀ (l : Nat) (x : α) (W : World) (K : Act → World → Prop), K { tmps := A x W.heap.size ((ps.zip (encs x)).foldl (fun t (p, v) => t.setIfInBounds p v) a.tmps), defers := [] } (W.alloc (.cells (cs x) T)) →
      assign.wpIn (F.inRound l) (n - 1 - 1) P (Exit.then K (fun _ _ _ => False)) { tmps := (ps.zip (encs x)).foldl (fun t (p, v) => t.setIfInBounds p v) a.tmps, defers := [] } W)
    (hbody : ∀ (l : Nat) (pre : List α) (x : α) (W : World) (b : Nat), w.heap.size ≤ l → (∃ r, W.heap[l]? = some (.loop r)) → I pre W → pre.length < N → w.heap.size ≤ b → W.heap[b]? = some (.cells (cs x) T) →
      body.wpIn (F.inRound l) (n - 1 - 1) P (ownPostG w.heap.size Kp I Ix (pre ++ [x]) W) { tmps := A x b ((ps.zip (encs x)).foldl (fun t (p, v) => t.setIfInBounds p v) a.tmps), defers := [] } W)
    (hdone : ∀ (D : Nat) (xs : List α) (W : World), w.heap.size ≤ D → S xs → I xs W → W.heap[D]? = some (.deferred (some [])) → Q .normal { a with defers := { target := .collected D, args := #[] } :: a.defers } W)
    (hstop : ∀ (D : Nat) (c : Code) (pre : List α) (W : World), w.heap.size ≤ D → Sp pre → Ix c pre W → W.heap[D]? = some (.deferred (some [])) → c.wpIn F n P Q { a with defers := { target := .collected D, args := #[] } :: a.defers } W) :
    (Code.rangeFunc g ps assign body).wpIn F n P Q a w :=
  wpIn_rangeFunc_ownH hro h1 hg hFg eg hseq hKt hKb hb0 hps I Ix hI hIx h0 (fun x a' W => ∃ b, w.heap.size ≤ b ∧ W.heap[b]? = some (.cells (cs x) T) ∧ a' = { tmps := A x b ((ps.zip (encs x)).foldl (fun t (p, v) => t.setIfInBounds p v) a.tmps), defers := [] })
    (fun x a' s A B row hs hg hr => by
      obtain ⟨b, h1, h2, h3⟩ := hs
      refine ⟨b, h1, ?_, h3⟩
      refine (hg.block b (heap_lt h2) (fun e => ?_)).trans h2
      obtain ⟨_, o, ho, hc⟩ := hr b e.symm
      rw [h2] at ho; injection ho with ho; rw [← ho] at hc; cases hc)
    (fun l pre x W K hi hK => hassign l x W K (hK _ _ ((KeepsOthers.alloc _ _).from _) (hKa _ _) (hIa _ _ _ hi) ⟨W.heap.size, hIs _ _ hi, heap_new W _, rfl⟩))
    (fun l pre x a' W hl hr hi hx hlen => by
      obtain ⟨b, hb1, hb2, rfl⟩ := hx
      exact hbody l pre x W b hl hr hi hlen hb1 hb2) hdone hstop

/-- One box more. -/
theorem ThM.add {w : World} {bx : List (Nat × Value)} {Lh : HLoc} {Bf n : Nat} {s : SpS} {t : Value} {W : World} (h : ThM w bx Lh Bf n s t W) {b : Nat} {v : Value} (hb : W.cell? ⟨b, 0, none⟩ = some v) (hn : ∀ j, (Lh.at t).own j → j ≠ b) (hf : Bf ≠ b) : ThM w ((b, v) :: bx) Lh Bf n s t W :=
  ⟨fun x hx => by
    rcases List.mem_cons.1 hx with rfl | hx
    · exact hb
    · exact h.box x hx, h.bag, h.far, h.fr, fun j hj => ⟨(h.own j hj).1, (h.own j hj).2.1, fun x hx => by
      rcases List.mem_cons.1 hx with rfl | hx
      · exact hn j hj
      · exact (h.own j hj).2.2 x hx⟩, ⟨h.sep.1, fun x hx => by
      rcases List.mem_cons.1 hx with rfl | hx
      · exact hf
      · exact h.sep.2 x hx⟩⟩
theorem ThM.drop {w : World} {bx : List (Nat × Value)} {Lh : HLoc} {Bf n : Nat} {s : SpS} {t : Value} {W : World} {b : Nat × Value} (h : ThM w (b :: bx) Lh Bf n s t W) : ThM w bx Lh Bf n s t W :=
  ⟨fun x hx => h.box x (List.mem_cons_of_mem _ hx), h.bag, h.far, h.fr, fun j hj => ⟨(h.own j hj).1, (h.own j hj).2.1, fun x hx => (h.own j hj).2.2 x (List.mem_cons_of_mem _ hx)⟩, ⟨h.sep.1, fun x hx => h.sep.2 x (List.mem_cons_of_mem _ hx)⟩⟩

/-- What leads up (or down): the function that is asked for a vertex's row, and the row's own function. -/
structure ToOk (x : Ix) (L : IxLoc) (back : Bool) (f f1 : Nat) : Prop where
  ent : ∀ args w, (callFunc f args).run Tryd.prog w = .ok (.enter f args) w
  call : ∀ (v : Int) (w : World), Calls Tryd.prog f #[.pointer (some ⟨L.b, 0, none⟩), .int .i64 v] w fun e w' => e = .returned (.func (.func 77) #[] #[.pointer (some ⟨w.heap.size, 0, none⟩), .pointer (some ⟨w.heap.size + 1, 0, none⟩), .pointer (some ⟨w.heap.size + 1 + 1, 0, none⟩)]) ∧
      w' = ((w.alloc (.cells #[.pointer (some ⟨L.b, 0, none⟩)] 25)).alloc (.cells #[.int .i64 v] 3)).alloc (.cells #[.func (.func f1) #[] #[]] 113)
  seq : ∀ (Bx Bv Br : Nat) (a : Nat) (ha : a < x.n) (F : Nat → Prop) (f1' : ¬ F L.b) (f2 : ¬ F L.br) (f3 : ¬ F L.bb) (f4 : ¬ F 0) (f5 : ¬ F Bx) (f6 : ¬ F Bv) (w : World) (h : IxMem w L x)
    (hx : w.cell? ⟨Bx, 0, none⟩ = some (.pointer (some ⟨L.b, 0, none⟩))) (hv : w.cell? ⟨Bv, 0, none⟩ = some (.int .i64 (a : Nat))) (hr : w.cell? ⟨Br, 0, none⟩ = some (.func (.func f1) #[] #[])),
    SeqStopsK Fence.wide 6 Tryd.prog 77 #[.pointer (some ⟨Bx, 0, none⟩), .pointer (some ⟨Bv, 0, none⟩), .pointer (some ⟨Br, 0, none⟩)] (x.rowEnc a back) (Fr F) (fun ys => ys = x.rowTo a back 24) (fun pre => pre <+: x.rowTo a back 24) (x.rowTo a back 24).length w
theorem to_up (x : Ix) (L : IxLoc) : ToOk x L false 23 56 := ⟨enters_of Tryd.func23 (by kernel_rfl) rfl, fun v w => up_calls L.b v w, fun Bx Bv Br a ha F f1 f2 f3 f4 f5 f6 w h hx hv hr => all1_up 6 (by omega) Bx Bv Br a ha F f1 f2 f3 f4 f5 f6 w h hx hv hr⟩
theorem to_down (x : Ix) (L : IxLoc) : ToOk x L true 25 57 := ⟨enters_of Tryd.func25 (by kernel_rfl) rfl, fun v w => down_calls L.b v w, fun Bx Bv Br a ha F f1 f2 f3 f4 f5 f6 w h hx hv hr => all1_down 6 (by omega) Bx Bv Br a ha F f1 f2 f3 f4 f5 f6 w h hx hv hr⟩

/-- What says where to stop. -/
structure StopOk (w : World) (x : Ix) (back : Bool) (s : Nat) (T : Nat → Int → Prop) (fs : Nat) (caps : Array Value) : Prop where
  ent : ∀ args w, (callFunc fs args).run Tryd.prog w = .ok (.enter fs args) w
  run : ∀ (W : World) (Bf : Nat) (far : Nat → Int) (v : Nat) (d : Int), Fr No w W → Blk W Bf x.n 3 (fun i => .int .i64 (far i)) → w.heap.size ≤ Bf → (∀ i, i < x.n → 0 ≤ far i ∧ far i ≤ 4611686018427387906) →
    (∀ X, SGood x.n (x.ued back) [(s, 0)] X → ∀ i, i < x.n → X i ≤ far i) → v < x.n → 0 ≤ d ∧ d ≤ 4611686018427387906 →
    Calls Tryd.prog fs (#[.int .i64 (v : Nat), .int .i64 d, .slice (some ⟨Bf, 0, none⟩) x.n x.n] ++ caps) W fun e w' => ∃ bb : Bool, e = .returned (.bool bb) ∧ Fr No W w' ∧ (bb = true → T v d)

/-- Between two rounds: what was taken out is still to go on from, or nothing was. -/
def RdyT (x : Ix) (back : Bool) (s : Nat) (T : Nat → Int → Prop) (g : Nat) (st : SpS) (v : Nat) (d : Int) (ok : Bool) : Prop :=
  (ok = false → SFarT x.n (x.ued back) [(s, 0)] T st.far) ∧ (ok = true → v < x.n ∧ d = st.far v ∧ SInvX x.n (x.ued back) [(s, 0)] T (some v) st ∧ mu x.n st < g)

def SprR (w : World) (x : Ix) (back : Bool) (s : Nat) (T : Nat → Int → Prop) (e : Ending) (w' : World) : Prop :=
  ∃ (Bf : Nat) (far : Nat → Int), e = .returned (.slice (some ⟨Bf, 0, none⟩) x.n x.n) ∧ Blk w' Bf x.n 3 (fun i => .int .i64 (far i)) ∧ Fr No w w' ∧ w.heap.size ≤ Bf ∧ SFarT x.n (x.ued back) [(s, 0)] T far

set_option maxRecDepth 100000 in
set_option maxHeartbeats 4000000 in
theorem spread_calls {w : World} {L : IxLoc} {x : Ix} (hx : IxMem w L x) (back : Bool) (f f1 : Nat) (hto : ToOk x L back f f1) (s : Nat) (hs : s < x.n) (fs : Nat) (caps : Array Value) (T : Nat → Int → Prop) (hstop : StopOk w x back s T fs caps) :
    Calls Tryd.prog 21 #[.int .i64 (x.n : Nat), .int .i64 (s : Nat), .func (.func f) #[.pointer (some ⟨L.b, 0, none⟩)] #[], .func (.func fs) #[] caps] w (SprR w x back s T) := by
  have hn := hx.ok.n2
  have hn1 := hx.ok.n1
  have HOK := hid hx.ok
  have HX := hid hx
  have HTO := hid hto
  have HSTOP := hid hstop
  clear hx hto hstop
  refine (callsIn_wide (n := 7)).1 ?_
  refine callsIn_of_wp_marks Tryd.func21 rfl trivial ?_ rfl
  refine wpIn_wide.2 ?_
  simp only [Tryd.ntmps21, List.size_toArray, List.length_cons, List.length_nil, Nat.reduceAdd, Nat.reduceSub, Array.replicate_succ, Array.replicate_zero, List.push_toArray, List.append_toArray, List.nil_append, List.cons_append]
  go_wp2_with fail
  refine (repeat_calls 4611686018427387906 x.n hn1 (by omega) w.heap.size _ (by simp [go_sem])).mono ?_
  rintro e w2 ⟨Bf, rfl, hfar, hf2, hbf⟩
  have hszw : (w.alloc (.cells #[.int .i64 4611686018427387906] 3)).heap.size = w.heap.size + 1 := by simp
  rw [hszw] at hbf
  have HF2 := hid (((Fr.refl No w).alloc (.cells #[.int .i64 4611686018427387906] 3)).trans hf2)
  have HFAR := hid hfar
  have lf := hfar.lt
  have hw2 := hf2.size
  rw [hszw] at hw2
  clear hf2 hfar hszw
  go_wp2_with fail
  refine (hnew_calls x.n hn1 (by omega) _).mono ?_
  rintro e w4 ⟨Lh, rfl, hbag, hf4, hown⟩
  have k9 := hf4.cell_some (p := ⟨w2.heap.size, 0, none⟩) (v := .slice (some ⟨Bf, 0, none⟩) x.n x.n) (by simp [go_sem]) (fun h => h)
  have HF4 := hid ((HF2.out.alloc _).trans hf4)
  have HFAR4 := hid ((HFAR.out.alloc _).fr hf4 (fun h => h))
  have hw4 : w2.heap.size + 1 ≤ w4.heap.size := by have := hf4.size; simpa using this
  have hown' : ∀ j, Lh.own j → w2.heap.size + 1 ≤ j := fun j hj => by have := hown j hj; simpa using this
  have HOWN := hid hown'
  have HLT : Hid (∀ j, Lh.own j → j < w4.heap.size) := hid fun j hj => hbag.own_lt hj
  have HBAG := hid hbag
  have c1 := HFAR4.out.cell hs
  have c2 := HFAR4.out.frozen s
  have lf4 := HFAR4.out.lt
  have l9 := cell_lt k9
  have hs2 : (s : Int) < x.n := by omega
  clear hf4 hown hown' hbag HFAR HF2
  go_wp2_with fail
  have hF0 : Fr (One Bf) w4 ((w4.setCell ⟨Bf, s, none⟩ (.int .i64 0)).alloc (.cells #[.pointer (some ⟨Lh.b, 0, none⟩)] 102)) := ((Fr.refl (One Bf) w4).set1 s _).alloc _
  have hthm : ThM w [(w2.heap.size, .slice (some ⟨Bf, 0, none⟩) x.n x.n), (w4.heap.size, .pointer (some ⟨Lh.b, 0, none⟩))] Lh Bf x.n ⟨fun v => if v = s then 0 else 4611686018427387906, fun _ => false, fun _ => 0⟩ Lh.t ((w4.setCell ⟨Bf, s, none⟩ (.int .i64 0)).alloc (.cells #[.pointer (some ⟨Lh.b, 0, none⟩)] 102)) := by
    refine ⟨fun y hy => ?_, ?_, ?_, ?_, fun j hj => ?_, ⟨by omega, fun y hy => ?_⟩⟩
    · simp only [List.mem_cons, List.not_mem_nil, or_false] at hy
      rcases hy with rfl | rfl
      · exact hF0.cell_some k9 (fun (e : w2.heap.size = Bf) => by omega)
      · simp [go_sem]
    · exact HBAG.out.fr hF0 (fun j hj (e : j = Bf) => by have := HOWN.out j hj; omega)
    · refine ((HFAR4.out.setCell s (.int .i64 0)).alloc _).congr (fun k hk => ?_)
      show (if k = s then Value.int .i64 0 else Value.int .i64 4611686018427387906) = Value.int .i64 (if k = s then 0 else 4611686018427387906)
      split <;> rfl
    · exact HF4.out.trans' hF0 (fun k hk (e : k = Bf) => by omega)
    · have h1 := HOWN.out j hj
      have h2 := HLT.out j hj
      refine ⟨by omega, by omega, fun y hy => ?_⟩
      simp only [List.mem_cons, List.not_mem_nil, or_false] at hy
      rcases hy with rfl | rfl
      · show j ≠ w2.heap.size; omega
      · show j ≠ w4.heap.size; omega
    · simp only [List.mem_cons, List.not_mem_nil, or_false] at hy
      rcases hy with rfl | rfl
      · show Bf ≠ w2.heap.size; omega
      · show Bf ≠ w4.heap.size; omega
  have HT := hid hthm
  clear hthm hF0 HOWN HLT HBAG HFAR4 HF4 c1 c2
  obtain ⟨W4, hW4⟩ : ∃ W4, (w4.setCell ⟨Bf, s, none⟩ (.int .i64 0)).alloc (.cells #[.pointer (some ⟨Lh.b, 0, none⟩)] 102) = W4 := ⟨_, rfl⟩
  rw [hW4] at HT ⊢
  obtain ⟨B9, hB9⟩ : ∃ B, w2.heap.size = B := ⟨_, rfl⟩
  obtain ⟨B10, hB10⟩ : ∃ B, w4.heap.size = B := ⟨_, rfl⟩
  rw [hB9, hB10] at HT
  rw [hB9, hB10]
  clear hW4 hB9 hB10 k9 l9 lf lf4 hw2 hw4 hbf
  refine (hput_calls (L := Lh.at Lh.t) HT.out.bag s 0 hs (by omega)).mono ?_
  intro e w5 hr
  obtain ⟨t5, c5, rfl, hth5, _, _⟩ := HT.out.put hr
  have hinv0 : SInvX x.n (x.ued back) [(s, 0)] T none ⟨fun v => if v = s then 0 else 4611686018427387906, setS (fun _ => false) s true, putP (fun _ => false) (fun _ => 0) s 0⟩ :=
    SInvX.first hs (fun v hv => HOK.out.ued_ok back hv) _ (fun v _ => rfl) (fun v _ => by
      show setS (fun _ => false) s true v = decide (v = s)
      unfold setS
      by_cases e : v = s
      · rw [if_pos e]; simp [e]
      · rw [if_neg e]; simp [e]) (by simp [putP, updI])
  have hSs : (⟨fun v => if v = s then 0 else 4611686018427387906, setS (fun _ => false) s true, putP (fun _ => false) (fun _ => 0) s 0⟩ : SpS).S s = true := by simp [setS]
  obtain ⟨s0, hs0⟩ : ∃ s0 : SpS, (⟨fun v => if v = s then 0 else 4611686018427387906, setS (fun _ => false) s true, putP (fun _ => false) (fun _ => 0) s 0⟩ : SpS) = s0 := ⟨_, rfl⟩
  have hth5 : ThM w [(B9, .slice (some ⟨Bf, 0, none⟩) x.n x.n), (B10, .pointer (some ⟨Lh.b, 0, none⟩))] Lh Bf x.n s0 t5 w5 := by rw [← hs0]; exact hth5
  rw [hs0] at hinv0 hSs
  obtain ⟨bx, hbx⟩ : ∃ bx, [(B9, Value.slice (some ⟨Bf, 0, none⟩) x.n x.n), (B10, .pointer (some ⟨Lh.b, 0, none⟩))] = bx := ⟨_, rfl⟩
  have m9 : (B9, Value.slice (some ⟨Bf, 0, none⟩) x.n x.n) ∈ bx := by rw [← hbx]; simp
  have m10 : (B10, Value.pointer (some ⟨Lh.b, 0, none⟩)) ∈ bx := by rw [← hbx]; simp
  rw [hbx] at hth5
  have M9 := hid m9
  have M10 := hid m10
  have HT5 := hid hth5
  have HINV0 := hid hinv0
  have k10 := hth5.box _ m10
  simp only at k10
  clear hbx hs0 hr HT m9 m10 hth5 hinv0
  go_wp2_with fail
  refine (hpop_calls (L := Lh.at t5) HT5.out.bag (by omega)).mono ?_
  intro e w6 hr
  rcases HT5.out.pop hr with ⟨hS, _⟩ | ⟨v, t6, hv, hS, rfl, hth, hf, hown⟩
  · exact absurd (hS s hs) (by rw [hSs]; decide)
  obtain ⟨p1, p2, p3⟩ := HINV0.out.pop hv hS
  obtain ⟨d1, hd⟩ : ∃ d, s0.pr v = d := ⟨_, rfl⟩
  rw [hd] at p3 ⊢
  obtain ⟨s1, hs1⟩ : ∃ s1 : SpS, (⟨s0.far, setS s0.S v false, s0.pr⟩ : SpS) = s1 := ⟨_, rfl⟩
  have p3' : d1 = s1.far v := by rw [← hs1]; exact p3
  rw [hs1] at p1 p2 hth
  have HRDY := hid (show RdyT x back s T (mu x.n s0) s1 v d1 true from ⟨fun h => (by cases h), fun _ => ⟨hv, p3', p1, p2⟩⟩)
  have HT6 := hid hth
  obtain ⟨g0, hg0⟩ : ∃ g0, mu x.n s0 = g0 := ⟨_, rfl⟩
  rw [hg0] at HRDY
  clear hr hS hth hf hown p1 p2 p3 p3' hd hs1 hg0 HINV0 HT5 k10 hSs
  go_wp2
  obtain ⟨ht7, hb7⟩ := HT6.out.box_new d1 3
  have HT7 := hid ht7
  have HB7 := hid hb7
  clear ht7 hb7
  refine wp_loop_ghost_k (fun k a' W => ∃ (st : SpS) (t : Value) (z : Nat) (d : Int) (b : Nat) (ok : Bool) (ds : List Nat) (u38 u39 u40 u41 u42 u43 u44 u45 u46 u47 u48 u49 u50 u51 u52 u74 : Value), (ThM w bx Lh Bf x.n st t W ∧ Bx w bx Lh Bf t b d W ∧ RdyT x back s T k st z d ok ∧ Marks w.heap.size ds W) ∧
    a' = { tmps := #[.int .i64 (x.n : Nat), .int .i64 (s : Nat), .func (.func f) #[.pointer (some ⟨L.b, 0, none⟩)] #[], .func (.func fs) #[] caps, undef, undef, undef, undef, .slice none 0 0, .pointer (some ⟨B9, 0, none⟩), .pointer (some ⟨B10, 0, none⟩), .int .i64 0, .int .i64 (z : Nat), .pointer (some ⟨b, 0, none⟩), .bool ok, undef, undef, undef, .slice (some ⟨w.heap.size, 0, none⟩) 1 1, .int .i64 (x.n : Nat), .slice (some ⟨Bf, 0, none⟩) x.n x.n, .tuple #[.pointer (some ⟨Lh.b, 0, none⟩), .int .i64 0], .int .i64 (x.n : Nat), .tuple #[.pointer (some ⟨Lh.b, 0, none⟩), .int .i64 0], .pointer (some ⟨Lh.b, 0, none⟩), .int .i64 0, .slice (some ⟨Bf, 0, none⟩) x.n x.n, .int .i64 (s : Nat), .pointer (some ⟨Bf, s, none⟩), .pointer (some ⟨Lh.b, 0, none⟩), .int .i64 (s : Nat), .int .i64 c5, .tuple #[.int .i64 (v : Nat), .int .i64 d1, .bool true], .pointer (some ⟨Lh.b, 0, none⟩), .tuple #[.int .i64 (v : Nat), .int .i64 d1, .bool true], .int .i64 (v : Nat), .int .i64 d1, .bool true, u38, u39, u40, u41, u42, u43, u44, u45, u46, u47, u48, u49, u50, u51, u52, undef, undef, undef, undef, undef, undef, undef, undef, undef, undef, undef, undef, undef, undef, undef, undef, undef, undef, undef, undef, undef, u74, undef], defers := ds.map mark }) g0 ?_ ?_
  · exact ⟨s1, t6, v, d1, _, true, [], _, _, _, _, _, _, _, _, _, _, _, _, _, _, _, _, ⟨HT7.out, HB7.out, HRDY.out, Marks.nil _ _⟩, rfl⟩
  intro gk a' wr hI J K hJ hK
  clear HT7 HB7 HRDY HT6
  obtain ⟨st, t, z, d, b, ok, ds, u38, u39, u40, u41, u42, u43, u44, u45, u46, u47, u48, u49, u50, u51, u52, u74, ⟨hth, hbx, hrdy, hmk⟩, rfl⟩ := hI
  have HTH := hid hth
  have HBX := hid hbx
  have HRD := hid hrdy
  have HMK := hid hmk
  have k9 := hth.box _ M9.out
  have k10 := hth.box _ M10.out
  have kb := hbx.c
  simp only at k9 k10
  clear hth hbx hrdy hmk
  cases ok with
  | false =>
    go_wp2
    refine leaves_marks ds wr HMK.out fun W' hW' => ?_
    have hWn : Fr No w W' := HTH.out.fr.trans' hW' (fun i hi hk => by have := (HMK.out.2 i hk).1; omega)
    refine ⟨.slice (some ⟨Bf, 0, none⟩) x.n x.n, by simp [results, Tryd.results21, go_sem], Bf, st.far, rfl, HTH.out.far.fr hW' (fun hk => by
      have := HTH.out.far.is_cells (HMK.out.2 Bf hk).2
      cases this), hWn, HTH.out.sep.1, HRD.out.1 rfl⟩
  | true =>
    obtain ⟨hzn, hdz, hinv, hmu⟩ := HRD.out.2 rfl
    have HINV := hid hinv
    have HMU := hid hmu
    have hdb := hinv.sb.rng z hzn
    rw [← hdz] at hdb
    have HDZ := hid hdz
    clear hinv hmu hdz HRD
    go_wp2_with fail
    rw [HSTOP.out.ent]
    go_wp2_with fail
    refine (HSTOP.out.run wr Bf st.far z d HTH.out.fr HTH.out.far HTH.out.sep.1 HINV.out.sb.rng HINV.out.sb.low hzn hdb).mono ?_
    rintro e W0 ⟨bb, rfl, hf0, hT⟩
    have HT0 := hid (HTH.out.no hf0)
    have HB0 := hid (HBX.out.no hf0)
    have HM0 := hid (HMK.out.no hf0)
    have HTT := hid hT
    clear HTH HBX HMK hf0 hT k9 k10 kb
    have kb := HB0.out.c
    have zb := HB0.out.z
    have lb := cell_lt kb
    have k10 := HT0.out.box _ M10.out
    simp only at k10
    have l10 := cell_lt k10
    cases bb with
    | true =>
      have hinv2 := HINV.out.stop (by rw [← HDZ.out]; exact HTT.out rfl)
      have HI2 := hid hinv2
      clear hinv2 HINV HTT
      go_wp2_with fail
      have hbn := HT0.out.box_new d 3
      have HT8 := hid hbn.1
      have HB8 := hid hbn.2
      clear hbn
      refine (hpop_calls (L := Lh.at t) HT8.out.bag (by omega)).mono ?_
      intro e W7 hr
      rcases HT8.out.pop hr with ⟨hS, rfl, hf, hth⟩ | ⟨v', t7, hv', hS, rfl, hth, hf, hown⟩
      · have hb7 := HB8.out.no hf
        have hm7 : Marks w.heap.size ds W7 := HM0.out.no (((Fr.refl No W0).alloc _).trans hf)
        have hset := hth.box_set hb7 0
        have hm8 := hm7.fr ((Fr.refl (One W0.heap.size) W7).set1 0 (.int .i64 0)) (fun k o (e : k = W0.heap.size) ho => cell_is_cells hb7.c (by rw [e] at ho; exact ho))
        have e7 := hb7.c
        have z7 := hb7.z
        have l7 := cell_lt e7
        have HSET := hid hset
        have HM8 := hid hm8
        have HS := hid hS
        clear hset hm8 hr hS hth hf hb7 hm7
        go_wp2
        refine Handed.intro (mu x.n st) HMU.out (hJ _ _ _ ⟨st, t, 0, 0, W0.heap.size, false, ds, _, _, _, _, _, _, _, _, _, _, _, _, _, _, _, _, ⟨HSET.out.1, HSET.out.2, ⟨fun _ => HI2.out.last HS.out, fun h => (by cases h)⟩, HM8.out⟩, rfl⟩)
      · have hb7 := HB8.out.fr hf (fun ho => HB8.out.own _ ho rfl) (fun j hj => .inl (hown j hj))
        have hm7 : Marks w.heap.size ds W7 := (HM0.out.no ((Fr.refl No W0).alloc _)).fr hf (fun k o hk ho => HT8.out.bag.own_cells hk ho)
        obtain ⟨pv, hpv⟩ : ∃ pv, st.pr v' = pv := ⟨_, rfl⟩
        have hset := hth.box_set hb7 pv
        have hm8 := hm7.fr ((Fr.refl (One W0.heap.size) W7).set1 0 (.int .i64 pv)) (fun k o (e : k = W0.heap.size) ho => cell_is_cells hb7.c (by rw [e] at ho; exact ho))
        have hstep := HI2.out.pop hv' hS
        rw [hpv] at hstep ⊢
        have e7 := hb7.c
        have z7 := hb7.z
        have l7 := cell_lt e7
        have HSET := hid hset
        have HM8 := hid hm8
        have HSTEP := hid hstep
        clear hset hm8 hr hS hth hf hb7 hm7 hstep hown hpv
        go_wp2
        refine Handed.intro (mu x.n st) HMU.out (hJ _ _ _ ⟨⟨st.far, setS st.S v' false, st.pr⟩, t7, v', pv, W0.heap.size, true, ds, _, _, _, _, _, _, _, _, _, _, _, _, _, _, _, _, ⟨HSET.out.1, HSET.out.2, ⟨fun h => (by cases h), fun _ => ⟨hv', HSTEP.out.2.2, HSTEP.out.1, HSTEP.out.2.1⟩⟩, HM8.out⟩, rfl⟩)
    | false =>
      have hgo := HINV.out.go (HOK.out.ued_ok back hzn) (fun e he => by rw [List.mem_singleton] at he; subst he; exact hs) (fun y hy => HOK.out.ued_ok back hy) hzn (HOK.out.ued_ne back hzn)
      rw [← HDZ.out] at hgo
      have hmu2 := Nat.lt_of_le_of_lt hgo.2 HMU.out
      have HGO := hid hgo.1
      have HMU2 := hid hmu2
      clear hgo hmu2 HINV HTT HMU
      go_wp2_with fail
      rw [HTO.out.ent]
      go_wp2_with fail
      refine (HTO.out.call (z : Nat) W0).mono ?_
      rintro e W1 ⟨rfl, hW1⟩
      have f1' : Fr No W0 W1 := by rw [hW1]; exact (((Fr.refl No W0).alloc _).alloc _).alloc _
      have cx : W1.cell? ⟨W0.heap.size, 0, none⟩ = some (.pointer (some ⟨L.b, 0, none⟩)) := by rw [hW1]; simp [go_sem]
      have cv : W1.cell? ⟨W0.heap.size + 1, 0, none⟩ = some (.int .i64 (z : Nat)) := by rw [hW1]; simp [go_sem]
      have cf : W1.cell? ⟨W0.heap.size + 1 + 1, 0, none⟩ = some (.func (.func f1) #[] #[]) := by rw [hW1]; simp [go_sem]
      have hsz : W1.heap.size = W0.heap.size + 1 + 1 + 1 := by rw [hW1]; simp
      have hown0 : ∀ j, (Lh.at t).own j → j < W0.heap.size := fun j hj => HT0.out.bag.own_lt hj
      have hbf0 := HT0.out.far.lt
      have hw0 := HT0.out.fr.size
      have ht2 : ThM w ((W0.heap.size, .pointer (some ⟨L.b, 0, none⟩)) :: (W0.heap.size + 1, .int .i64 (z : Nat)) :: bx) Lh Bf x.n st t W1 :=
        ((HT0.out.no f1').add cv (fun j hj => by have := hown0 j hj; omega) (by omega)).add cx (fun j hj => by have := hown0 j hj; omega) (by omega)
      have HT1 := hid ht2
      have HB1 := hid (HB0.out.no f1')
      have HM1 := hid (HM0.out.no f1')
      have HML : Hid (∀ y ∈ ds, y < W1.heap.size) := hid fun y hy => HM1.out.lt hy
      have hX1 := HX.out.no (HT0.out.fr.trans f1')
      have q1 := HX.out.lt
      have q2 := HX.out.hr.1
      have q3 := HX.out.hb.1
      have q4 := HX.out.gn.lt
      clear hW1 HT0 HB0 HM0 f1' ht2 hown0 k10 l10 kb zb lb
      go_wp2
      refine (wpIn_wide (n := 7)).1 ?_
      refine wpIn_rangeFunc_ownB rfl (by omega) (gf := 77) (lb := #[.pointer (some ⟨W0.heap.size, 0, none⟩), .pointer (some ⟨W0.heap.size + 1, 0, none⟩), .pointer (some ⟨W0.heap.size + 1 + 1, 0, none⟩)]) rfl trivial (enters_of Tryd.func77 (by kernel_rfl) rfl)
        (HTO.out.seq W0.heap.size (W0.heap.size + 1) (W0.heap.size + 1 + 1) z hzn (fun k => w.heap.size ≤ k ∧ k ≠ W0.heap.size ∧ k ≠ W0.heap.size + 1) (by omega) (by omega) (by omega) (by omega) (by omega) (by omega) W1 hX1 cx cv cf)
        (fun h k => Fr.trans h k) (fun W l' o o' hl _ _ _ => fr_putObj W l' o' (by omega)) (fun W o => (Fr.refl _ W).alloc o) (Below.refl _ _) (fun _ => rfl)
        (fun pre W => ∃ t', ThM w ((W0.heap.size, .pointer (some ⟨L.b, 0, none⟩)) :: (W0.heap.size + 1, .int .i64 (z : Nat)) :: bx) Lh Bf x.n (rsu x z back d st pre) t' W ∧ Bx w bx Lh Bf t' b d W ∧ Marks w.heap.size ds W ∧ W1.heap.size ≤ W.heap.size)
        (fun _ _ _ => False)
        (fun pre A B row hs hg hr => by
          obtain ⟨t', h1, h2, h3, h4⟩ := hs
          exact ⟨t', h1.grown hg (fun r e => ⟨by have := (hr r e).1; omega, (hr r e).2⟩), h2.grown hg (fun r e => (hr r e).2), h3.grown HML.out hg (fun r e => (hr r e).1), Nat.le_trans h4 hg.size⟩)
        (fun _ _ _ _ _ hs _ _ => hs.elim)
        (fun pre W o ⟨t', h1, h2, h3, h4⟩ => ⟨t', h1.no ((Fr.refl No W).alloc o), h2.no ((Fr.refl No W).alloc o), h3.no ((Fr.refl No W).alloc o), by have := ((Fr.refl No W).alloc o).size; omega⟩)
        (fun pre W ⟨t', h1, h2, h3, h4⟩ => h4)
        ⟨t, HT1.out, HB1.out, HM1.out, Nat.le_refl _⟩
        (fun el b' T => (T.setIfInBounds 15 (.int .i64 (x.by_ el.1 : Nat))).setIfInBounds 16 (.pointer (some ⟨b', 0, none⟩))) 52 (fun el => #[.int .i64 (x.rowE z back el.1).w, .int .i64 (x.rowE z back el.1).a, .int .i64 (x.rowE z back el.1).m]) ?assign ?body ?done ?stop
      case assign =>
        intro l el W K hK
        simp only [Ix.rowEnc, En.val]
        gi_wp2
        simpa [Ix.rowEnc, En.val] using hK
      case stop =>
        rintro D c pre W _ _ h _
        exact h.elim
      case done =>
        rintro D ys W hD rfl ⟨t', h1, h2, h3, h4⟩ hKD
        rw [rsu_all] at h1
        have h1 := h1.drop.drop
        obtain ⟨s', hs'⟩ : ∃ s', (x.ued back z).foldl (relax d) st = s' := ⟨_, rfl⟩
        rw [hs'] at h1 HGO HMU2
        have hM : Marks w.heap.size (D :: ds) W := h3.cons HML.out hD (by omega) hKD
        have kb := h2.c
        have k10 := h1.box _ M10.out
        simp only at k10
        have H1 := hid h1
        have HB := hid h2
        have HM := hid hM
        have hbW := cell_lt kb
        have hb10W := cell_lt k10
        clear h1 h2 h3 h4 hM hs' cx cv cf HT1 HB1 HM1 hKD hX1 q1 q2 q3 q4 HML
        go_wp2_with fail
        have hbn := H1.out.box_new d 3
        have HT8 := hid hbn.1
        have HB8 := hid hbn.2
        clear hbn
        refine (hpop_calls (L := Lh.at t') HT8.out.bag (by omega)).mono ?_
        intro e W7 hr
        rcases HT8.out.pop hr with ⟨hS, rfl, hf, hth⟩ | ⟨v', t7, hv', hS, rfl, hth, hf, hown⟩
        · have hb7 := HB8.out.no hf
          have hm7 : Marks w.heap.size (D :: ds) W7 := HM.out.no (((Fr.refl No W).alloc _).trans hf)
          have hset := hth.box_set hb7 0
          have hm8 := hm7.fr ((Fr.refl (One W.heap.size) W7).set1 0 (.int .i64 0)) (fun k o (e : k = W.heap.size) ho => cell_is_cells hb7.c (by rw [e] at ho; exact ho))
          have e7 := hb7.c
          have z7 := hb7.z
          have l7 := cell_lt e7
          have HSET := hid hset
          have HM8 := hid hm8
          have HS := hid hS
          clear hset hm8 hr hS hth hf hb7 hm7
          go_wp2
          refine Handed.intro (mu x.n s') HMU2.out (hJ _ _ _ ⟨s', t', 0, 0, W.heap.size, false, (D :: ds), _, _, _, _, _, _, _, _, _, _, _, _, _, _, _, _, ⟨HSET.out.1, HSET.out.2, ⟨fun _ => HGO.out.last HS.out, fun h => (by cases h)⟩, HM8.out⟩, rfl⟩)
        · have hb7 := HB8.out.fr hf (fun ho => HB8.out.own _ ho rfl) (fun j hj => .inl (hown j hj))
          have hm7 : Marks w.heap.size (D :: ds) W7 := (HM.out.no ((Fr.refl No W).alloc _)).fr hf (fun k o hk ho => HT8.out.bag.own_cells hk ho)
          obtain ⟨pv, hpv⟩ : ∃ pv, s'.pr v' = pv := ⟨_, rfl⟩
          have hset := hth.box_set hb7 pv
          have hm8 := hm7.fr ((Fr.refl (One W.heap.size) W7).set1 0 (.int .i64 pv)) (fun k o (e : k = W.heap.size) ho => cell_is_cells hb7.c (by rw [e] at ho; exact ho))
          have hstep := HGO.out.pop hv' hS
          rw [hpv] at hstep ⊢
          have e7 := hb7.c
          have z7 := hb7.z
          have l7 := cell_lt e7
          have HSET := hid hset
          have HM8 := hid hm8
          have HSTEP := hid hstep
          clear hset hm8 hr hS hth hf hb7 hm7 hstep hown hpv
          go_wp2
          refine Handed.intro (mu x.n s') HMU2.out (hJ _ _ _ ⟨⟨s'.far, setS s'.S v' false, s'.pr⟩, t7, v', pv, W.heap.size, true, (D :: ds), _, _, _, _, _, _, _, _, _, _, _, _, _, _, _, _, ⟨HSET.out.1, HSET.out.2, ⟨fun h => (by cases h), fun _ => ⟨hv', HSTEP.out.2.2, HSTEP.out.1, HSTEP.out.2.1⟩⟩, HM8.out⟩, rfl⟩)
      case body =>
        rintro l pre el W b' hl hloop ⟨t', h1, h2, h3, h4⟩ _ hb' hcs
        have hey := HOK.out.edE_eq hzn el
        have hsn := rsu_snoc x z back d st pre el
        have hed : x.edE z back el = (x.by_ el.1, (x.rowE z back el.1).w) := rfl
        rw [hed] at hey hsn
        obtain ⟨y, hy⟩ : ∃ y, x.by_ el.1 = y := ⟨_, rfl⟩
        obtain ⟨⟨e0, e1, e2⟩, he⟩ : ∃ e, x.rowE z back el.1 = e := ⟨_, rfl⟩
        rw [hy, he] at hey hsn
        simp only [he] at hcs
        simp only at hey hsn
        have hyn : y < x.n := hey.1
        have hyn2 : (y : Int) < x.n := by omega
        have k9 := h1.box _ (List.mem_cons_of_mem _ (List.mem_cons_of_mem _ M9.out))
        have k10 := h1.box _ (List.mem_cons_of_mem _ (List.mem_cons_of_mem _ M10.out))
        have kb := h2.c
        simp only at k9 k10
        have ce : W.cell? ⟨b', 0, none⟩ = some (.int .i64 e0) := cell_of hcs 0
        have H1 := hid h1
        have H2 := hid h2
        have H3 := hid h3
        have H4 := hid h4
        have HSN := hid hsn
        have hHY := hid hy
        have HEE := hid he
        clear h1 h2 h3 h4 hloop cx cv cf HT1 HB1 HM1 hJ hK hey hsn hed hy he hcs hth5 HGO hX1
        simp only [Ix.rowEnc, En.val, hHY.out, HEE.out]
        gi_wp2_with fail
        obtain ⟨sm, hsm⟩ : ∃ sm, ad d e0 = sm := ⟨_, rfl⟩
        have HSM := hid hsm
        refine ⟨trivial, CallsIn.inRound l (callsIn_wide.2 ((adl_calls d e0 (some ⟨W.heap.size, 0, none⟩) 2 _ (fun _ => ⟨_, 0, rfl, by intro j hj; (have : j = 0 ∨ j = 1 := by omega); rcases this with rfl | rfl <;> simp [go_sem, pfM]⟩)).mono ?_))⟩
        rw [hsm]
        clear hsm
        rintro e W2 ⟨rfl, hf2⟩
        have f12 : Fr No W W2 := ((Fr.refl No W).alloc _).trans hf2
        have j9 := f12.cell_some k9 (fun h => h)
        have j10 := f12.cell_some k10 (fun h => h)
        have HT2 := hid (H1.out.no f12)
        have F2 := hid f12
        have bf := HT2.out.far.cell hyn
        have bfz := HT2.out.far.frozen y
        have l9 := cell_lt j9
        have l10 := cell_lt j10
        have lf := HT2.out.far.lt
        obtain ⟨fv, hfv⟩ : ∃ fv, (rsu x z back d st pre).far y = fv := ⟨_, rfl⟩
        rw [hfv] at bf
        have HFV := hid hfv
        clear hf2 f12 k9 k10 kb ce hfv
        by_cases hlt : sm < fv
        · have HLT := hid hlt
          have g1 : decide (sm < fv) = true := by simp; exact hlt
          have n1 : Bf ≠ B10 := H1.out.sep.2 _ (List.mem_cons_of_mem _ (List.mem_cons_of_mem _ M10.out))
          have n2 : B10 ≠ Bf := fun e => n1 e.symm
          gi_wp2_with fail
          have hset := HT2.out.set y sm
          have HS4 := hid hset.1
          have HF4 := hid hset.2
          clear hset
          refine ⟨trivial, CallsIn.inRound l (callsIn_wide.2 ((hput_calls (L := Lh.at t') HS4.out.bag y sm hyn (by omega)).mono ?_))⟩
          intro e W5 hr
          obtain ⟨t5', c', rfl, hth5, hf5, ho5⟩ := HS4.out.put hr
          have hfin : Fr (fun k => k = Bf ∨ (Lh.at t').own k) W W5 := (F2.out.no).trans ((HF4.out.mono (fun k _ (e : k = Bf) => .inl e)).trans (hf5.mono (fun k _ hk => .inr hk)))
          have hcl : ∀ k o, (k = Bf ∨ (Lh.at t').own k) → W.heap[k]? = some o → o.isCells = true := fun k o hk ho => by
            rcases hk with rfl | hk
            · exact H1.out.far.is_cells ho
            · exact H1.out.bag.own_cells hk ho
          have hsz4 := F2.out.size
          have hsz5 := HF4.out.size
          have hb5 : Bx w bx Lh Bf t5' b d W5 := H2.out.fr hfin (fun hk => by
            rcases hk with e | hk
            · exact H2.out.ne.1 e
            · exact H2.out.own _ hk rfl) (fun j hj => by
            rcases ho5 j hj with e | e
            · exact .inl e
            · exact .inr (by omega))
          have hm5 := H3.out.fr hfin hcl
          have hr5 : ThM w ((W0.heap.size, .pointer (some ⟨L.b, 0, none⟩)) :: (W0.heap.size + 1, .int .i64 (z : Nat)) :: bx) Lh Bf x.n (rsu x z back d st (pre ++ [el])) t5' W5 := by
            rw [HSN.out, relax_near (by rw [HSM.out, HFV.out]; exact HLT.out), HSM.out]
            exact hth5
          have hKp : Fr (fun k => w.heap.size ≤ k ∧ k ≠ W0.heap.size ∧ k ≠ W0.heap.size + 1) W W5 := hfin.mono (fun k _ hk => by
            rcases hk with rfl | hk
            · have := H1.out.sep.1
              exact ⟨this, by omega, by omega⟩
            · have := H1.out.own _ hk
              exact ⟨this.1, this.2.2 _ (List.mem_cons_self), this.2.2 _ (List.mem_cons_of_mem _ (List.mem_cons_self))⟩)
          have h45 : W1.heap.size ≤ W5.heap.size := Nat.le_trans H4.out hfin.size
          have HFIN := hid hfin
          have HCL := hid hcl
          have HB5 := hid hb5
          have HM5 := hid hm5
          have HR5 := hid hr5
          have HKP := hid hKp
          clear hfin hcl hb5 hm5 hr5 hth5 hf5 ho5 hr hsz4 hsz5 hKp
          gi_wp2
          exact ⟨keepsFrom_cells HFIN.out HCL.out, HKP.out, t5', HR5.out, HB5.out, HM5.out, h45⟩
        · have HLT := hid hlt
          have g1 : decide (sm < fv) = false := by simp; omega
          gi_wp2
          have hfin := F2.out
          exact ⟨keepsFrom_cells hfin (fun _ _ h => h.elim), hfin.no, t', by rw [HSN.out, relax_far (by rw [HSM.out, HFV.out]; have := HLT.out; omega)]; exact H1.out.no hfin, H2.out.no hfin, H3.out.no hfin, Nat.le_trans H4.out hfin.size⟩

end Go.Proofs.YtpkocidcfnlbiaaDoor
