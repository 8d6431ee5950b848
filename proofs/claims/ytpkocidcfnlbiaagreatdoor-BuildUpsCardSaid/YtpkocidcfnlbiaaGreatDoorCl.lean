/- How far it is as the document says; up from one end and up from the other comes to it: plain. -/
import Derived.Test.YtpkocidcfnlbiaaGreatDoorSetP
import Derived.Test.YtpkocidcfnlbiaaGreatDoorWk
set_option linter.unusedVariables false
set_option linter.unusedSimpArgs false
namespace Go.Proofs.YtpkocidcfnlbiaaGreatDoor
open Go.RowKit Go.Deep

def sat (z : Int) : Int := if z ≤ 4611686018427387904 then z else 4611686018427387905
theorem sat_b {z : Int} (h : 0 ≤ z) : Bd (sat z) := by unfold sat Bd; split <;> omega
theorem sat_mono {a b : Int} (h : a ≤ b) : sat a ≤ sat b := by
  unfold sat; (repeat' split) <;> omega
theorem sat_le {a : Int} (h : 0 ≤ a) : sat a ≤ 4611686018427387905 := by unfold sat; split <;> omega
theorem sat_tw {a b : Int} (ha : 0 ≤ a) (hb : 0 ≤ b) : tw (sat a) (sat b) = sat (a + b) := by
  unfold tw sat; (repeat' split) <;> omega
theorem sat_id {a : Int} (h : a ≤ 4611686018427387904) : sat a = a := if_pos h
theorem tw_self0 {a : Int} (ha : Bd a) : tw 0 a = a := by rw [tw_comm, tw_zero' ha]
theorem tw_ge {a b : Int} (ha : Bd a) (hb : Bd b) : b ≤ tw a b := by rw [tw_comm]; exact tw_le hb ha

/-- How far it is from vertex to vertex, ahead of any vertex in between. -/
def Gr.d0 (G : Gr) : Mat := fun a b => if a = b then 0 else G.bst a b
def Gr.far (G : Gr) : Mat := fwM (fun _ => true) G.n G.d0 G.n
theorem Gr.d0_b {G : Gr} (hw : G.Wt) : MB G.n G.d0 := fun a b _ _ => by
  unfold Gr.d0; split
  · unfold Bd; omega
  · exact G.bst_b hw a b
theorem Gr.far_inv {G : Gr} (hw : G.Wt) : FwI (fun _ => true) G.n G.d0 G.far G.n := fwM_inv (G.d0_b hw) G.n (Nat.le_refl _)
theorem Gr.far_b {G : Gr} (hw : G.Wt) : MB G.n G.far := (Gr.far_inv hw).b
theorem Gr.far_self {G : Gr} (hw : G.Wt) {a : Nat} (ha : a < G.n) : G.far a a = 0 := by
  have h1 := (Gr.far_inv hw).le a a ha ha
  have h2 := (Gr.far_b hw a a ha ha).1
  unfold Gr.d0 at h1
  rw [if_pos rfl] at h1
  omega
theorem Gr.far_tri {G : Gr} (hw : G.Wt) {a m b : Nat} (ha : a < G.n) (hm : m < G.n) (hb : b < G.n) : G.far a b ≤ tw (G.far a m) (G.far m b) :=
  (Gr.far_inv hw).tri m hm hm rfl a b ha hb rfl rfl
theorem Gr.far_bst {G : Gr} (hw : G.Wt) {a b : Nat} (ha : a < G.n) (hb : b < G.n) : G.far a b ≤ G.bst a b := by
  by_cases e : a = b
  · subst e; rw [Gr.far_self hw ha]; exact (G.bst_b hw a a).1
  · have := (Gr.far_inv hw).le a b ha hb
    unfold Gr.d0 at this
    rw [if_neg e] at this
    exact this

/-- A walk that is as short as can be. -/
def Gr.Sh (G : Gr) (s : Nat) (l : List Nat) (t : Nat) : Prop := Wk G s l t ∧ ∀ l', Wk G s l' t → G.len l ≤ G.len l'
theorem Wk.len0 {G : Gr} (hw : G.Wt) {l : List Nat} {s t : Nat} (h : Wk G s l t) : 0 ≤ G.len l := by have := Wk.pos hw h; omega
theorem Gr.Sh.min {G : Gr} (hw : G.Wt) {s t : Nat} : ∀ (N : Nat) (l : List Nat), (G.len l).toNat ≤ N → Wk G s l t → ∃ l', G.Sh s l' t := by
  intro N
  induction N with
  | zero =>
    intro l hN h
    refine ⟨l, h, fun l' h' => ?_⟩
    have := h.len0 hw; have := h'.len0 hw; omega
  | succ N ih =>
    intro l hN h
    by_cases hc : ∃ l', Wk G s l' t ∧ G.len l' < G.len l
    · obtain ⟨l', h', hlt⟩ := hc
      have := h'.len0 hw
      exact ih l' (by omega) h'
    · refine ⟨l, h, fun l' h' => ?_⟩
      rcases Int.lt_or_le (G.len l') (G.len l) with hh | hh
      · exact absurd ⟨l', h', hh⟩ hc
      · exact hh
theorem Gr.Sh.cut {G : Gr} {s m t : Nat} {a b : List Nat} (h : G.Sh s (a ++ b) t) (ha : Wk G s a m) (hb : Wk G m b t) : G.Sh s a m ∧ G.Sh m b t := by
  refine ⟨⟨ha, fun l' h' => ?_⟩, ⟨hb, fun l' h' => ?_⟩⟩
  · have := h.2 (l' ++ b) (h'.app hb)
    rw [Gr.len_app, Gr.len_app] at this; omega
  · have := h.2 (a ++ l') (ha.app h')
    rw [Gr.len_app, Gr.len_app] at this; omega
open Classical in
/-- How long a walk is that is as short as can be. -/
noncomputable def Gr.rl (G : Gr) (s t : Nat) : Int := if h : ∃ l, G.Sh s l t then sat (G.len (Classical.choose h)) else 4611686018427387906
theorem Gr.rl_sh {G : Gr} {s t : Nat} {l : List Nat} (h : G.Sh s l t) : G.rl s t = sat (G.len l) := by
  have he : ∃ l, G.Sh s l t := ⟨l, h⟩
  unfold Gr.rl
  rw [dif_pos he]
  have h1 := (Classical.choose_spec he).2 l h.1
  have h2 := h.2 _ (Classical.choose_spec he).1
  rw [show G.len (Classical.choose he) = G.len l by omega]
theorem Gr.rl_no {G : Gr} {s t : Nat} (h : ¬ ∃ l, G.Sh s l t) : G.rl s t = 4611686018427387906 := dif_neg h
theorem Gr.rl_b {G : Gr} (hw : G.Wt) (s t : Nat) : Bd (G.rl s t) := by
  by_cases h : ∃ l, G.Sh s l t
  · obtain ⟨l, h⟩ := h
    rw [Gr.rl_sh h]; exact sat_b (h.1.len0 hw)
  · rw [Gr.rl_no h]; unfold Bd; omega
/-- No distance is less than a walk that is as short as can be. -/
theorem Gr.rl_far {G : Gr} (hw : G.Wt) {s t : Nat} (hs : s < G.n) (ht : t < G.n) : G.rl s t ≤ G.far s t := by
  have hc := (Gr.far_inv hw).sound (G.rl s) (fun i _ _ => Gr.rl_b hw s i) (fun i j hi hj _ _ => by
    by_cases h1 : ∃ l, G.Sh s l i
    · obtain ⟨l, h1⟩ := h1
      unfold Gr.d0
      by_cases e : i = j
      · subst e; rw [if_pos rfl, tw_zero' (Gr.rl_b hw s i)]; exact Int.le_refl _
      · rw [if_neg e]
        rcases G.bst_is i j with e1 | ⟨k, k1, k2, k3, k4, k5, e1⟩
        · rw [e1, none_tw]; exact (Gr.rl_b hw s j).2
        · have hk : Wk G i [k] j := ⟨k1, k2, k5, k3, by show (G.arc k).h.toNat = j; rw [k4]; exact Int.toNat_natCast j⟩
          have hl := h1.1.app hk
          obtain ⟨l', hl'⟩ := Gr.Sh.min hw _ _ (Nat.le_refl _) hl
          have hle := hl'.2 _ hl
          have hwk := hw k k1 k2
          rw [e1, Gr.rl_sh h1, Gr.rl_sh hl', ← sat_id hwk.2, sat_tw (h1.1.len0 hw) (by omega)]
          refine sat_mono (Int.le_trans hle ?_)
          rw [Gr.len_app, Gr.len_cons, Gr.len_nil]; omega
    · rw [Gr.rl_no h1, tw_none]; exact (Gr.rl_b hw s j).2) s t hs ht rfl rfl
  have h0 : G.rl s s = 0 := by
    have : G.Sh s [] s := ⟨rfl, fun l' h' => h'.len0 hw⟩
    rw [Gr.rl_sh this]; rfl
  rw [h0, tw_self0 (Gr.far_b hw s t hs ht)] at hc
  exact hc
theorem Gr.Sh.far {G : Gr} (hw : G.Wt) {s t : Nat} {l : List Nat} (hs : s < G.n) (ht : t < G.n) (h : G.Sh s l t) : sat (G.len l) ≤ G.far s t := by
  rw [← Gr.rl_sh h]; exact Gr.rl_far hw hs ht

/-- A walk by way of lower vertices bounds an entry, however long it is. -/
theorem Whole.least' {G : Gr} {x : Ix} (h : Whole G x) (hok : x.Ok) (ho : G.Ok) (hw : G.Wt) (hn : G.n = x.n) : ∀ (N : Nat) (l : List Nat) (u v : Nat), l.length ≤ N → u < x.n → v < x.n → u ≠ v → Wk G u l v →
    (∀ z ∈ G.mds l, z = u ∨ z = v ∨ x.rk z < min (x.rk u) (x.rk v)) → (x.ent u v).w ≤ sat (G.len l) := by
  intro N
  induction N with
  | zero =>
    intro l u v hl _ _ hne hk
    have : l = [] := List.length_eq_zero_iff.1 (by omega)
    subst this
    exact absurd hk hne
  | succ N ih =>
    intro l u v hl hu hv hne hk hz
    by_cases h0 : G.mds l = []
    · match l, hk with
      | [], hk => exact absurd hk hne
      | [k], hk =>
        have hkk := (hw k hk.1 hk.2.1).2
        have hlen : G.len [k] ≤ 4611686018427387904 := by rw [Gr.len_cons, Gr.len_nil]; omega
        have := h.least hok ho hw hn 1 [k] u v (Nat.le_refl _) hu hv hne hk (fun z hz' => by rw [h0] at hz'; cases hz') hlen
        rw [sat_id hlen]; exact this
      | k :: k' :: l', hk => simp [Gr.mds] at h0
    · obtain ⟨m, hm, htop⟩ := top_of x.rk (G.mds l) h0
      by_cases hmu : u ∈ G.mds l
      · obtain ⟨a, b, e, ha, hb, h1, h2, h3, h4⟩ := hk.at hmu
        have hla : 0 < a.length := List.length_pos_iff.2 ha
        have hlb : a.length + b.length = l.length := by rw [e, List.length_append]
        have hpa := Wk.pos hw h1
        have hla2 : G.len l = G.len a + G.len b := by rw [e, Gr.len_app]
        have := ih b u v (by omega) hu hv hne h2 (fun z hz' => hz z (h4 z hz'))
        exact Int.le_trans this (sat_mono (by omega))
      · by_cases hmv : v ∈ G.mds l
        · obtain ⟨a, b, e, ha, hb, h1, h2, h3, h4⟩ := hk.at hmv
          have hlb0 : 0 < b.length := List.length_pos_iff.2 hb
          have hlb : a.length + b.length = l.length := by rw [e, List.length_append]
          have hpb := Wk.pos hw h2
          have hla2 : G.len l = G.len a + G.len b := by rw [e, Gr.len_app]
          have := ih a u v (by omega) hu hv hne h1 (fun z hz' => hz z (h3 z hz'))
          exact Int.le_trans this (sat_mono (by omega))
        · have hlow : ∀ z ∈ G.mds l, x.rk z < min (x.rk u) (x.rk v) := fun z hz' => by
            rcases hz z hz' with rfl | rfl | h'
            · exact absurd hz' hmu
            · exact absurd hz' hmv
            · exact h'
          have hmlow := hlow m hm
          obtain ⟨a, b, e, ha, hb, h1, h2, h3, h4⟩ := hk.at hm
          have hin : ∀ z, z ∈ G.mds l → z < x.n := fun z hz' => by
            rw [← hn]
            refine Wk.hds ho hk z ?_
            unfold Gr.mds at hz'
            obtain ⟨k, hk', rfl⟩ := List.mem_map.1 hz'
            exact List.mem_map.2 ⟨k, List.dropLast_subset l hk', rfl⟩
          have hmn := hin m hm
          have hum : u ≠ m := fun e => by subst e; omega
          have hmv' : m ≠ v := fun e => by subst e; omega
          have hla0 : 0 < a.length := List.length_pos_iff.2 ha
          have hlb0 : 0 < b.length := List.length_pos_iff.2 hb
          have hlb : a.length + b.length = l.length := by rw [e, List.length_append]
          have hpa := h1.len0 hw
          have hpb := h2.len0 hw
          have hla2 : G.len l = G.len a + G.len b := by rw [e, Gr.len_app]
          have hlt : ∀ z, z ∈ G.mds l → z = m ∨ x.rk z < x.rk m := fun z hz' => by
            by_cases e : z = m
            · exact .inl e
            · right
              have h5 := htop z hz'
              have h6 : x.rk z ≠ x.rk m := fun e2 => e (hok.inj (hin z hz') hmn e2)
              omega
          have i1 := ih a u m (by omega) hu hmn hum h1 (fun z hz' => by
            rcases hlt z (h3 z hz') with h5 | h5
            · exact .inr (.inl h5)
            · exact .inr (.inr (by omega)))
          have i2 := ih b m v (by omega) hmn hv hmv' h2 (fun z hz' => by
            rcases hlt z (h4 z hz') with h5 | h5
            · exact .inl h5
            · exact .inr (.inr (by omega)))
          have hs := hok.sum2_tw (u : Nat) (v : Nat) (x.rk m)
          rw [(hok.rk m hmn).2, at_nat (two_nat hu hmn hum), at_nat (two_nat hmn hv hmv')] at hs
          have hle : (x.ent u v).w ≤ x.sum2 (u : Nat) (v : Nat) (x.rk m) := by
            rcases h.cases hu hv hne with ⟨e1, _, e2⟩ | ⟨e1, _, e2⟩ | ⟨j, hc, _⟩
            · have := e2 _ hmlow
              rw [e1]; show (4611686018427387906 : Int) ≤ _; omega
            · rw [e1]; exact e2 _ hmlow
            · rw [hc.w]; exact hc.le _ hmlow
          rw [hs] at hle
          have b1 := hok.ent_b u m
          have b2 := hok.ent_b m v
          rw [hla2, ← sat_tw hpa hpb]
          exact Int.le_trans hle (tw_mono (by omega) (by omega) i1 i2 (sat_b hpa).2 (sat_b hpb).2)

/-- No entry of a whole index is less than how far it is. -/
theorem Whole.far_ent {G : Gr} {x : Ix} (h : Whole G x) (hok : x.Ok) (hw : G.Wt) (hn : G.n = x.n) {u v : Nat} (hu : u < x.n) (hv : v < x.n) (hne : u ≠ v) : G.far u v ≤ (x.ent u v).w := by
  have hMB : MB x.n G.bst := fun a b _ _ => G.bst_b hw a b
  have hb : ∀ r, r < x.n → x.by_ r < x.n := fun r hr => (hok.by_ r hr).1
  have ru := hok.rk u hu
  have rv := hok.rk v hv
  rw [(h.rkw hok hw _ _ u v (Nat.lt_succ_self _) hu hv hne rfl).1]
  have hu' : u < G.n := by omega
  have := (rkw_tri hb hMB (min (x.rk u) (x.rk v)) (by omega)).sound (fun i => G.far u (x.by_ i)) (fun i hi _ => Gr.far_b hw _ _ hu' (by have := hb i hi; omega)) (fun i j hi hj _ _ => by
    have bi := hb i hi
    have bj := hb j hj
    have b1 := Gr.far_b hw u (x.by_ i) hu' (by omega)
    have b2 := Gr.far_b hw (x.by_ i) (x.by_ j) (by omega) (by omega)
    exact Int.le_trans (Gr.far_tri hw hu' (show x.by_ i < G.n by omega) (by omega)) (tw_mono b1.1 b2.1 (Int.le_refl _) (Gr.far_bst hw (by omega) (by omega)) b1.2 (G.bst_b hw _ _).2)) (x.rk u) (x.rk v) ru.1 rv.1 rfl rfl
  simp only [ru.2, rv.2] at this
  have hbr := rkw_b hb hMB (min (x.rk u) (x.rk v)) (by omega) u v hu hv
  rw [Gr.far_self hw hu', tw_self0 hbr] at this
  exact this

/-- What is told of ways up from s: K bounds it from below; where it is K, it goes on. -/
structure Clm (x : Ix) (ew : Mat) (s : Nat) (K U : Nat → Int) : Prop where
  b : ∀ v, v < x.n → Bd (U v)
  s0 : U s = 0
  low : ∀ v, v < x.n → K v ≤ U v
  tri : ∀ z v, z < x.n → v < x.n → x.rk z < x.rk v → U z ≤ K z → U v ≤ tw (U z) (ew z v)
def Ix.ew (x : Ix) (back : Bool) : Mat := fun z v => if back then (x.ent v z).w else (x.ent z v).w

theorem Wk.vs {G : Gr} {l : List Nat} {u v : Nat} (h : Wk G u l v) (hl : l ≠ []) : G.mds l ++ [v] = l.map G.hd := by
  have hdl := List.dropLast_concat_getLast hl
  have hh := h
  rw [← hdl] at hh
  have := Wk.last hh
  unfold Gr.mds
  rw [this]
  conv => rhs; rw [← hdl, List.map_append]
  rfl
/-- In a walk that is as short as can be no vertex comes again at the end. -/
theorem Gr.Sh.end_new {G : Gr} (hw : G.Wt) {s h : Nat} {l : List Nat} (hs : G.Sh s l h) : ¬ h ∈ G.mds l := fun hm => by
  obtain ⟨a, b, e, ha, hb, h1, h2, _, _⟩ := hs.1.at hm
  have := hs.2 a h1
  have hp := Wk.pos hw h2
  have : 0 < b.length := List.length_pos_iff.2 hb
  rw [e, Gr.len_app] at *
  omega
theorem Gr.Sh.first_new {G : Gr} (hw : G.Wt) {s h : Nat} {l : List Nat} (hs : G.Sh s l h) : ¬ s ∈ G.mds l := fun hm => by
  obtain ⟨a, b, e, ha, hb, h1, h2, _, _⟩ := hs.1.at hm
  have := hs.2 b h2
  have hp := Wk.pos hw h1
  have : 0 < a.length := List.length_pos_iff.2 ha
  rw [e, Gr.len_app] at *
  omega
theorem Gr.Sh.ends {G : Gr} (hw : G.Wt) {s : Nat} {l : List Nat} (hs : G.Sh s l s) : l = [] := by
  have h1 := hs.2 [] rfl
  have hp := Wk.pos hw hs.1
  rw [Gr.len_nil] at h1
  exact List.length_eq_zero_iff.1 (by omega)

theorem Wk.mds_lt {G : Gr} (ho : G.Ok) {l : List Nat} {u v z : Nat} (h : Wk G u l v) (hz : z ∈ G.mds l) : z < G.n := by
  refine Wk.hds ho h z ?_
  unfold Gr.mds at hz
  obtain ⟨k, hk', rfl⟩ := List.mem_map.1 hz
  exact List.mem_map.2 ⟨k, List.dropLast_subset l hk', rfl⟩

/-- Up a walk that is as short as can be, to its highest vertex. -/
theorem Clm.up {G : Gr} {x : Ix} (h : Whole G x) (hok : x.Ok) (ho : G.Ok) (hw : G.Wt) (hn : G.n = x.n) {s : Nat} {U : Nat → Int} (hU : Clm x (x.ew false) s (fun v => G.far s v) U) : ∀ (N : Nat) (l : List Nat) (t : Nat), l.length ≤ N → s < x.n → t < x.n →
    G.Sh s l t → x.rk s ≤ x.rk t → (∀ z ∈ G.mds l, x.rk z ≤ x.rk t) → U t ≤ sat (G.len l) := by
  intro N
  induction N with
  | zero =>
    intro l t hl _ _ hS _ _
    have : l = [] := List.length_eq_zero_iff.1 (by omega)
    subst this
    obtain rfl : s = t := hS.1
    rw [hU.s0]; rw [Gr.len_nil]; decide
  | succ N ih =>
    intro l t hl hs ht hS hst hall
    by_cases est : s = t
    · subst est
      have := hS.ends hw
      subst this
      rw [hU.s0]; rw [Gr.len_nil]; decide
    · obtain ⟨m, hm, htop⟩ := top_of x.rk (s :: G.mds l) (by simp)
      have hmn : m < x.n := by
        rcases List.mem_cons.1 hm with rfl | hm
        · exact hs
        · rw [← hn]; exact hS.1.mds_lt ho hm
      have hmt : m ≠ t := fun e => by
        subst e
        rcases List.mem_cons.1 hm with e | hm
        · exact est e.symm
        · exact hS.end_new hw hm
      have hrm : x.rk m < x.rk t := by
        have h1 : x.rk m ≤ x.rk t := by
          rcases List.mem_cons.1 hm with rfl | hm
          · exact hst
          · exact hall m hm
        have h2 : x.rk m ≠ x.rk t := fun e => hmt (hok.inj hmn ht e)
        omega
      have key : ∃ a b, l = a ++ b ∧ a.length < l.length ∧ Wk G s a m ∧ Wk G m b t ∧ (∀ y ∈ G.mds a, y ∈ G.mds l) ∧ (∀ y ∈ G.mds b, y ∈ G.mds l) := by
        by_cases ems : m = s
        · subst ems
          have hl0 : l ≠ [] := fun e => by subst e; exact est hS.1
          exact ⟨[], l, rfl, List.length_pos_iff.2 hl0, rfl, hS.1, fun y hy => (by cases hy), fun y hy => hy⟩
        · rcases List.mem_cons.1 hm with e | hm
          · exact absurd e ems
          · obtain ⟨a, b, e, ha, hb, h1, h2, h3, h4⟩ := hS.1.at hm
            have hb0 : 0 < b.length := List.length_pos_iff.2 hb
            exact ⟨a, b, e, by rw [e, List.length_append]; omega, h1, h2, h3, h4⟩
      obtain ⟨a, b, e, hal, h1, h2, h3, h4⟩ := key
      rw [e] at hS
      obtain ⟨sa, sb⟩ := hS.cut h1 h2
      have i1 := ih a m (by omega) hs hmn sa (htop s (by simp)) (fun z hz => htop z (List.mem_cons_of_mem _ (h3 z hz)))
      have hfar : sat (G.len a) ≤ G.far s m := sa.far hw (by omega) (by omega)
      have i2 := h.least' hok ho hw hn b.length b m t (Nat.le_refl _) hmn ht hmt h2 (fun z hz => by
        have hzl := h4 z hz
        have h5 := htop z (List.mem_cons_of_mem _ hzl)
        by_cases ez : z = m
        · exact .inl ez
        · have hzn : z < x.n := by rw [← hn]; exact h2.mds_lt ho hz
          have h6 : x.rk z ≠ x.rk m := fun e2 => ez (hok.inj hzn hmn e2)
          exact .inr (.inr (by omega)))
      have ht1 := hU.tri m t hmn ht hrm (Int.le_trans i1 hfar)
      have pa := h1.len0 hw
      have pb := h2.len0 hw
      have eb := hok.ent_b m t
      rw [e, Gr.len_app, ← sat_tw pa pb]
      refine Int.le_trans ht1 ?_
      show tw (U m) (x.ent m t).w ≤ _
      exact tw_mono (hU.b m hmn).1 (by omega) i1 i2 (sat_b pa).2 (sat_b pb).2
/-- And down from it. -/
theorem Clm.down {G : Gr} {x : Ix} (h : Whole G x) (hok : x.Ok) (ho : G.Ok) (hw : G.Wt) (hn : G.n = x.n) {s : Nat} {U : Nat → Int} (hU : Clm x (x.ew true) s (fun v => G.far v s) U) : ∀ (N : Nat) (l : List Nat) (t : Nat), l.length ≤ N → s < x.n → t < x.n →
    G.Sh t l s → x.rk s ≤ x.rk t → (∀ z ∈ G.mds l, x.rk z ≤ x.rk t) → U t ≤ sat (G.len l) := by
  intro N
  induction N with
  | zero =>
    intro l t hl _ _ hS _ _
    have : l = [] := List.length_eq_zero_iff.1 (by omega)
    subst this
    obtain rfl : t = s := hS.1
    rw [hU.s0]; rw [Gr.len_nil]; decide
  | succ N ih =>
    intro l t hl hs ht hS hst hall
    by_cases est : s = t
    · subst est
      have := hS.ends hw
      subst this
      rw [hU.s0]; rw [Gr.len_nil]; decide
    · obtain ⟨m, hm, htop⟩ := top_of x.rk (s :: G.mds l) (by simp)
      have hmn : m < x.n := by
        rcases List.mem_cons.1 hm with rfl | hm
        · exact hs
        · rw [← hn]; exact hS.1.mds_lt ho hm
      have hmt : m ≠ t := fun e => by
        subst e
        rcases List.mem_cons.1 hm with e | hm
        · exact est e.symm
        · exact hS.first_new hw hm
      have hrm : x.rk m < x.rk t := by
        have h1 : x.rk m ≤ x.rk t := by
          rcases List.mem_cons.1 hm with rfl | hm
          · exact hst
          · exact hall m hm
        have h2 : x.rk m ≠ x.rk t := fun e => hmt (hok.inj hmn ht e)
        omega
      have key : ∃ a b, l = a ++ b ∧ b.length < l.length ∧ Wk G t a m ∧ Wk G m b s ∧ (∀ y ∈ G.mds a, y ∈ G.mds l) ∧ (∀ y ∈ G.mds b, y ∈ G.mds l) := by
        by_cases ems : m = s
        · subst ems
          have hl0 : l ≠ [] := fun e => by subst e; exact est hS.1.symm
          exact ⟨l, [], by simp, List.length_pos_iff.2 hl0, hS.1, rfl, fun y hy => hy, fun y hy => by cases hy⟩
        · rcases List.mem_cons.1 hm with e | hm
          · exact absurd e ems
          · obtain ⟨a, b, e, ha, hb, h1, h2, h3, h4⟩ := hS.1.at hm
            have ha0 : 0 < a.length := List.length_pos_iff.2 ha
            exact ⟨a, b, e, by rw [e, List.length_append]; omega, h1, h2, h3, h4⟩
      obtain ⟨a, b, e, hbl, h1, h2, h3, h4⟩ := key
      rw [e] at hS
      obtain ⟨sa, sb⟩ := hS.cut h1 h2
      have i1 := ih b m (by omega) hs hmn sb (htop s (by simp)) (fun z hz => htop z (List.mem_cons_of_mem _ (h4 z hz)))
      have hfar : sat (G.len b) ≤ G.far m s := sb.far hw (by omega) (by omega)
      have i2 := h.least' hok ho hw hn a.length a t m (Nat.le_refl _) ht hmn (fun e => hmt e.symm) h1 (fun z hz => by
        have hzl := h3 z hz
        have h5 := htop z (List.mem_cons_of_mem _ hzl)
        by_cases ez : z = m
        · exact .inr (.inl ez)
        · have hzn : z < x.n := by rw [← hn]; exact h1.mds_lt ho hz
          have h6 : x.rk z ≠ x.rk m := fun e2 => ez (hok.inj hzn hmn e2)
          exact .inr (.inr (by omega)))
      have ht1 := hU.tri m t hmn ht hrm (Int.le_trans i1 hfar)
      have pa := h1.len0 hw
      have pb := h2.len0 hw
      have eb := hok.ent_b t m
      rw [e, Gr.len_app, ← sat_tw pa pb, tw_comm]
      refine Int.le_trans ht1 ?_
      show tw (U m) (x.ent t m).w ≤ _
      exact tw_mono (hU.b m hmn).1 (by omega) i1 i2 (sat_b pb).2 (sat_b pa).2

/-- UP FROM ONE END AND DOWN TO THE OTHER ONE, it is as far as in the graph. -/
theorem Clm.meet {G : Gr} {x : Ix} (h : Whole G x) (hok : x.Ok) (ho : G.Ok) (hw : G.Wt) (hn : G.n = x.n) {s t : Nat} {U W : Nat → Int} (hs : s < x.n) (ht : t < x.n) (hU : Clm x (x.ew false) s (fun v => G.far s v) U) (hW : Clm x (x.ew true) t (fun v => G.far v t) W) :
    (∀ v, v < x.n → G.far s t ≤ tw (U v) (W v)) ∧ (G.far s t = 4611686018427387906 ∨ ∃ v, v < x.n ∧ tw (U v) (W v) = G.far s t) := by
  have h1 : ∀ v, v < x.n → G.far s t ≤ tw (U v) (W v) := fun v hv => by
    have b1 := Gr.far_b hw s v (by omega) (by omega)
    have b2 := Gr.far_b hw v t (by omega) (by omega)
    exact Int.le_trans (Gr.far_tri hw (by omega) (show v < G.n by omega) (by omega)) (tw_mono b1.1 b2.1 (hU.low v hv) (hW.low v hv) (hU.b v hv).2 (hW.b v hv).2)
  refine ⟨h1, ?_⟩
  by_cases hr : ∃ l, G.Sh s l t
  · right
    obtain ⟨l, hS⟩ := hr
    obtain ⟨m, hm, htop⟩ := top_of x.rk (s :: l.map G.hd) (by simp)
    obtain ⟨pa, pc, e⟩ := List.append_of_mem hm
    obtain ⟨a, b, e1, w1, w2, e2, e3, e4⟩ := Wk.cut pa m pc hS.1 e
    have hmn : m < x.n := by
      rcases List.mem_cons.1 hm with rfl | hm
      · exact hs
      · rw [← hn]; exact Wk.hds ho hS.1 m hm
    rw [e1] at hS
    obtain ⟨sa, sb⟩ := hS.cut w1 w2
    have hsub : ∀ k, k ∈ a ∨ k ∈ b → G.hd k ∈ s :: l.map G.hd := fun k hk => List.mem_cons_of_mem _ (List.mem_map.2 ⟨k, by rw [e1]; exact List.mem_append.2 hk, rfl⟩)
    have hmda : ∀ z ∈ G.mds a, x.rk z ≤ x.rk m := fun z hz => by
      unfold Gr.mds at hz
      obtain ⟨k, hk', rfl⟩ := List.mem_map.1 hz
      exact htop _ (hsub k (.inl (List.dropLast_subset _ hk')))
    have hmdb : ∀ z ∈ G.mds b, x.rk z ≤ x.rk m := fun z hz => by
      unfold Gr.mds at hz
      obtain ⟨k, hk', rfl⟩ := List.mem_map.1 hz
      exact htop _ (hsub k (.inr (List.dropLast_subset _ hk')))
    have htl : x.rk t ≤ x.rk m := by
      by_cases hb0 : b = []
      · subst hb0
        obtain rfl : m = t := w2
        exact Nat.le_refl _
      · have := Wk.vs w2 hb0
        have ht' : t ∈ b.map G.hd := by rw [← this]; simp
        obtain ⟨k, hk, rfl⟩ := List.mem_map.1 ht'
        exact htop _ (hsub k (.inr hk))
    have u1 := hU.up h hok ho hw hn a.length a m (Nat.le_refl _) hs hmn sa (htop s (by simp)) hmda
    have u2 := hW.down h hok ho hw hn b.length b m (Nat.le_refl _) ht hmn sb htl hmdb
    have pa' := w1.len0 hw
    have pb' := w2.len0 hw
    have hle : tw (U m) (W m) ≤ sat (G.len (a ++ b)) := by
      rw [Gr.len_app, ← sat_tw pa' pb']
      exact tw_mono (hU.b m hmn).1 (hW.b m hmn).1 u1 u2 (sat_b pa').2 (sat_b pb').2
    have hf := hS.far hw (by omega) (by omega)
    have := h1 m hmn
    exact ⟨m, hmn, by omega⟩
  · left
    have h2 := Gr.rl_far hw (show s < G.n by omega) (show t < G.n by omega)
    rw [Gr.rl_no hr] at h2
    have := (Gr.far_b hw s t (by omega) (by omega)).2
    omega

/-- The least sums of ways up (or, back, down to it), as they are defined. -/
structure UpS (x : Ix) (ew : Mat) (s : Nat) (U : Nat → Int) : Prop where
  b : ∀ v, v < x.n → Bd (U v)
  s0 : U s = 0
  tri : ∀ z v, z < x.n → v < x.n → x.rk z < x.rk v → U v ≤ tw (U z) (ew z v)
  low : ∀ K : Nat → Int, (∀ v, v < x.n → Bd (K v)) → K s = 0 → (∀ z v, z < x.n → v < x.n → x.rk z < x.rk v → K v ≤ tw (K z) (ew z v)) → ∀ v, v < x.n → K v ≤ U v
theorem UpS.uniq {x : Ix} {ew : Mat} {s : Nat} {U W : Nat → Int} (hU : UpS x ew s U) (hW : UpS x ew s W) {v : Nat} (hv : v < x.n) : U v = W v := by
  have h1 := hU.low W hW.b hW.s0 hW.tri v hv
  have h2 := hW.low U hU.b hU.s0 hU.tri v hv
  omega
theorem Whole.far_up {G : Gr} {x : Ix} (h : Whole G x) (hok : x.Ok) (hw : G.Wt) (hn : G.n = x.n) {s : Nat} (hs : s < x.n) : ∀ z v, z < x.n → v < x.n → x.rk z < x.rk v → G.far s v ≤ tw (G.far s z) (x.ew false z v) := fun z v hz hv hlt => by
  have b1 := Gr.far_b hw s z (by omega) (by omega)
  have b2 := Gr.far_b hw z v (by omega) (by omega)
  exact Int.le_trans (Gr.far_tri hw (by omega) (show z < G.n by omega) (by omega)) (tw_mono b1.1 b2.1 (Int.le_refl _) (h.far_ent hok hw hn hz hv (fun e => by subst e; omega)) b1.2 (hok.ent_b z v).2)
theorem Whole.far_down {G : Gr} {x : Ix} (h : Whole G x) (hok : x.Ok) (hw : G.Wt) (hn : G.n = x.n) {t : Nat} (ht : t < x.n) : ∀ z v, z < x.n → v < x.n → x.rk z < x.rk v → G.far v t ≤ tw (G.far z t) (x.ew true z v) := fun z v hz hv hlt => by
  have b1 := Gr.far_b hw z t (by omega) (by omega)
  have b2 := Gr.far_b hw v z (by omega) (by omega)
  rw [tw_comm]
  exact Int.le_trans (Gr.far_tri hw (by omega) (show z < G.n by omega) (by omega)) (tw_mono b2.1 b1.1 (h.far_ent hok hw hn hv hz (fun e => by subst e; omega)) (Int.le_refl _) (hok.ent_b v z).2 b1.2)
theorem UpS.clm_up {G : Gr} {x : Ix} (h : Whole G x) (hok : x.Ok) (hw : G.Wt) (hn : G.n = x.n) {s : Nat} (hs : s < x.n) {U : Nat → Int} (hU : UpS x (x.ew false) s U) : Clm x (x.ew false) s (fun v => G.far s v) U :=
  ⟨hU.b, hU.s0, hU.low _ (fun v hv => Gr.far_b hw s v (by omega) (by omega)) (Gr.far_self hw (by omega)) (h.far_up hok hw hn hs), fun z v hz hv hlt _ => hU.tri z v hz hv hlt⟩
theorem UpS.clm_down {G : Gr} {x : Ix} (h : Whole G x) (hok : x.Ok) (hw : G.Wt) (hn : G.n = x.n) {t : Nat} (ht : t < x.n) {U : Nat → Int} (hU : UpS x (x.ew true) t U) : Clm x (x.ew true) t (fun v => G.far v t) U :=
  ⟨hU.b, hU.s0, hU.low _ (fun v hv => Gr.far_b hw v t (by omega) (by omega)) (Gr.far_self hw (by omega)) (h.far_down hok hw hn ht), fun z v hz hv hlt _ => hU.tri z v hz hv hlt⟩

/-- While the document makes ways: those from lower ranks are made, and of rank r the first ones. -/
structure WI (x : Ix) (ew : Mat) (s r : Nat) (pre : List Int) (U : Nat → Int) : Prop where
  b : ∀ v, v < x.n → Bd (U v)
  s0 : U s = 0
  low : ∀ K : Nat → Int, (∀ v, v < x.n → Bd (K v)) → K s = 0 → (∀ z v, z < x.n → v < x.n → x.rk z < x.rk v → K v ≤ tw (K z) (ew z v)) → ∀ v, v < x.n → K v ≤ U v
  tri : ∀ z v, z < x.n → v < x.n → x.rk z < x.rk v → x.rk z < r → U v ≤ tw (U z) (ew z v)
  cur : ∀ w, w < x.n → (w : Int) ∈ pre → U w ≤ tw (U (x.by_ r)) (ew (x.by_ r) w)
def MBe (n : Nat) (ew : Mat) : Prop := ∀ i j, i < n → j < n → Bd (ew i j)
theorem Ix.Ok.ew_b {x : Ix} (h : x.Ok) (back : Bool) (i j : Nat) : Bd (x.ew back i j) := by
  have h1 := h.ent_b i j
  have h2 := h.ent_b j i
  unfold Ix.ew Bd
  cases back <;> simp <;> omega
theorem WI.first {x : Ix} {ew : Mat} {s : Nat} (hok : x.Ok) (hs : s < x.n) : WI x ew s (x.rk s) [] (fun v => if v = s then 0 else 4611686018427387906) := by
  refine ⟨fun v _ => ?_, if_pos rfl, fun K hK h0 _ v hv => ?_, fun z v hz hv _ hlt => ?_, fun w _ h => by cases h⟩
  · show Bd (if v = s then 0 else 4611686018427387906)
    unfold Bd; split <;> omega
  · show K v ≤ if v = s then 0 else 4611686018427387906
    split
    · next e => subst e; omega
    · exact (hK v hv).2
  · have hzs : z ≠ s := fun e => by subst e; omega
    show (if v = s then 0 else 4611686018427387906 : Int) ≤ tw (if z = s then 0 else 4611686018427387906) (ew z v)
    rw [if_neg hzs, tw_none]
    split <;> omega
theorem WI.step {x : Ix} {ew : Mat} {s r : Nat} {pre : List Int} {U : Nat → Int} (h : WI x ew s r pre U) (hok : x.Ok) (hsr : x.rk s ≤ r) (hr : r < x.n) (he : ∀ i j, Bd (ew i j)) {w : Nat} (hw : w < x.n) (hrw : r < x.rk w) :
    WI x ew s r (pre ++ [(w : Int)]) (if tw (U (x.by_ r)) (ew (x.by_ r) w) < U w then updI U w (tw (U (x.by_ r)) (ew (x.by_ r) w)) else U) := by
  have hb := hok.by_ r hr
  have hbw : x.by_ r ≠ w := fun e => by rw [e] at hb; omega
  have hsw : s ≠ w := fun e => by subst e; omega
  by_cases hc : tw (U (x.by_ r)) (ew (x.by_ r) w) < U w
  · rw [if_pos hc]
    have hle : ∀ v, updI U w (tw (U (x.by_ r)) (ew (x.by_ r) w)) v ≤ U v := fun v => by
      unfold updI; split
      · next e => rw [e]; omega
      · exact Int.le_refl _
    refine ⟨fun v hv => ?_, ?_, fun K hK h0 hcl v hv => ?_, fun z v hz hv hlt hzr => ?_, fun v hv hm => ?_⟩
    · unfold updI; split
      · exact tw_b (h.b _ hb.1) (he _ _)
      · exact h.b v hv
    · rw [updI_ne _ _ hsw]; exact h.s0
    · unfold updI; split
      · next e =>
        subst e
        exact Int.le_trans (hcl _ _ hb.1 hv (by rw [hb.2]; exact hrw)) (tw_mono (hK _ hb.1).1 (he _ _).1 (h.low K hK h0 hcl _ hb.1) (Int.le_refl _) (h.b _ hb.1).2 (he _ _).2)
      · exact h.low K hK h0 hcl v hv
    · have hzw : z ≠ w := fun e => by subst e; omega
      rw [updI_ne U _ hzw]
      exact Int.le_trans (hle v) (h.tri z v hz hv hlt hzr)
    · rw [updI_ne U _ hbw]
      rcases List.mem_append.1 hm with hm | hm
      · exact Int.le_trans (hle v) (h.cur v hv hm)
      · have : v = w := by have := List.mem_singleton.1 hm; omega
        subst this
        rw [updI_eq]; exact Int.le_refl _
  · rw [if_neg hc]
    refine ⟨h.b, h.s0, h.low, h.tri, fun v hv hm => ?_⟩
    rcases List.mem_append.1 hm with hm | hm
    · exact h.cur v hv hm
    · have : v = w := by have := List.mem_singleton.1 hm; omega
      subst this
      omega
theorem WI.next {x : Ix} {ew : Mat} {s r : Nat} {l : List Int} {U : Nat → Int} (h : WI x ew s r l U) (hok : x.Ok) (hr : r < x.n) (hl : ∀ w, w < x.n → r < x.rk w → (w : Int) ∈ l ∨ ew (x.by_ r) w = 4611686018427387906) : WI x ew s (r + 1) [] U := by
  refine ⟨h.b, h.s0, h.low, fun z v hz hv hlt hzr => ?_, fun w _ h => by cases h⟩
  by_cases e : x.rk z = r
  · have ez : z = x.by_ r := by rw [← e, (hok.rk z hz).2]
    rcases hl v hv (by omega) with h1 | h1
    · rw [ez]; exact h.cur v hv h1
    · rw [ez, h1, none_tw]; exact (h.b v hv).2
  · exact h.tri z v hz hv hlt (by omega)
theorem WI.last {x : Ix} {ew : Mat} {s : Nat} {U : Nat → Int} (hok : x.Ok) (h : WI x ew s x.n [] U) : UpS x ew s U :=
  ⟨h.b, h.s0, fun z v hz hv hlt => h.tri z v hz hv hlt (hok.rk z hz).1, h.low⟩
theorem Ix.upsTo_mem (x : Ix) (v : Int) (back : Bool) (z : Int) : ∀ k, z ∈ x.upsTo v back k ↔ ∃ r : Nat, r < k ∧ x.rank v < r ∧ x.dirE v back (x.by_ r : Nat) ≠ En.none ∧ z = (x.by_ r : Nat)
  | 0 => by simp [Ix.upsTo]
  | k + 1 => by
    have ih := x.upsTo_mem v back z k
    unfold Ix.upsTo
    by_cases hc : x.rank v < k ∧ x.dirE v back (x.by_ k : Nat) ≠ En.none
    · rw [if_pos hc, List.mem_append, ih, List.mem_singleton]
      constructor
      · rintro (⟨r, h1, h2⟩ | h)
        · exact ⟨r, by omega, h2⟩
        · exact ⟨k, by omega, hc.1, hc.2, h⟩
      · rintro ⟨r, h1, h2, h3, h4⟩
        by_cases e : r = k
        · subst e; exact .inr h4
        · exact .inl ⟨r, by omega, h2, h3, h4⟩
    · rw [if_neg hc, ih]
      constructor
      · rintro ⟨r, h1, h2⟩; exact ⟨r, by omega, h2⟩
      · rintro ⟨r, h1, h2, h3, h4⟩
        by_cases e : r = k
        · subst e; exact absurd ⟨h2, h3⟩ hc
        · exact ⟨r, by omega, h2, h3, h4⟩
theorem Ix.Ok.dir_ew {x : Ix} (hok : x.Ok) (back : Bool) {v w : Nat} (hv : v < x.n) (hw : w < x.n) (hne : v ≠ w) : (x.dirE (v : Nat) back (w : Nat)).w = x.ew back v w := by
  unfold Ix.dirE Ix.ew
  cases back
  · simp [at_nat (two_nat hv hw hne)]
  · simp [at_nat (two_nat hw hv (fun e => hne e.symm))]
theorem Ix.Ok.ups_mem {x : Ix} (hok : x.Ok) (back : Bool) {v : Nat} (hv : v < x.n) (z : Int) : z ∈ x.ups (v : Nat) back ↔ ∃ w : Nat, z = w ∧ w < x.n ∧ x.rk v < x.rk w ∧ x.dirE (v : Nat) back (w : Nat) ≠ En.none := by
  have hra : x.rank (v : Nat) = x.rk v := by unfold Ix.rank; rw [if_pos ⟨by omega, by omega⟩]; simp
  unfold Ix.ups Ix.vertex
  rw [if_pos (by simp; omega), x.upsTo_mem, hra]
  constructor
  · rintro ⟨r, h1, h2, h3, h4⟩
    have hb := hok.by_ r h1
    exact ⟨x.by_ r, h4, hb.1, by omega, h3⟩
  · rintro ⟨w, h1, h2, h3, h4⟩
    have hr := hok.rk w h2
    exact ⟨x.rk w, hr.1, by omega, by rw [hr.2]; exact h4, by rw [hr.2]; exact h1⟩
/-- Whoever is higher is in the row, or its entry is none. -/
theorem Ix.Ok.ups_or {x : Ix} (hok : x.Ok) (back : Bool) {v : Nat} (hv : v < x.n) : ∀ w, w < x.n → x.rk v < x.rk w → (w : Int) ∈ x.ups (v : Nat) back ∨ x.ew back v w = 4611686018427387906 := fun w hw hlt => by
  by_cases h : x.dirE (v : Nat) back (w : Nat) = En.none
  · right
    rw [← hok.dir_ew back hv hw (fun e => by subst e; omega), h]; rfl
  · left
    exact (hok.ups_mem back hv _).2 ⟨w, rfl, hw, hlt, h⟩

end Go.Proofs.YtpkocidcfnlbiaaGreatDoor
