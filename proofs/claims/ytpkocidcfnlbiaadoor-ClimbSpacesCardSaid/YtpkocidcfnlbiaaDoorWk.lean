/- Walks in a graph, plain: in a whole index no walk by way of lower vertices is shorter than an entry; a walk as short as an entry is simple. -/
import Derived.Test.YtpkocidcfnlbiaaDoorWh
set_option linter.unusedVariables false
set_option linter.unusedSimpArgs false
namespace Go.Proofs.YtpkocidcfnlbiaaDoor
open Go.RowKit Go.Deep

/-- The arcs of l lead from u to v, all of them open. -/
def Wk (G : Gr) : Nat → List Nat → Nat → Prop
  | u, [], v => u = v
  | u, k :: l, v => k < 64 ∧ G.tk k = true ∧ (G.arc k).c = false ∧ (G.arc k).t = (u : Nat) ∧ Wk G (G.arc k).h.toNat l v
def Gr.hd (G : Gr) (k : Nat) : Nat := (G.arc k).h.toNat
def Gr.len (G : Gr) (l : List Nat) : Int := (l.map (fun k => (G.arc k).w)).sum
def Gr.mds (G : Gr) (l : List Nat) : List Nat := l.dropLast.map G.hd
theorem Gr.len_nil (G : Gr) : G.len [] = 0 := rfl
theorem Gr.len_cons (G : Gr) (k : Nat) (l : List Nat) : G.len (k :: l) = (G.arc k).w + G.len l := by simp [Gr.len]
theorem Gr.len_app (G : Gr) (a b : List Nat) : G.len (a ++ b) = G.len a + G.len b := by simp [Gr.len]
theorem Wk.app {G : Gr} : ∀ {a : List Nat} {u m : Nat} {b : List Nat} {v : Nat}, Wk G u a m → Wk G m b v → Wk G u (a ++ b) v := by
  intro a
  induction a with
  | nil => intro u m b v h1 h2; obtain rfl := h1; exact h2
  | cons k a ih =>
    intro u m b v h1 h2
    obtain ⟨p1, p2, p3, p4, p5⟩ := h1
    exact ⟨p1, p2, p3, p4, ih p5 h2⟩
theorem Wk.split {G : Gr} : ∀ (a : List Nat) {u : Nat} {b : List Nat} {v : Nat}, Wk G u (a ++ b) v → ∃ m, Wk G u a m ∧ Wk G m b v := by
  intro a
  induction a with
  | nil => intro u b v h; exact ⟨u, rfl, h⟩
  | cons k a ih =>
    intro u b v h
    obtain ⟨p1, p2, p3, p4, p5⟩ := h
    obtain ⟨m, h1, h2⟩ := ih p5
    exact ⟨m, ⟨p1, p2, p3, p4, h1⟩, h2⟩
theorem Wk.last {G : Gr} : ∀ {a : List Nat} {u k m : Nat}, Wk G u (a ++ [k]) m → m = G.hd k := by
  intro a
  induction a with
  | nil => intro u k m h; exact h.2.2.2.2.symm
  | cons j a ih => intro u k m h; exact ih h.2.2.2.2
/-- All weights of a walk are at least 1. -/
theorem Wk.pos {G : Gr} (hw : G.Wt) : ∀ {a : List Nat} {u v : Nat}, Wk G u a v → (a.length : Int) ≤ G.len a := by
  intro a
  induction a with
  | nil => intro u v _; exact Int.le_refl _
  | cons k a ih =>
    intro u v h
    have := ih h.2.2.2.2
    have h1 := (hw k h.1 h.2.1).1
    rw [Gr.len_cons, List.length_cons]
    omega
/-- All vertices to which a walk comes are some. -/
theorem Wk.hds {G : Gr} (ho : G.Ok) : ∀ {a : List Nat} {u v : Nat}, Wk G u a v → ∀ z ∈ a.map G.hd, z < G.n := by
  intro a
  induction a with
  | nil => intro u v _ z hz; cases hz
  | cons k a ih =>
    intro u v h z hz
    rw [List.map_cons, List.mem_cons] at hz
    rcases hz with rfl | hz
    · have := ho.arc k h.1 h.2.1
      unfold Gr.hd
      omega
    · exact ih h.2.2.2.2 z hz
/-- A walk is split at a vertex in between. -/
theorem Wk.at {G : Gr} {l : List Nat} {u v z : Nat} (h : Wk G u l v) (hz : z ∈ G.mds l) :
    ∃ a b, l = a ++ b ∧ a ≠ [] ∧ b ≠ [] ∧ Wk G u a z ∧ Wk G z b v ∧ (∀ y ∈ G.mds a, y ∈ G.mds l) ∧ (∀ y ∈ G.mds b, y ∈ G.mds l) := by
  unfold Gr.mds at hz
  obtain ⟨k, hk, rfl⟩ := List.mem_map.1 hz
  obtain ⟨a, b, hab⟩ := List.append_of_mem hk
  have hne : l ≠ [] := fun e => by subst e; cases hk
  have hl : l = (a ++ [k]) ++ (b ++ [l.getLast hne]) := by
    have := List.dropLast_concat_getLast hne
    rw [hab] at this
    exact this.symm.trans (by simp)
  have hdl : l.dropLast = (a ++ [k]) ++ b := by rw [hab]; simp
  rw [hl] at h
  obtain ⟨m, h1, h2⟩ := Wk.split _ h
  obtain rfl := Wk.last h1
  refine ⟨a ++ [k], b ++ [l.getLast hne], hl, by simp, by simp, h1, h2, fun y hy => ?_, fun y hy => ?_⟩
  · unfold Gr.mds at hy ⊢
    rw [List.dropLast_concat] at hy
    rw [hdl, List.map_append, List.map_append]
    exact List.mem_append_left _ (List.mem_append_left _ hy)
  · unfold Gr.mds at hy ⊢
    rw [List.dropLast_concat] at hy
    rw [hdl, List.map_append]
    exact List.mem_append_right _ hy

/-- The highest of some vertices. -/
theorem top_of (r : Nat → Nat) : ∀ (l : List Nat), l ≠ [] → ∃ m ∈ l, ∀ z ∈ l, r z ≤ r m := by
  intro l
  induction l with
  | nil => intro h; exact absurd rfl h
  | cons a l ih =>
    intro _
    by_cases h : l = []
    · subst h; exact ⟨a, by simp, fun z hz => by rw [List.mem_singleton.1 hz]; exact Nat.le_refl _⟩
    · obtain ⟨m, hm, h2⟩ := ih h
      by_cases hc : r m ≤ r a
      · refine ⟨a, by simp, fun z hz => ?_⟩
        rcases List.mem_cons.1 hz with rfl | hz
        · exact Nat.le_refl _
        · exact Nat.le_trans (h2 z hz) hc
      · refine ⟨m, by simp [hm], fun z hz => ?_⟩
        rcases List.mem_cons.1 hz with rfl | hz
        · omega
        · exact h2 z hz

theorem Ix.Ok.sum2_by {x : Ix} (h : x.Ok) {u v m : Nat} (hu : u < x.n) (hv : v < x.n) (hm : m < x.n) (h1 : u ≠ m) (h2 : m ≠ v) : x.sum2 (u : Nat) (v : Nat) (x.rk m) = add1 (add1 0 (x.ent u m).w) (x.ent m v).w := by
  unfold Ix.sum2
  rw [(h.rk m hm).2, at_nat (two_nat hu hm h1), at_nat (two_nat hm hv h2)]
theorem Ix.Ok.ent_b {x : Ix} (h : x.Ok) (u v : Nat) : 1 ≤ (x.ent u v).w ∧ (x.ent u v).w ≤ 4611686018427387906 := ⟨(h.ent u v).w1, (h.ent u v).w2⟩

/-- NO WALK BY WAY OF LOWER VERTICES IS SHORTER THAN AN ENTRY. -/
theorem Whole.least {G : Gr} {x : Ix} (h : Whole G x) (hok : x.Ok) (ho : G.Ok) (hw : G.Wt) (hn : G.n = x.n) : ∀ (N : Nat) (l : List Nat) (u v : Nat), l.length ≤ N → u < x.n → v < x.n → u ≠ v → Wk G u l v →
    (∀ z ∈ G.mds l, z = u ∨ z = v ∨ x.rk z < min (x.rk u) (x.rk v)) → G.len l ≤ 4611686018427387904 → (x.ent u v).w ≤ G.len l := by
  intro N
  induction N with
  | zero =>
    intro l u v hl _ _ hne hk
    have : l = [] := List.length_eq_zero_iff.1 (by omega)
    subst this
    exact absurd hk hne
  | succ N ih =>
    intro l u v hl hu hv hne hk hz hlen
    by_cases h0 : G.mds l = []
    · match l, hk with
      | [], hk => exact absurd hk hne
      | [k], hk =>
        obtain ⟨p1, p2, p3, p4, p5⟩ := hk
        have e : (G.arc k).h = (v : Nat) := by
          have := ho.arc k p1 p2
          have p6 : (G.arc k).h.toNat = v := p5
          omega
        have hb := G.best_least p1 p2 p3
        rw [p4, e] at hb
        rw [Gr.len_cons, Gr.len_nil]
        rcases h.cases hu hv hne with ⟨e1, e2, _⟩ | ⟨e1, _, _⟩ | ⟨j, hc, hlt⟩
        · have := (hw k p1 p2).2
          rw [e2] at hb; simp at hb; omega
        · rw [e1]; show (G.best _ _).1 ≤ _; omega
        · rw [hc.w]; omega
      | k :: k' :: l', hk => simp [Gr.mds] at h0
    · obtain ⟨m, hm, htop⟩ := top_of x.rk (G.mds l) h0
      by_cases hmu : u ∈ G.mds l
      · obtain ⟨a, b, e, ha, hb, h1, h2, h3, h4⟩ := hk.at hmu
        have hla : 0 < a.length := List.length_pos_iff.2 ha
        have hlb : a.length + b.length = l.length := by rw [e, List.length_append]
        have hpa := Wk.pos hw h1
        have hla2 : G.len l = G.len a + G.len b := by rw [e, Gr.len_app]
        have := ih b u v (by omega) hu hv hne h2 (fun z hz' => hz z (h4 z hz')) (by omega)
        omega
      · by_cases hmv : v ∈ G.mds l
        · obtain ⟨a, b, e, ha, hb, h1, h2, h3, h4⟩ := hk.at hmv
          have hlb0 : 0 < b.length := List.length_pos_iff.2 hb
          have hlb : a.length + b.length = l.length := by rw [e, List.length_append]
          have hpb := Wk.pos hw h2
          have hla2 : G.len l = G.len a + G.len b := by rw [e, Gr.len_app]
          have := ih a u v (by omega) hu hv hne h1 (fun z hz' => hz z (h3 z hz')) (by omega)
          omega
        · have hlow : ∀ z ∈ G.mds l, x.rk z < min (x.rk u) (x.rk v) := fun z hz' => by
            rcases hz z hz' with rfl | rfl | h'
            · exact absurd hz' hmu
            · exact absurd hz' hmv
            · exact h'
          have hmlow := hlow m hm
          obtain ⟨a, b, e, ha, hb, h1, h2, h3, h4⟩ := hk.at hm
          have hmn : m < x.n := by
            rw [← hn]
            refine Wk.hds ho hk m ?_
            unfold Gr.mds at hm
            obtain ⟨k, hk', rfl⟩ := List.mem_map.1 hm
            exact List.mem_map.2 ⟨k, List.dropLast_subset l hk', rfl⟩
          have hum : u ≠ m := fun e => by subst e; omega
          have hmv' : m ≠ v := fun e => by subst e; omega
          have hla0 : 0 < a.length := List.length_pos_iff.2 ha
          have hlb0 : 0 < b.length := List.length_pos_iff.2 hb
          have hlb : a.length + b.length = l.length := by rw [e, List.length_append]
          have hpa := Wk.pos hw h1
          have hpb := Wk.pos hw h2
          have hla2 : G.len l = G.len a + G.len b := by rw [e, Gr.len_app]
          have hlt : ∀ z, z ∈ G.mds l → z = m ∨ x.rk z < x.rk m := fun z hz' => by
            by_cases e : z = m
            · exact .inl e
            · right
              have h5 := htop z hz'
              have hzn : z < x.n := by
                rw [← hn]
                refine Wk.hds ho hk z ?_
                unfold Gr.mds at hz'
                obtain ⟨k, hk', rfl⟩ := List.mem_map.1 hz'
                exact List.mem_map.2 ⟨k, List.dropLast_subset l hk', rfl⟩
              have h6 : x.rk z ≠ x.rk m := fun e2 => e (hok.inj hzn hmn e2)
              omega
          have i1 := ih a u m (by omega) hu hmn hum h1 (fun z hz' => by
            rcases hlt z (h3 z hz') with h5 | h5
            · exact .inr (.inl h5)
            · exact .inr (.inr (by omega))) (by omega)
          have i2 := ih b m v (by omega) hmn hv hmv' h2 (fun z hz' => by
            rcases hlt z (h4 z hz') with h5 | h5
            · exact .inl h5
            · exact .inr (.inr (by omega))) (by omega)
          have hs := hok.sum2_by hu hv hmn hum hmv'
          rw [add1_two (hok.ent_b u m) (hok.ent_b m v), if_neg (by omega), if_neg (by omega)] at hs
          have hle : (x.ent u v).w ≤ x.sum2 (u : Nat) (v : Nat) (x.rk m) := by
            rcases h.cases hu hv hne with ⟨e1, _, e2⟩ | ⟨e1, _, e2⟩ | ⟨j, hc, _⟩
            · have := e2 _ hmlow
              rw [e1]; show (4611686018427387906 : Int) ≤ _; omega
            · rw [e1]; exact e2 _ hmlow
            · rw [hc.w]; exact hc.le _ hmlow
          omega

/-- The arcs of an entry. -/
def Ix.pth (x : Ix) : Nat → Nat → Nat → List Nat
  | 0, _, _ => []
  | f + 1, u, v => if (x.ent u v).m < 0 then [(x.ent u v).a.toNat] else x.pth f u (x.ent u v).m.toNat ++ x.pth f (x.ent u v).m.toNat v

/-- An entry that is told is unpacked to a walk by way of lower vertices that is as long. -/
theorem Whole.pth {G : Gr} {x : Ix} (h : Whole G x) (hok : x.Ok) (ho : G.Ok) (hw : G.Wt) (hn : G.n = x.n) : ∀ (f u v : Nat), u < x.n → v < x.n → u ≠ v → min (x.rk u) (x.rk v) < f → (x.ent u v).w ≤ 4611686018427387904 →
    Wk G u (x.pth f u v) v ∧ G.len (x.pth f u v) = (x.ent u v).w ∧ x.pth f u v ≠ [] ∧ ∀ z ∈ G.mds (x.pth f u v), x.rk z < min (x.rk u) (x.rk v) := by
  intro f
  induction f with
  | zero => intro u v _ _ _ hf; omega
  | succ f ih =>
    intro u v hu hv hne hf hle
    unfold Ix.pth
    rcases h.cases hu hv hne with ⟨e1, _, _⟩ | ⟨e1, e2, _⟩ | ⟨j, hc, _⟩
    · rw [e1] at hle; simp [En.none] at hle
    · rcases G.best_is (u : Nat) (v : Nat) with e | ⟨k, hk, htk, ht, hh, hcl, _, e⟩
      · rw [e] at e2; simp at e2
      · rw [e] at e1
        rw [e1, if_pos (by show (-1 : Int) < 0; omega)]
        simp only [Int.toNat_natCast]
        refine ⟨⟨hk, htk, hcl, ht, ?_⟩, ?_, by simp, fun z hz => by simp [Gr.mds] at hz⟩
        · show (G.arc k).h.toNat = v
          rw [hh]; simp
        · rw [Gr.len_cons, Gr.len_nil, Int.add_zero]
    · have hj := hc.lo
      have hb := hok.by_ j (by have := (hok.rk u hu).1; omega)
      have hm0 : ¬ (x.ent u v).m < 0 := by rw [hc.m]; omega
      rw [if_neg hm0, hc.m]
      simp only [Int.toNat_natCast]
      obtain ⟨m, hm⟩ : ∃ m, x.by_ j = m := ⟨_, rfl⟩
      rw [hm] at hb ⊢
      have hum : u ≠ m := fun e => by subst e; omega
      have hmv : m ≠ v := fun e => by subst e; omega
      have hs := hok.sum2_by hu hv hb.1 hum hmv
      rw [hb.2, ← hc.w, add1_two (hok.ent_b u m) (hok.ent_b m v)] at hs
      have hsum : (x.ent u v).w = (x.ent u m).w + (x.ent m v).w ∧ (x.ent u m).w + (x.ent m v).w ≤ 4611686018427387904 := by
        split at hs
        · omega
        · split at hs <;> omega
      have b1 := hok.ent_b u m
      have b2 := hok.ent_b m v
      obtain ⟨p1, p2, p3, p4⟩ := ih u m hu hb.1 hum (by omega) (by omega)
      obtain ⟨q1, q2, q3, q4⟩ := ih m v hb.1 hv hmv (by omega) (by omega)
      refine ⟨p1.app q1, by rw [Gr.len_app, p2, q2]; omega, by simp [p3], fun z hz => ?_⟩
      unfold Gr.mds at hz
      rw [List.dropLast_append_of_ne_nil q3, List.map_append, List.mem_append] at hz
      rcases hz with hz | hz
      · -- a vertex of the first part, or its end
        have hd := List.dropLast_concat_getLast p3
        rw [← hd, List.map_append, List.mem_append] at hz
        rcases hz with hz | hz
        · have := p4 z hz; omega
        · rw [List.map_singleton, List.mem_singleton] at hz
          have hlast : m = G.hd ((x.pth f u m).getLast p3) := by
            have hh := p1
            rw [← hd] at hh
            exact Wk.last hh
          rw [hz, ← hlast]; omega
      · have := q4 z hz; omega

/-- A vertex that comes twice. -/
theorem dup_at : ∀ (L : List Nat), ¬ L.Nodup → ∃ a y b c, L = a ++ y :: (b ++ y :: c) := by
  intro L
  induction L with
  | nil => intro h; exact absurd List.nodup_nil h
  | cons y t ih =>
    intro h
    by_cases hy : y ∈ t
    · obtain ⟨b, c, e⟩ := List.append_of_mem hy
      exact ⟨[], y, b, c, by rw [e]; rfl⟩
    · have : ¬ t.Nodup := fun ht => h (List.nodup_cons.2 ⟨hy, ht⟩)
      obtain ⟨a, z, b, c, e⟩ := ih this
      exact ⟨y :: a, z, b, c, by rw [e]; rfl⟩
/-- A walk up to a vertex that it comes to, and on from there. -/
theorem Wk.cut {G : Gr} : ∀ {l : List Nat} {u v : Nat} (a : List Nat) (z : Nat) (c : List Nat), Wk G u l v → u :: l.map G.hd = a ++ z :: c → ∃ l1 l2, l = l1 ++ l2 ∧ Wk G u l1 z ∧ Wk G z l2 v ∧ l1.length = a.length ∧ u :: l1.map G.hd = a ++ [z] ∧ z :: l2.map G.hd = z :: c := by
  intro l
  induction l with
  | nil =>
    intro u v a z c h e
    match a, e with
    | [], e =>
      simp at e
      obtain ⟨rfl, rfl⟩ := e
      exact ⟨[], [], rfl, rfl, h, rfl, rfl, rfl⟩
    | [_], e => simp at e
    | _ :: _ :: _, e => simp at e
  | cons k l ih =>
    intro u v a z c h e
    match a, e with
    | [], e =>
      rw [List.nil_append, List.cons.injEq] at e
      obtain ⟨rfl, rfl⟩ := e
      exact ⟨[], k :: l, rfl, rfl, h, rfl, rfl, rfl⟩
    | y :: a, e =>
      rw [List.cons_append, List.cons.injEq, List.map_cons] at e
      obtain ⟨rfl, e⟩ := e
      obtain ⟨p1, p2, p3, p4, p5⟩ := h
      obtain ⟨l1, l2, e1, e2, e3, e4, e5, e6⟩ := ih a z c p5 e
      refine ⟨k :: l1, l2, by rw [e1]; rfl, ⟨p1, p2, p3, p4, e2⟩, e3, by simp [e4], ?_, e6⟩
      rw [List.map_cons, List.cons_append, ← e5]; rfl
/-- A WALK BY WAY OF LOWER VERTICES THAT IS AS LONG AS AN ENTRY IS SIMPLE. -/
theorem Whole.simple {G : Gr} {x : Ix} (h : Whole G x) (hok : x.Ok) (ho : G.Ok) (hw : G.Wt) (hn : G.n = x.n) {l : List Nat} {u v : Nat} (hu : u < x.n) (hv : v < x.n) (hne : u ≠ v) (hk : Wk G u l v)
    (hz : ∀ z ∈ G.mds l, x.rk z < min (x.rk u) (x.rk v)) (hlen : G.len l ≤ 4611686018427387904) (hmin : G.len l ≤ (x.ent u v).w) : (u :: l.map G.hd).Nodup := by
  refine Classical.byContradiction fun hd => ?_
  obtain ⟨a, y, b, c, e⟩ := dup_at _ hd
  have hall : ∀ z, z ∈ u :: l.map G.hd → z = u ∨ z = v ∨ x.rk z < min (x.rk u) (x.rk v) := fun z hz' => by
    rcases List.mem_cons.1 hz' with rfl | h'
    · exact .inl rfl
    · have hl : l ≠ [] := fun e => by subst e; cases h'
      have hdl := List.dropLast_concat_getLast hl
      rw [← hdl, List.map_append, List.mem_append] at h'
      rcases h' with h' | h'
      · exact .inr (.inr (hz z h'))
      · rw [List.map_singleton, List.mem_singleton] at h'
        have hh := hk
        rw [← hdl] at hh
        have := Wk.last hh
        exact .inr (.inl (by rw [h', ← this]))
  obtain ⟨l1, l2, e1, w1, w2, e2, e3, e4⟩ := Wk.cut a y (b ++ y :: c) hk e
  obtain ⟨l3, l4, e5, w3, w4, e6, e7, e8⟩ := Wk.cut (y :: b) y c w2 (by rw [e4]; rfl)
  have w := w1.app w4
  have hlt : G.len (l1 ++ l4) < G.len l := by
    have hp := Wk.pos hw w3
    rw [List.length_cons] at e6
    rw [e1, e5, Gr.len_app, Gr.len_app, Gr.len_app]
    omega
  have hp0 := Wk.pos hw w
  have hsub : ∀ z ∈ G.mds (l1 ++ l4), z ∈ u :: l.map G.hd := fun z hz' => by
    unfold Gr.mds at hz'
    obtain ⟨k, hk', rfl⟩ := List.mem_map.1 hz'
    have hk2 := List.dropLast_subset _ hk'
    refine List.mem_cons_of_mem _ (List.mem_map.2 ⟨k, ?_, rfl⟩)
    rw [e1, e5]
    rcases List.mem_append.1 hk2 with h' | h'
    · exact List.mem_append_left _ h'
    · exact List.mem_append_right _ (List.mem_append_right _ h')
  have := h.least hok ho hw hn (l1 ++ l4).length (l1 ++ l4) u v (Nat.le_refl _) hu hv hne w (fun z hz' => hall z (hsub z hz')) (by omega)
  omega
/-- Numbers below n that are all unlike are at most n. -/
theorem nodup_le : ∀ (n : Nat) (L : List Nat), L.Nodup → (∀ z ∈ L, z < n) → L.length ≤ n := by
  intro n
  induction n with
  | zero =>
    intro L _ h
    match L with
    | [] => exact Nat.le_refl _
    | z :: L => exact absurd (h z (by simp)) (by omega)
  | succ n ih =>
    intro L hd h
    have h1 := ih (L.erase n) (hd.erase n) (fun z hz => by
      have h2 := h z (List.mem_of_mem_erase hz)
      have h3 : z ≠ n := fun e => by
        subst e
        exact (hd.mem_erase_iff.1 hz).1 rfl
      omega)
    have h4 := List.length_erase_le (l := L) (a := n)
    by_cases hm : n ∈ L
    · rw [List.length_erase_of_mem hm] at h1
      omega
    · rw [List.erase_of_not_mem hm] at h1
      omega
/-- The arcs of an entry that is told: a simple walk; fewer than there are vertices. -/
theorem Whole.path {G : Gr} {x : Ix} (h : Whole G x) (hok : x.Ok) (ho : G.Ok) (hw : G.Wt) (hn : G.n = x.n) {u v : Nat} (hu : u < x.n) (hv : v < x.n) (hne : u ≠ v) (hle : (x.ent u v).w ≤ 4611686018427387904) {f : Nat} (hf : min (x.rk u) (x.rk v) < f) :
    (u :: (x.pth f u v).map G.hd).Nodup ∧ (x.pth f u v).length < x.n := by
  obtain ⟨p1, p2, p3, p4⟩ := h.pth hok ho hw hn f u v hu hv hne hf hle
  have hs := h.simple hok ho hw hn hu hv hne p1 p4 (by omega) (by omega)
  refine ⟨hs, ?_⟩
  have := nodup_le x.n _ hs (fun z hz => by
    rcases List.mem_cons.1 hz with rfl | hz
    · exact hu
    · rw [← hn]; exact Wk.hds ho p1 z hz)
  simp at this
  omega

end Go.Proofs.YtpkocidcfnlbiaaDoor
