/- climb.Meet, walked; and what two ways of seeking the highest agree in. -/
import Derived.Test.YtpkocidcfnlbiaaGreatDoorClb
import Derived.Test.YtpkocidcfnlbiaaGreatDoorAll
set_option linter.unusedVariables false
set_option linter.unusedSimpArgs false
namespace Go.Proofs.YtpkocidcfnlbiaaGreatDoor
open Go.RowKit Go.Shelf Go.Deep

/-- Of the vertices below k: the highest with p. -/
def TopV (x : Ix) (p : Nat → Bool) (k : Nat) (t : Int) : Prop := (t = -1 ∧ ∀ v, v < k → p v = false) ∨ ∃ u : Nat, t = u ∧ u < k ∧ p u = true ∧ ∀ v, v < k → p v = true → x.rk v ≤ x.rk u
/-- Of the ranks below k: the last one whose vertex has p. -/
def TopB (x : Ix) (p : Nat → Bool) (k : Nat) (t : Int) : Prop := (t = -1 ∧ ∀ i, i < k → p (x.by_ i) = false) ∨ ∃ i : Nat, t = x.by_ i ∧ i < k ∧ p (x.by_ i) = true ∧ ∀ j, i < j → j < k → p (x.by_ j) = false

theorem TopV.first (x : Ix) (p : Nat → Bool) : TopV x p 0 (-1) := .inl ⟨rfl, fun v h => by omega⟩
theorem TopB.first (x : Ix) (p : Nat → Bool) : TopB x p 0 (-1) := .inl ⟨rfl, fun v h => by omega⟩
theorem TopV.rank {x : Ix} {p : Nat → Bool} {k : Nat} {t : Int} (h : TopV x p k t) (hk : k ≤ x.n) : -1 ≤ t ∧ t < x.n ∧ (∀ v, v < k → p v = true → (x.rk v : Int) ≤ x.rank t) := by
  rcases h with ⟨rfl, h⟩ | ⟨u, rfl, hu, hp, h⟩
  · exact ⟨by omega, by omega, fun v hv e => by rw [h v hv] at e; cases e⟩
  · refine ⟨by omega, by omega, fun v hv e => ?_⟩
    have : x.rank (u : Nat) = x.rk u := by unfold Ix.rank; rw [if_pos ⟨by omega, by omega⟩]; simp
    rw [this]
    have := h v hv e
    omega
theorem TopV.no {x : Ix} {p : Nat → Bool} {k : Nat} {t : Int} (h : TopV x p k t) (hp : p k = false) : TopV x p (k + 1) t := by
  rcases h with ⟨rfl, h⟩ | ⟨u, rfl, hu, hpu, h⟩
  · exact .inl ⟨rfl, fun v hv => by
      by_cases e : v = k
      · rw [e]; exact hp
      · exact h v (by omega)⟩
  · exact .inr ⟨u, rfl, by omega, hpu, fun v hv hpv => by
      by_cases e : v = k
      · rw [e, hp] at hpv; cases hpv
      · exact h v (by omega) hpv⟩
theorem TopV.yes {x : Ix} {p : Nat → Bool} {k : Nat} {t : Int} (h : TopV x p k t) (hk : k < x.n) (hp : p k = true) (hr : x.rank t < x.rk k) : TopV x p (k + 1) (k : Nat) := by
  have h3 := (h.rank (by omega)).2.2
  exact .inr ⟨k, rfl, by omega, hp, fun v hv hpv => by
    by_cases e : v = k
    · rw [e]; exact Nat.le_refl _
    · have := h3 v (by omega) hpv; omega⟩
theorem TopV.stay {x : Ix} {p : Nat → Bool} {k : Nat} {t : Int} (h : TopV x p k t) (hk : k < x.n) (hr : ¬ x.rank t < x.rk k) : TopV x p (k + 1) t := by
  rcases h with ⟨rfl, h⟩ | ⟨u, rfl, hu, hpu, h⟩
  · have : x.rank (-1) = -1 := by unfold Ix.rank; rw [if_neg (by omega)]
    rw [this] at hr
    omega
  · have : x.rank (u : Nat) = x.rk u := by unfold Ix.rank; rw [if_pos ⟨by omega, by omega⟩]; simp
    rw [this] at hr
    exact .inr ⟨u, rfl, by omega, hpu, fun v hv hpv => by
      by_cases e : v = k
      · rw [e]; omega
      · exact h v (by omega) hpv⟩
theorem TopB.no {x : Ix} {p : Nat → Bool} {k : Nat} {t : Int} (h : TopB x p k t) (hp : p (x.by_ k) = false) : TopB x p (k + 1) t := by
  rcases h with ⟨rfl, h⟩ | ⟨u, rfl, hu, hpu, h⟩
  · exact .inl ⟨rfl, fun v hv => by
      by_cases e : v = k
      · rw [e]; exact hp
      · exact h v (by omega)⟩
  · exact .inr ⟨u, rfl, by omega, hpu, fun v h1 hv => by
      by_cases e : v = k
      · rw [e]; exact hp
      · exact h v h1 (by omega)⟩
theorem TopB.yes {x : Ix} {p : Nat → Bool} {k : Nat} (hp : p (x.by_ k) = true) : TopB x p (k + 1) (x.by_ k : Nat) :=
  .inr ⟨k, rfl, by omega, hp, fun v h1 hv => by omega⟩
theorem Top.eq {x : Ix} (hok : x.Ok) {p : Nat → Bool} {t t' : Int} (h : TopV x p x.n t) (h' : TopB x p x.n t') : t = t' := by
  rcases h with ⟨rfl, h⟩ | ⟨u, rfl, hu, hpu, h⟩ <;> rcases h' with ⟨rfl, h'⟩ | ⟨i, rfl, hi, hpi, h'⟩
  · rfl
  · have := h (x.by_ i) (hok.by_ i hi).1
    rw [hpi] at this; cases this
  · have := h' (x.rk u) (hok.rk u hu).1
    rw [(hok.rk u hu).2, hpu] at this; cases this
  · have h1 := h (x.by_ i) (hok.by_ i hi).1 hpi
    rw [(hok.by_ i hi).2] at h1
    have h2 : ¬ i < x.rk u := fun e => by
      have := h' (x.rk u) e (hok.rk u hu).1
      rw [(hok.rk u hu).2, hpu] at this; cases this
    have h3 : x.rk u = i := by omega
    rw [← h3, (hok.rk u hu).2]
theorem TopV.congr {x : Ix} {p q : Nat → Bool} {k : Nat} {t : Int} (h : TopV x p k t) (e : ∀ v, v < k → p v = q v) : TopV x q k t := by
  rcases h with ⟨rfl, h⟩ | ⟨u, rfl, hu, hpu, h⟩
  · exact .inl ⟨rfl, fun v hv => by rw [← e v hv]; exact h v hv⟩
  · exact .inr ⟨u, rfl, hu, by rw [← e u hu]; exact hpu, fun v hv hpv => h v hv (by rw [e v hv]; exact hpv)⟩

/-- A row of the square as a value. -/
def rowV (D : Mat) (i : Nat) : List Value := (List.range 24).map fun j => Value.int .i64 (D i j)
def sqL (D : Mat) : List Value := (List.range 576).map fun k => Value.int .i64 (D (k / 24) (k % 24))
theorem sqV_eq (D : Mat) : sqV D = (sqL D).toArray := rfl
theorem sqL_row (D : Mat) (i : Nat) (hi : i < 24) : List.take 24 (List.drop (i * 24) (sqL D)) = rowV D i := by
  apply List.ext_getElem?
  intro j
  rw [List.getElem?_take]
  by_cases hj : j < 24
  · rw [if_pos hj, List.getElem?_drop]
    unfold rowV sqL
    rw [List.getElem?_map, List.getElem?_range (by omega), Option.map_some, List.getElem?_map, List.getElem?_range hj, Option.map_some, show (i * 24 + j) / 24 = i by omega, show (i * 24 + j) % 24 = j by omega]
  · rw [if_neg hj, List.getElem?_eq_none (by simp [rowV]; omega)]
theorem rowV_get (D : Mat) (i j : Nat) (hj : j < 24) : (rowV D i)[j]? = some (.int .i64 (D i j)) := by
  unfold rowV
  rw [List.getElem?_map, List.getElem?_range hj, Option.map_some]
set_option maxRecDepth 100000 in
set_option maxHeartbeats 1000000 in
theorem run_index_sqL (X R : List Value) (i : Nat) (hi : i < 24) (e : List.take 24 (List.drop (i * 24) X) = R) (w : World) :
    (Instr.index 44 (.agg X.toArray) (.int .i64 (i : Nat))).run Tryz.prog w = .ok (.agg R.toArray) w := by
  simp [Instr.index, run_underlying, asIntOf, go_sem]
  rw [if_pos hi, e]
set_option maxRecDepth 100000 in
set_option maxHeartbeats 1000000 in
theorem run_index_rwL (X : List Value) (v : Int) (j : Nat) (hj : j < 24) (e : X[j]? = some (.int .i64 v)) (w : World) :
    (Instr.index 43 (.agg X.toArray) (.int .i64 (j : Nat))).run Tryz.prog w = .ok (.int .i64 v) w := by
  simp [Instr.index, run_underlying, asIntOf, go_sem]
  rw [if_pos hj, e]
  rfl
theorem run_index_sq (D : Mat) (i : Nat) (hi : i < 24) (w : World) :
    (Instr.index 44 (.agg (sqV D)) (.int .i64 (i : Nat))).run Tryz.prog w = .ok (.agg (rowV D i).toArray) w :=
  run_index_sqL _ _ i hi (sqL_row D i hi) w
theorem run_index_rw (D : Mat) (i j : Nat) (hj : j < 24) (w : World) :
    (Instr.index 43 (.agg (rowV D i).toArray) (.int .i64 (j : Nat))).run Tryz.prog w = .ok (.int .i64 (D i j)) w :=
  run_index_rwL _ _ j hj (rowV_get D i j hj) w

def MeetR (w : World) (x : Ix) (far : Int) (s t : Nat) (e : Ending) (w' : World) : Prop :=
  ∃ (U D : Nat → Int) (top : Int), e = .returned (.tuple #[.int .i64 top, .int .i64 0]) ∧ Fr No w w' ∧ UpS x (x.ew false) s U ∧ UpS x (x.ew true) t D ∧ TopV x (fun v => decide (tw (U v) (D v) = far)) x.n top

set_option maxRecDepth 100000 in
set_option maxHeartbeats 4000000 in
theorem cmeet_no {w : World} {L : IxLoc} {x : Ix} (h : IxMem w L x) (s t : Int) (hno : ¬ ((0 ≤ s ∧ s < x.n) ∧ (0 ≤ t ∧ t < x.n))) :
    Calls Tryz.prog 31 #[.pointer (some ⟨L.b, 0, none⟩), .int .i64 s, .int .i64 t] w fun e w' => e = .returned (.tuple #[.int .i64 0, .int .i64 1]) ∧ Fr No w w' := by
  have HD := hid (cdist_no h s t hno)
  clear h hno
  go_enter Tryz.func31, Tryz.ntmps31
  go_wp2_with fail
  refine HD.out.mono ?_
  rintro e w1 ⟨rfl, hf⟩
  have F1 := hid hf
  clear hf HD
  go_wp2
  go_ret2
  exact ⟨rfl, F1.out⟩

set_option maxRecDepth 100000 in
set_option maxHeartbeats 4000000 in
theorem cmeet_none {w : World} {L : IxLoc} {x : Ix} {G : Gr} (h : IxMem w L x) (hw : Whole G x) (ho : G.Ok) (hwt : G.Wt) (hn : G.n = x.n) (s t : Nat) (hs : s < x.n) (ht : t < x.n) (hfar : G.far s t = 4611686018427387906) :
    Calls Tryz.prog 31 #[.pointer (some ⟨L.b, 0, none⟩), .int .i64 (s : Nat), .int .i64 (t : Nat)] w fun e w' => e = .returned (.tuple #[.int .i64 0, .int .i64 3]) ∧ Fr No w w' := by
  have hd := cdist_far h hw ho hwt hn s t hs ht
  rw [hfar] at hd
  have HD := hid hd
  clear h hd hw ho hwt hn hs ht hfar
  go_enter Tryz.func31, Tryz.ntmps31
  go_wp2_with fail
  refine HD.out.mono ?_
  rintro e w1 ⟨rfl, hf⟩
  have F1 := hid hf
  clear hf HD
  go_wp2
  go_ret2
  exact ⟨rfl, F1.out⟩

set_option maxRecDepth 100000 in
set_option maxHeartbeats 4000000 in
theorem cmeet_yes {w : World} {L : IxLoc} {x : Ix} {G : Gr} (h : IxMem w L x) (hw : Whole G x) (ho : G.Ok) (hwt : G.Wt) (hn : G.n = x.n) (s t : Nat) (hs : s < x.n) (ht : t < x.n) (hfar : G.far s t ≠ 4611686018427387906) :
    Calls Tryz.prog 31 #[.pointer (some ⟨L.b, 0, none⟩), .int .i64 (s : Nat), .int .i64 (t : Nat)] w (MeetR w x (G.far s t) s t) := by
  have hd := cdist_far h hw ho hwt hn s t hs ht
  obtain ⟨far, hfr⟩ : ∃ f, G.far s t = f := ⟨_, rfl⟩
  rw [hfr] at hd hfar ⊢
  have hn24 := h.ok.n2
  have H := hid h
  have HD := hid hd
  have gf : (far == 4611686018427387906) = false := by simp; exact hfar
  clear h hd hw ho hwt hn hfr hfar
  go_enter Tryz.func31, Tryz.ntmps31
  go_wp2_with fail
  refine HD.out.mono ?_
  rintro e w1 ⟨rfl, hf⟩
  have F1 := hid hf
  have H1 := hid (H.out.no hf)
  clear hf HD H
  go_wp2_with fail
  refine (cup_yes H1.out s hs).mono ?_
  rintro e w2 ⟨B1, U, rfl, hb1, hf, _, hu⟩
  have H2 := hid (H1.out.no hf)
  have F2 := hid (F1.out.trans hf)
  have HB1 := hid hb1
  have HU := hid hu
  clear hf hb1 hu H1 F1
  go_wp2_with fail
  refine (cdown_yes H2.out t ht).mono ?_
  rintro e w3 ⟨B2, D, rfl, hb2, hf, _, hd⟩
  have H3 := hid (H2.out.no hf)
  have F3 := hid (F2.out.trans hf)
  have HB13 := hid (HB1.out.fr hf (fun h => h))
  have HB2 := hid hb2
  have HDD := hid hd
  clear hf hb2 hd H2 F2 HB1
  go_wp2
  go_loopg [14, 45] (x.n + 1) (fun gk p q wr => ∃ (k : Nat) (tp : Int), p = .int .i64 tp ∧ q = .int .i64 k ∧ k ≤ x.n ∧ gk = x.n + 1 - k ∧ Fr No w3 wr ∧ TopV x (fun v => decide (tw (U v) (D v) = far)) k tp)
  case atStart => exact ⟨0, -1, rfl, rfl, by omega, rfl, Fr.refl _ _, TopV.first _ _⟩
  case round =>
    obtain ⟨k, tp, rfl, rfl, hk, hg, hf, hT⟩ := hrel
    have HG := hid hg
    have HF := hid hf
    have HT := hid hT
    clear hg hf hT
    by_cases hlt : k < x.n
    · have hlt2 : (k : Int) < x.n := by omega
      have s1 := (HB13.out.fr HF.out (fun h => h)).cell hlt
      have s2 := (HB2.out.fr HF.out (fun h => h)).cell hlt
      obtain ⟨uv, eu⟩ : ∃ r, U k = r := ⟨_, rfl⟩
      obtain ⟨dv, ed⟩ : ∃ r, D k = r := ⟨_, rfl⟩
      rw [eu] at s1
      rw [ed] at s2
      have hsum : ad uv dv = tw (U k) (D k) := by rw [← eu, ← ed]; exact ad_tw (HU.out.b k hlt) (HDD.out.b k hlt)
      obtain ⟨sm, hsm⟩ : ∃ r, tw (U k) (D k) = r := ⟨_, rfl⟩
      rw [hsm] at hsum
      have HSM := hid hsm
      have HSUM := hid hsum
      clear eu ed hsum hsm
      go_wp2_with fail
      refine (adl_calls uv dv (some ⟨wr.heap.size, 0, none⟩) 2 _ (fun _ => ⟨_, 0, rfl, by intro j hj; (have : j = 0 ∨ j = 1 := by omega); rcases this with rfl | rfl <;> simp [go_sem, pfM]⟩)).mono ?_
      rw [HSUM.out]
      rintro e w5 ⟨rfl, hf5⟩
      have HF5 := hid (HF.out.trans (((Fr.refl No wr).alloc _).trans hf5))
      clear hf5 s1 s2
      by_cases hp : sm = far
      · have g1 : (sm == far) = true := by simp; exact hp
        have hra : x.rank (k : Nat) = x.rk k := by unfold Ix.rank; rw [if_pos ⟨by omega, by omega⟩]; simp
        have HRA := hid hra
        clear hra
        go_wp2_with fail
        refine (rank_calls (H3.out.no HF5.out) (k : Nat)).mono ?_
        rw [HRA.out]
        rintro e w6 ⟨rfl, hw6⟩
        subst hw6
        go_wp2_with fail
        refine (rank_calls (H3.out.no HF5.out) tp).mono ?_
        obtain ⟨rt, hrt⟩ : ∃ r, x.rank tp = r := ⟨_, rfl⟩
        rw [hrt]
        have HRT := hid hrt
        clear hrt
        rintro e w6 ⟨rfl, hw6⟩
        subst hw6
        have hpk : (fun v => decide (tw (U v) (D v) = far)) k = true := by show decide (tw (U k) (D k) = far) = true; rw [HSM.out]; simp; exact hp
        have HPK := hid hpk
        clear hpk
        by_cases hr : rt < (x.rk k : Int)
        · have g2 : decide (rt < (x.rk k : Int)) = true := by simp; exact hr
          go_wp2
          go_roundg (x.n + 1 - (k + 1))
          case measure => have := HG.out; omega
          case rel => exact ⟨k + 1, (k : Nat), rfl, by go_num, by omega, rfl, HF5.out, HT.out.yes hlt HPK.out (by rw [HRT.out]; exact hr)⟩
        · have g2 : decide (rt < (x.rk k : Int)) = false := by simp; omega
          go_wp2
          go_roundg (x.n + 1 - (k + 1))
          case measure => have := HG.out; omega
          case rel => exact ⟨k + 1, tp, rfl, by go_num, by omega, rfl, HF5.out, HT.out.stay hlt (by rw [HRT.out]; omega)⟩
      · have g1 : (sm == far) = false := by simp; exact hp
        have hpk : (fun v => decide (tw (U v) (D v) = far)) k = false := by show decide (tw (U k) (D k) = far) = false; rw [HSM.out]; simp; exact hp
        have HPK := hid hpk
        clear hpk
        go_wp2
        go_roundg (x.n + 1 - (k + 1))
        case measure => have := HG.out; omega
        case rel => exact ⟨k + 1, tp, rfl, by go_num, by omega, rfl, HF5.out, HT.out.no HPK.out⟩
    · obtain rfl : k = x.n := by omega
      go_wp2
      go_ret2
      exact ⟨U, D, tp, rfl, F3.out.trans HF.out, HU.out, HDD.out, HT.out⟩

end Go.Proofs.YtpkocidcfnlbiaaGreatDoor
