/- The document's 'Up': the higher vertices that have an entry, by rising rank; walked. -/
import Derived.Test.YtpkocidcfnlbiaaDoorFam
import Derived.Test.YtpkocidcfnlbiaaDoorLnk
set_option linter.unusedVariables false
set_option linter.unusedSimpArgs false
namespace Go.Proofs.YtpkocidcfnlbiaaDoor
open Go.RowKit Go.Deep
attribute [local go_sem high] run_eql_en run_neq_en

theorem own_slL {w : World} {base : Nat} {A : Option Addr} {c : Nat} {l : List Int} (h : w.ownsRow base 3 1 (.slice A l.length c) l.length (l.map (Value.int .i64))) (hn : l = [] → A = none ∧ c = 0) : SlL w (.slice A l.length c) l := by
  rcases Nat.eq_zero_or_pos l.length with h0 | h0
  · have e := List.eq_nil_of_length_eq_zero h0
    obtain ⟨rfl, rfl⟩ := hn e
    exact .inl ⟨e, by rw [e]; rfl⟩
  · have hh := h
    obtain ⟨h1, h2 | ⟨g, cap, cur, e1, _⟩⟩ := h
    · have h3 := h2.1
      simp only [Value.slice.injEq] at h3
      omega
    · rw [e1] at hh
      obtain ⟨q1, q2, q3, q4, q5⟩ := own_list hh
      exact .inr ⟨g, 0, cap, h0, e1, fun j hj => by rw [Nat.zero_add]; exact q5 j hj⟩

theorem Ix.upsTo_le (x : Ix) (v : Int) (back : Bool) : ∀ r, (x.upsTo v back r).length ≤ r
  | 0 => Nat.le_refl _
  | r + 1 => by
    have := x.upsTo_le v back r
    unfold Ix.upsTo
    split
    · simp; omega
    · omega

set_option maxRecDepth 100000 in
set_option maxHeartbeats 4000000 in
theorem rup_no {x : Ix} {w : World} {R : RxLoc} (h : RxMem w R x) (v : Int) (back : Bool) (hv : x.vertex v = false) :
    Calls Tryd.prog 27 #[.pointer (some ⟨R.b, 0, none⟩), .int .i64 v, .bool back] w fun e w' => e = .returned (.slice none 0 0) ∧ Fr No w w' := by
  have HV := hid hv
  clear hv
  go_enter Tryd.func27, Tryd.ntmps27
  go_wp2_with fail
  refine (rvertex_calls h v).mono ?_
  rintro e w1 ⟨rfl, rfl⟩
  rw [HV.out]
  go_wp2
  go_ret
  exact ⟨rfl, Fr.refl _ _⟩

set_option maxRecDepth 100000 in
set_option maxHeartbeats 4000000 in
theorem rup_out {x : Ix} {w : World} {R : RxLoc} (h : RxMem w R x) (a : Nat) (ha : a < x.n) :
    Calls Tryd.prog 27 #[.pointer (some ⟨R.b, 0, none⟩), .int .i64 (a : Nat), .bool false] w fun e w' => ∃ A c, e = .returned (.slice A (x.upsTo (a : Nat) false x.n).length c) ∧ Fr No w w' ∧ SlL w' (.slice A (x.upsTo (a : Nat) false x.n).length c) (x.upsTo (a : Nat) false x.n) ∧ ∀ p : Addr, A = some p → w.heap.size ≤ p.block := by
  have hn := h.ok.n2
  have hv : x.vertex (a : Nat) = true := by unfold Ix.vertex; simp; omega
  have hra : x.rank (a : Nat) = x.rk a := by unfold Ix.rank; rw [if_pos ⟨by omega, by omega⟩]; simp
  have hrn := (h.ok.rk a ha).1
  have c0 := h.c0
  have r1 := h.rk a ha
  have HV := hid hv
  have HRA := hid hra
  have H := hid h
  have ha2 : (a : Int) < x.n := by omega
  clear hv hra h
  go_enter Tryd.func27, Tryd.ntmps27
  go_wp2_with fail
  refine (rvertex_calls H.out _).mono ?_
  rintro e w1 ⟨rfl, rfl⟩
  rw [HV.out]
  go_wp2
  clear c0 r1
  go_loopg [7, 8] (x.n - (x.rk a + 1)) (fun g p q wr => ∃ (r : Nat) (l : List Int) (A : Option Addr) (c : Nat), q = .int .i64 r ∧ r ≤ x.n ∧ x.rk a < r ∧ p = .slice A l.length c ∧ wr.ownsRow w.heap.size 3 1 (.slice A l.length c) l.length (l.map (Value.int .i64)) ∧ (l = [] → A = none ∧ c = 0) ∧
      l = x.upsTo (a : Nat) false r ∧ g = x.n - r ∧ Fr No w wr)
  case atStart => exact ⟨x.rk a + 1, [], none, 0, by go_num, by omega, by omega, rfl, World.ownsRow_nil _ _ _ _, fun _ => ⟨rfl, rfl⟩, (x.upsTo_low _ _ _ (by rw [HRA.out]; omega)).symm, rfl, Fr.refl _ _⟩
  case round =>
    obtain ⟨r, l, A, c, rfl, hr, hlo, rfl, hown, hnil, hl, hg, hf⟩ := hrel
    have HO := hid hown
    have HNIL := hid hnil
    have HL := hid hl
    have HG := hid hg
    have HF := hid hf
    have hlen : l.length ≤ 24 := by rw [hl]; have := x.upsTo_le (a : Nat) false r; omega
    have c0 := (H.out.no hf).c0
    clear hown hnil hl hg hf
    by_cases hlt : r < x.n
    · have hr2 : (r : Int) < x.n := by omega
      have hby := H.out.ok.by_ r hlt
      have hbr : x.byr (r : Nat) = (x.by_ r : Nat) := by unfold Ix.byr; rw [if_pos ⟨by omega, by omega⟩]; simp
      have HB := hid hbr
      have hne : a ≠ x.by_ r := fun e => by rw [← e] at hby; omega
      have hat : x.at_ (a : Nat) (x.by_ r : Nat) = x.ent a (x.by_ r) := by
        unfold Ix.at_ Ix.two; rw [if_pos (by simp; omega)]; rfl
      have hst : x.upsTo (a : Nat) false (r + 1) = if x.rank (a : Nat) < r ∧ x.dirE (a : Nat) false (x.by_ r : Nat) ≠ En.none then x.upsTo (a : Nat) false r ++ [((x.by_ r : Nat) : Int)] else x.upsTo (a : Nat) false r := rfl
      rw [show x.dirE (a : Nat) false (x.by_ r : Nat) = x.ent a (x.by_ r) from hat, HRA.out] at hst
      obtain ⟨z, hz⟩ : ∃ z, x.by_ r = z := ⟨_, rfl⟩
      rw [hz] at hby hst HB hne
      have hz1 := hby.1
      have HST := hid hst
      clear hbr hat hst hz hby
      go_wp2_with fail
      clear c0
      refine (rby_calls (H.out.no HF.out) (r : Nat)).mono ?_
      rintro e w2 ⟨rfl, hf2⟩
      rw [HB.out]
      have HF2 := hid (HF.out.trans hf2)
      have HO2 := hid (own_fr HO.out hf2 (fun _ _ h => h))
      have k0 := (H.out.no HF2.out).at_pl (u := a) (v := z) (by omega) (by omega) 0 (by omega)
      have k1 := (H.out.no HF2.out).at_pl (u := a) (v := z) (by omega) (by omega) 1 (by omega)
      have k2 := (H.out.no HF2.out).at_pl (u := a) (v := z) (by omega) (by omega) 2 (by omega)
      rw [Nat.add_zero] at k0
      have zl := (H.out.no HF2.out).lt
      obtain ⟨⟨e0, e1, e2⟩, hen⟩ : ∃ en, x.ent a z = en := ⟨_, rfl⟩
      rw [hen] at k0 k1 k2
      have HEN := hid hen
      simp only [En.cell, if_true, if_false, Nat.one_ne_zero, Nat.reduceEqDiff] at k0 k1 k2
      have hz2 : (z : Int) < 24 := by omega
      have ha3 : (a : Int) < 24 := by omega
      clear hf2 HF HO hen
      cases hE : eq3 e0 e1 e2 4611686018427387906 (-1) (-1) with
      | true =>
        have hE2 := eq3_en ⟨e0, e1, e2⟩ En.none
        have hnone : x.ent a z = En.none := by
          rw [HEN.out]
          have : eq3 e0 e1 e2 4611686018427387906 (-1) (-1) = decide ((⟨e0, e1, e2⟩ : En) = En.none) := hE2
          rw [hE] at this
          exact of_decide_eq_true this.symm
        have HX := hid hnone
        clear hE2 hnone
        go_wp2_with fail
        have kk0 : ∀ n : Fam w2, n.v.cell? ⟨R.b, 1 + a * 72 + z * 3, none⟩ = some (.int .i64 e0) := Fam.cell k0
        have kk1 : ∀ n : Fam w2, n.v.cell? ⟨R.b, 1 + a * 72 + z * 3 + 1, none⟩ = some (.int .i64 e1) := Fam.cell k1
        have kk2 : ∀ n : Fam w2, n.v.cell? ⟨R.b, 1 + a * 72 + z * 3 + 2, none⟩ = some (.int .i64 e2) := Fam.cell k2
        refine wp_region_fam (by kernel_rfl) (by kernel_rfl) ?_
        repeat (go_big_quiet_step (exact Calls.fam (rnone_agg _)))
        refine wpQuiet_nil ?_
        rintro w3 ⟨⟨w3, hf3⟩, rfl⟩
        all_goals go_wp2
        all_goals go_roundg (x.n - (r + 1))
        all_goals first
          | (have := HG.out; omega)
          | exact ⟨r + 1, l, A, c, by go_num, by omega, by omega, rfl, own_fr HO2.out (hf3) (fun _ _ h => h), HNIL.out, by rw [HST.out, if_neg (fun h => h.2 HX.out)]; exact HL.out, rfl, HF2.out.trans hf3⟩
          | exact ⟨r + 1, l, A, c, by go_num, by omega, by omega, rfl, own_fr HO2.out hf3 (fun _ _ h => h), HNIL.out, by rw [HST.out, if_neg (fun h => h.2 HX.out)]; exact HL.out, rfl, HF2.out.trans hf3⟩
      | false =>
        have hE2 := eq3_en ⟨e0, e1, e2⟩ En.none
        have hnone : x.ent a z ≠ En.none := by
          rw [HEN.out]
          have : eq3 e0 e1 e2 4611686018427387906 (-1) (-1) = decide ((⟨e0, e1, e2⟩ : En) = En.none) := hE2
          rw [hE] at this
          exact of_decide_eq_false this.symm
        have HX := hid hnone
        clear hE2 hnone
        go_wp2_with fail
        have kk0 : ∀ n : Fam w2, n.v.cell? ⟨R.b, 1 + a * 72 + z * 3, none⟩ = some (.int .i64 e0) := Fam.cell k0
        have kk1 : ∀ n : Fam w2, n.v.cell? ⟨R.b, 1 + a * 72 + z * 3 + 1, none⟩ = some (.int .i64 e1) := Fam.cell k1
        have kk2 : ∀ n : Fam w2, n.v.cell? ⟨R.b, 1 + a * 72 + z * 3 + 2, none⟩ = some (.int .i64 e2) := Fam.cell k2
        refine wp_region_fam (by kernel_rfl) (by kernel_rfl) ?_
        repeat (go_big_quiet_step (exact Calls.fam (rnone_agg _)))
        refine wpQuiet_nil ?_
        rintro w3 ⟨⟨w3, hf3⟩, rfl⟩
        all_goals have HF3 := hid (HF2.out.trans hf3)
        all_goals have HO3 := hid (own_fr HO2.out hf3 (fun _ _ h => h))
        all_goals have hsz := HF3.out.size
        all_goals clear hf3
        all_goals go_wp2_with (at_builtin; refine wpList_push (.tmp 63) (.tmp 65) (.slice A l.length c) l w3.heap.size 1 (z : Nat) ?_ ?_ ?_ ?_ w.heap.size ?_ ?_ ?_ ?_ ?_; rfl; rfl; rfl; rfl; exact own_fr HO3.out ((Fr.refl No _).alloc _) (fun _ _ h => h); (simp; omega); exact cell_of (heap_new w3 _) 0; omega; intro g' cap' w4 hown4 hgrow4 hat4 hlt4; have HO4 := hid hown4; have HG4 := hid hgrow4; clear hown4 hgrow4 hat4)
        all_goals go_roundg (x.n - (r + 1))
        all_goals first
          | (have := HG.out; omega)
          | exact ⟨r + 1, l ++ [(z : Int)], some ⟨g', 0, none⟩, cap', by go_num, by omega, by omega, by simp, HO4.out, fun e => by simp at e, by rw [HST.out, if_pos ⟨by omega, HX.out⟩, HL.out], rfl, (HF3.out.alloc _).grown HG4.out (fun k e => .inr (own_block HO3.out k e).1)⟩
    · have e : r = x.n := by omega
      subst e
      go_wp2
      go_ret
      rw [← HL.out]
      exact ⟨A, c, rfl, HF.out, own_slL HO.out HNIL.out, fun p hp => (own_block HO.out p.block (by rw [hp]; rfl)).1⟩

end Go.Proofs.YtpkocidcfnlbiaaDoor

/- The document's 'Up', both ways; walked. -/
set_option linter.unusedVariables false
set_option linter.unusedSimpArgs false
namespace Go.Proofs.YtpkocidcfnlbiaaDoor
open Go.RowKit Go.Deep
attribute [local go_sem high] run_eql_en run_neq_en

set_option maxRecDepth 100000 in
set_option maxHeartbeats 4000000 in
theorem rup_in {x : Ix} {w : World} {R : RxLoc} (h : RxMem w R x) (a : Nat) (ha : a < x.n) :
    Calls Tryd.prog 27 #[.pointer (some ⟨R.b, 0, none⟩), .int .i64 (a : Nat), .bool true] w fun e w' => ∃ A c, e = .returned (.slice A (x.upsTo (a : Nat) true x.n).length c) ∧ Fr No w w' ∧ SlL w' (.slice A (x.upsTo (a : Nat) true x.n).length c) (x.upsTo (a : Nat) true x.n) ∧ ∀ p : Addr, A = some p → w.heap.size ≤ p.block := by
  have hn := h.ok.n2
  have hv : x.vertex (a : Nat) = true := by unfold Ix.vertex; simp; omega
  have hra : x.rank (a : Nat) = x.rk a := by unfold Ix.rank; rw [if_pos ⟨by omega, by omega⟩]; simp
  have hrn := (h.ok.rk a ha).1
  have c0 := h.c0
  have r1 := h.rk a ha
  have HV := hid hv
  have HRA := hid hra
  have H := hid h
  have ha2 : (a : Int) < x.n := by omega
  clear hv hra h
  go_enter Tryd.func27, Tryd.ntmps27
  go_wp2_with fail
  refine (rvertex_calls H.out _).mono ?_
  rintro e w1 ⟨rfl, rfl⟩
  rw [HV.out]
  go_wp2
  clear c0 r1
  go_loopg [7, 8] (x.n - (x.rk a + 1)) (fun g p q wr => ∃ (r : Nat) (l : List Int) (A : Option Addr) (c : Nat), q = .int .i64 r ∧ r ≤ x.n ∧ x.rk a < r ∧ p = .slice A l.length c ∧ wr.ownsRow w.heap.size 3 1 (.slice A l.length c) l.length (l.map (Value.int .i64)) ∧ (l = [] → A = none ∧ c = 0) ∧
      l = x.upsTo (a : Nat) true r ∧ g = x.n - r ∧ Fr No w wr)
  case atStart => exact ⟨x.rk a + 1, [], none, 0, by go_num, by omega, by omega, rfl, World.ownsRow_nil _ _ _ _, fun _ => ⟨rfl, rfl⟩, (x.upsTo_low _ _ _ (by rw [HRA.out]; omega)).symm, rfl, Fr.refl _ _⟩
  case round =>
    obtain ⟨r, l, A, c, rfl, hr, hlo, rfl, hown, hnil, hl, hg, hf⟩ := hrel
    have HO := hid hown
    have HNIL := hid hnil
    have HL := hid hl
    have HG := hid hg
    have HF := hid hf
    have hlen : l.length ≤ 24 := by rw [hl]; have := x.upsTo_le (a : Nat) true r; omega
    have c0 := (H.out.no hf).c0
    clear hown hnil hl hg hf
    by_cases hlt : r < x.n
    · have hr2 : (r : Int) < x.n := by omega
      have hby := H.out.ok.by_ r hlt
      have hbr : x.byr (r : Nat) = (x.by_ r : Nat) := by unfold Ix.byr; rw [if_pos ⟨by omega, by omega⟩]; simp
      have HB := hid hbr
      have hne : a ≠ x.by_ r := fun e => by rw [← e] at hby; omega
      have hat : x.at_ (x.by_ r : Nat) (a : Nat) = x.ent (x.by_ r) a := by
        unfold Ix.at_ Ix.two; rw [if_pos (by simp; omega)]; rfl
      have hst : x.upsTo (a : Nat) true (r + 1) = if x.rank (a : Nat) < r ∧ x.dirE (a : Nat) true (x.by_ r : Nat) ≠ En.none then x.upsTo (a : Nat) true r ++ [((x.by_ r : Nat) : Int)] else x.upsTo (a : Nat) true r := rfl
      rw [show x.dirE (a : Nat) true (x.by_ r : Nat) = x.ent (x.by_ r) a from hat, HRA.out] at hst
      obtain ⟨z, hz⟩ : ∃ z, x.by_ r = z := ⟨_, rfl⟩
      rw [hz] at hby hst HB hne
      have hz1 := hby.1
      have HST := hid hst
      clear hbr hat hst hz hby
      go_wp2_with fail
      clear c0
      refine (rby_calls (H.out.no HF.out) (r : Nat)).mono ?_
      rintro e w2 ⟨rfl, hf2⟩
      rw [HB.out]
      have HF2 := hid (HF.out.trans hf2)
      have HO2 := hid (own_fr HO.out hf2 (fun _ _ h => h))
      have k0 := (H.out.no HF2.out).at_pl (u := z) (v := a) (by omega) (by omega) 0 (by omega)
      have k1 := (H.out.no HF2.out).at_pl (u := z) (v := a) (by omega) (by omega) 1 (by omega)
      have k2 := (H.out.no HF2.out).at_pl (u := z) (v := a) (by omega) (by omega) 2 (by omega)
      rw [Nat.add_zero] at k0
      have zl := (H.out.no HF2.out).lt
      obtain ⟨⟨e0, e1, e2⟩, hen⟩ : ∃ en, x.ent z a = en := ⟨_, rfl⟩
      rw [hen] at k0 k1 k2
      have HEN := hid hen
      simp only [En.cell, if_true, if_false, Nat.one_ne_zero, Nat.reduceEqDiff] at k0 k1 k2
      have hz2 : (z : Int) < 24 := by omega
      have ha3 : (a : Int) < 24 := by omega
      clear hf2 HF HO hen
      cases hE : eq3 e0 e1 e2 4611686018427387906 (-1) (-1) with
      | true =>
        have hE2 := eq3_en ⟨e0, e1, e2⟩ En.none
        have hnone : x.ent z a = En.none := by
          rw [HEN.out]
          have : eq3 e0 e1 e2 4611686018427387906 (-1) (-1) = decide ((⟨e0, e1, e2⟩ : En) = En.none) := hE2
          rw [hE] at this
          exact of_decide_eq_true this.symm
        have HX := hid hnone
        clear hE2 hnone
        go_wp2_with fail
        have kk0 : ∀ n : Fam w2, n.v.cell? ⟨R.b, 1 + z * 72 + a * 3, none⟩ = some (.int .i64 e0) := Fam.cell k0
        have kk1 : ∀ n : Fam w2, n.v.cell? ⟨R.b, 1 + z * 72 + a * 3 + 1, none⟩ = some (.int .i64 e1) := Fam.cell k1
        have kk2 : ∀ n : Fam w2, n.v.cell? ⟨R.b, 1 + z * 72 + a * 3 + 2, none⟩ = some (.int .i64 e2) := Fam.cell k2
        refine wp_region_fam (by kernel_rfl) (by kernel_rfl) ?_
        repeat (go_big_quiet_step (exact Calls.fam (rnone_agg _)))
        refine wpQuiet_nil ?_
        rintro w3 ⟨⟨w3, hf3⟩, rfl⟩
        all_goals go_wp2
        all_goals go_roundg (x.n - (r + 1))
        all_goals first
          | (have := HG.out; omega)
          | exact ⟨r + 1, l, A, c, by go_num, by omega, by omega, rfl, own_fr HO2.out (hf3) (fun _ _ h => h), HNIL.out, by rw [HST.out, if_neg (fun h => h.2 HX.out)]; exact HL.out, rfl, HF2.out.trans hf3⟩
          | exact ⟨r + 1, l, A, c, by go_num, by omega, by omega, rfl, own_fr HO2.out hf3 (fun _ _ h => h), HNIL.out, by rw [HST.out, if_neg (fun h => h.2 HX.out)]; exact HL.out, rfl, HF2.out.trans hf3⟩
      | false =>
        have hE2 := eq3_en ⟨e0, e1, e2⟩ En.none
        have hnone : x.ent z a ≠ En.none := by
          rw [HEN.out]
          have : eq3 e0 e1 e2 4611686018427387906 (-1) (-1) = decide ((⟨e0, e1, e2⟩ : En) = En.none) := hE2
          rw [hE] at this
          exact of_decide_eq_false this.symm
        have HX := hid hnone
        clear hE2 hnone
        go_wp2_with fail
        have kk0 : ∀ n : Fam w2, n.v.cell? ⟨R.b, 1 + z * 72 + a * 3, none⟩ = some (.int .i64 e0) := Fam.cell k0
        have kk1 : ∀ n : Fam w2, n.v.cell? ⟨R.b, 1 + z * 72 + a * 3 + 1, none⟩ = some (.int .i64 e1) := Fam.cell k1
        have kk2 : ∀ n : Fam w2, n.v.cell? ⟨R.b, 1 + z * 72 + a * 3 + 2, none⟩ = some (.int .i64 e2) := Fam.cell k2
        refine wp_region_fam (by kernel_rfl) (by kernel_rfl) ?_
        repeat (go_big_quiet_step (exact Calls.fam (rnone_agg _)))
        refine wpQuiet_nil ?_
        rintro w3 ⟨⟨w3, hf3⟩, rfl⟩
        all_goals have HF3 := hid (HF2.out.trans hf3)
        all_goals have HO3 := hid (own_fr HO2.out hf3 (fun _ _ h => h))
        all_goals have hsz := HF3.out.size
        all_goals clear hf3
        all_goals go_wp2_with (at_builtin; refine wpList_push (.tmp 63) (.tmp 65) (.slice A l.length c) l w3.heap.size 1 (z : Nat) ?_ ?_ ?_ ?_ w.heap.size ?_ ?_ ?_ ?_ ?_; rfl; rfl; rfl; rfl; exact own_fr HO3.out ((Fr.refl No _).alloc _) (fun _ _ h => h); (simp; omega); exact cell_of (heap_new w3 _) 0; omega; intro g' cap' w4 hown4 hgrow4 hat4 hlt4; have HO4 := hid hown4; have HG4 := hid hgrow4; clear hown4 hgrow4 hat4)
        all_goals go_roundg (x.n - (r + 1))
        all_goals first
          | (have := HG.out; omega)
          | exact ⟨r + 1, l ++ [(z : Int)], some ⟨g', 0, none⟩, cap', by go_num, by omega, by omega, by simp, HO4.out, fun e => by simp at e, by rw [HST.out, if_pos ⟨by omega, HX.out⟩, HL.out], rfl, (HF3.out.alloc _).grown HG4.out (fun k e => .inr (own_block HO3.out k e).1)⟩
    · have e : r = x.n := by omega
      subst e
      go_wp2
      go_ret
      rw [← HL.out]
      exact ⟨A, c, rfl, HF.out, own_slL HO.out HNIL.out, fun p hp => (own_block HO.out p.block (by rw [hp]; rfl)).1⟩

theorem rup2_calls {x : Ix} {w : World} {R : RxLoc} (h : RxMem w R x) (v : Int) (back : Bool) :
    Calls Tryd.prog 27 #[.pointer (some ⟨R.b, 0, none⟩), .int .i64 v, .bool back] w fun e w' => ∃ A c, e = .returned (.slice A (x.ups v back).length c) ∧ Fr No w w' ∧ SlL w' (.slice A (x.ups v back).length c) (x.ups v back) ∧ ∀ p : Addr, A = some p → w.heap.size ≤ p.block := by
  cases hv : x.vertex v with
  | false =>
    have e : x.ups v back = [] := by unfold Ix.ups; rw [hv]; rfl
    rw [e]
    refine (rup_no h v back hv).mono ?_
    rintro e w' ⟨rfl, hf⟩
    exact ⟨none, 0, rfl, hf, .inl ⟨rfl, rfl⟩, fun p hp => by cases hp⟩
  | true =>
    have e : x.ups v back = x.upsTo v back x.n := by unfold Ix.ups; rw [if_pos hv]
    rw [e]
    have hv2 : 0 ≤ v ∧ v < x.n := by unfold Ix.vertex at hv; simpa using hv
    obtain ⟨a, rfl⟩ := Int.eq_ofNat_of_zero_le hv2.1
    cases back with
    | false => exact rup_out h a (by omega)
    | true => exact rup_in h a (by omega)
theorem rup_calls {x : Ix} {w : World} {R : RxLoc} (h : RxMem w R x) (v : Int) (back : Bool) :
    Calls Tryd.prog 27 #[.pointer (some ⟨R.b, 0, none⟩), .int .i64 v, .bool back] w fun e w' => ∃ A c, e = .returned (.slice A (x.ups v back).length c) ∧ Fr No w w' ∧ SlL w' (.slice A (x.ups v back).length c) (x.ups v back) :=
  (rup2_calls h v back).mono fun e w' ⟨A, c, h1, h2, h3, _⟩ => ⟨A, c, h1, h2, h3⟩

end Go.Proofs.YtpkocidcfnlbiaaDoor

/- The document's 'Links', both ways; and whether two lists of links are the same; walked. -/
set_option linter.unusedVariables false
set_option linter.unusedSimpArgs false
namespace Go.Proofs.YtpkocidcfnlbiaaDoor
open Go.RowKit Go.Deep
attribute [local go_sem high] run_eql_en run_neq_en

/-- Is a link one that is asked for? -/
def Lk.want (s : Bool) (k : Lk) : Bool := !s || decide (0 ≤ k.e.m)
theorem want_all (l : List Lk) : l.filter (Lk.want false) = l := by
  rw [List.filter_eq_self]; intro k _; rfl
theorem pk_filter (l : List Lk) : ∀ k, k ≤ l.length → pk (fun q => l.getD q Lk.zero) k = (l.take k).filter (Lk.want true)
  | 0, _ => by simp [pk]
  | k + 1, hk => by
    have ih := pk_filter l k (by omega)
    have hg : l[k]? = some (l.getD k Lk.zero) := by rw [List.getD_eq_getElem?_getD, List.getElem?_eq_getElem (by omega)]; rfl
    unfold pk
    rw [ih, List.take_add_one, hg, Option.toList_some, List.filter_append]
    obtain ⟨y, hy⟩ : ∃ y, l.getD k Lk.zero = y := ⟨_, rfl⟩
    rw [hy]
    by_cases h : 0 ≤ y.e.m
    · simp [Lk.short, Lk.want, List.filter, h]
    · simp [Lk.short, Lk.want, List.filter, h]
theorem Ix.shorts_filter (x : Ix) : x.shorts = (x.lks x.n).filter (Lk.want true) := by
  unfold Ix.shorts
  rw [pk_filter _ _ (Nat.le_refl _), List.take_length]

end Go.Proofs.YtpkocidcfnlbiaaDoor

/- The document's 'Links': by rising rank, all or the shortcuts alone; walked. -/
set_option linter.unusedVariables false
set_option linter.unusedSimpArgs false
namespace Go.Proofs.YtpkocidcfnlbiaaDoor
open Go.RowKit Go.Deep
attribute [local go_sem high] run_eql_en run_neq_en

end Go.Proofs.YtpkocidcfnlbiaaDoor
