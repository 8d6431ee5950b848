/- The law of taking away: an entry that is taken away is there no more, and set again it is there; walked. -/
import Derived.Test.YtlncmnphjdeeoaaDoorAwk
import Derived.Test.YtlncmnphjdeeoaaDoorSam
import Derived.Test.YtlncmnphjdeeoaaDoorUnE
set_option linter.unusedVariables false
set_option linter.unusedSimpArgs false
namespace Go.Proofs.YtlncmnphjdeeoaaDoor
open Go.RowKit Go.Deep
attribute [local go_sem high] run_eql_en run_neq_en eq3_self

theorem Ix.away_no {x : Ix} {u v : Int} (h : x.two u v = false) (e : En) : x.codeI u v e = 1 ∧ x.setI u v e = x := by
  unfold Ix.codeI Ix.setI
  simp [h]
theorem Ix.may_none (x : Ix) (u v : Int) : x.May u v En.none := .inl ⟨rfl, rfl, rfl⟩
theorem Ix.set_set (x : Ix) (u v : Nat) (e : En) : (x.set u v e).set u v (x.ent u v) = x := by
  cases x
  simp only [Ix.set, Ix.mk.injEq, true_and]
  funext a b
  by_cases h : a = u ∧ b = v
  · obtain ⟨rfl, rfl⟩ := h; simp
  · simp [h]
theorem Ix.away_yes {x : Ix} (hf : x.Fit) {u v : Int} (h : x.two u v = true) :
    x.codeI u v En.none = 0 ∧ (x.setI u v En.none).at_ u v = En.none ∧ (x.setI u v En.none).codeI u v (x.at_ u v) = 0 ∧ (x.setI u v En.none).setI u v (x.at_ u v) = x := by
  obtain ⟨hne, h1, h2, h3, h4⟩ := two_iff h
  obtain ⟨a, rfl⟩ := Int.eq_ofNat_of_zero_le h1
  obtain ⟨b, rfl⟩ := Int.eq_ofNat_of_zero_le h3
  have m0 := x.may_none a b
  have e1 : x.setI a b En.none = x.set a b En.none := by unfold Ix.setI; rw [if_pos ⟨h, m0⟩]; rfl
  have ht : (x.set a b En.none).two a b = true := (Ix.two_congr (x := x.set a b En.none) (y := x) rfl _ _).trans h
  have ea : x.at_ a b = x.ent a b := by unfold Ix.at_; rw [if_pos h]; rfl
  have hm : (x.set a b En.none).May a b (x.ent a b) := (Ix.May_congr (x := x.set a b En.none) (y := x) rfl rfl _ _ _).2 (hf a b h)
  refine ⟨by unfold Ix.codeI; rw [if_pos ⟨h, m0⟩], ?_, ?_, ?_⟩
  · rw [e1]; unfold Ix.at_; rw [if_pos ht]; simp [Ix.set]
  · rw [e1, ea]; unfold Ix.codeI; rw [if_pos ⟨ht, hm⟩]
  · rw [e1, ea]; unfold Ix.setI; rw [if_pos ⟨ht, hm⟩]; exact x.set_set a b _

set_option maxRecDepth 100000 in
set_option maxHeartbeats 4000000 in
theorem away_law (n num : Nat) (A : Option Addr) (ln cp : Nat) (lk : Nat → Lk) (u v : Int) (w : World) (hn : n ≤ 255) (hnum : (num : Int) ≤ 18446744073709551615) (hl : LinksF w A ln lk) (hln : ln ≤ 140737488351232) (hN : NoneVar w) :
    Calls Tryd.prog 7 #[.int .u8 (n : Nat), .int .u64 (num : Nat), .slice A ln cp, .int .i64 u, .int .i64 v] w fun e w' => e = .returned (.bool true) ∧ Fr No w w' := by
  have HN := hid hN
  have HL := hid hl
  clear hN hl
  go_enter Tryd.func7, Tryd.ntmps7
  go_wp2_with fail
  refine (awake15_calls w HN.out).mono ?_
  rintro e w1 ⟨rfl, hf⟩
  have HN1 := hid (HN.out.fr hf (fun h => h))
  have HL1 := hid (LinksF.fr HL.out hf)
  have G1 := hid hf
  clear hf
  go_wp2_with fail
  refine (made_calls n num A ln cp lk w1 hn hnum HL1.out hln HN1.out).mono ?_
  rintro e w2 ⟨L, R, rfl, hf, hm, hr, hl1, hl2, hl3, hl4, hl5, hl6, hl7, hl8, hl9, _⟩
  have hfit := Ix.fit_start (1 + n % 24) num lk (min ln 300)
  obtain ⟨x, hx⟩ : ∃ x, (Ix.start (1 + n % 24) num).sets lk (min ln 300) = x := ⟨_, rfl⟩
  rw [hx] at hm hr hfit
  have HM := hid hm
  have HR := hid hr
  have HF := hid hfit
  have G2 := hid (G1.out.trans hf)
  have z1 := G1.out.size
  clear hf hm hr hfit hx
  go_wp2_with fail
  refine (rat_calls HR.out u v).mono ?_
  rintro e w3 ⟨rfl, hf⟩
  have HM3 := hid (HM.out.no hf)
  have HR3 := hid (HR.out.no hf)
  have G3 := hid (G2.out.trans hf)
  clear hf HM HR
  obtain ⟨y, hy⟩ : ∃ y, x.at_ u v = y := ⟨_, rfl⟩
  have HY := hid hy
  rw [hy]
  clear hy
  obtain ⟨e0, e1, e2⟩ := y
  simp only [En.val]
  go_wp2_with fail
  have fa := (Fr.refl No w3).alloc (Obj.cells #[Value.int IntKind.i64 e0, Value.int IntKind.i64 e1, Value.int IntKind.i64 e2] 41)
  have O4 := heap_new w3 (Obj.cells #[Value.int IntKind.i64 e0, Value.int IntKind.i64 e1, Value.int IntKind.i64 e2] 41)
  refine (rnone_calls _).mono ?_
  rintro e w4 ⟨rfl, hf⟩
  have HM4 := hid (HM3.out.no (fa.trans hf))
  have HR4 := hid (HR3.out.no (fa.trans hf))
  have G4 := hid (G3.out.trans (fa.trans hf))
  have O5 := hid (own_no hf _ O4).2.2.2
  have zb := HM3.out.lt
  have zr := HR3.out.lt
  have zr2 := HR3.out.hr.1
  have zs := G3.out.size
  have z3 := hf.size
  have z4 : w3.heap.size < w4.heap.size := (own_no hf _ O4).2.2.1
  clear hf fa O4 HM3 HR3
  simp only [En.val, En.none]
  go_wp2_with fail
  refine (set_calls HM4.out u v En.none).mono ?_
  rintro e w5 ⟨rfl, hm, hf⟩
  have HR5 := hid (HR4.out.fr hf (fun (h : R.b = L.b) => by omega) (fun (h : R.br = L.b) => by omega))
  have O6 := hid (own_after hf _ O5.out (fun (h : w3.heap.size = L.b) => by omega)).2.2.2
  have G5 := hid (fr_sub G4.out hf (by omega))
  have z5 := hf.size
  cases ht : x.two u v with
  | false =>
    obtain ⟨hc, hs⟩ := Ix.away_no ht En.none
    have HT := hid ht
    rw [hs] at hm
    rw [hc]
    have HM5 := hid hm
    clear hm hf ht hc hs
    go_wp2_with fail
    refine (rtwo_calls HR5.out u v).mono ?_
    rintro e w6 ⟨rfl, rfl⟩
    rw [HT.out]
    go_wp2_with fail
    refine (same_calls HM5.out HR5.out).mono ?_
    rintro e w6 ⟨rfl, hf⟩
    have G6 := hid (G5.out.trans hf)
    clear hf
    go_wp2
    go_ret
    exact ⟨rfl, G6.out⟩
  | true =>
    obtain ⟨hc, ha, hc2, hs⟩ := Ix.away_yes HF.out ht
    rw [HY.out] at hc2 hs
    have HT := hid ht
    have HA := hid ha
    have HC2 := hid hc2
    have HS := hid hs
    rw [hc]
    have HM5 := hid hm
    clear hm hf ht hc hs ha hc2
    go_wp2_with fail
    refine (rtwo_calls HR5.out u v).mono ?_
    rintro e w6 ⟨rfl, rfl⟩
    rw [HT.out]
    go_wp2_with fail
    refine (at_calls HM5.out u v).mono ?_
    rintro e w6 ⟨rfl, hf⟩
    rw [HA.out]
    have HM6 := hid (HM5.out.no hf)
    have HR6 := hid (HR5.out.no hf)
    have G6 := hid (G5.out.trans hf)
    have O7 := hid (own_no hf _ O6.out).2.2.2
    have z6 := hf.size
    simp only [En.val, En.none]
    clear hf HM5 HR5
    go_wp2_with fail
    refine (rnone_calls _).mono ?_
    rintro e w7 ⟨rfl, hf⟩
    have HM7 := hid (HM6.out.no hf)
    have HR7 := hid (HR6.out.no hf)
    have G7 := hid (G6.out.trans hf)
    obtain ⟨o1, o2, o3, o4⟩ := own_no hf _ O7.out
    simp only [En.val, En.none]
    clear hf HM6 HR6
    go_wp2_with fail
    refine (set_calls HM7.out u v ⟨e0, e1, e2⟩).mono ?_
    rintro e w8 ⟨rfl, hm, hf⟩
    rw [HC2.out]
    rw [HS.out] at hm
    have HM8 := hid hm
    have HR8 := hid (HR7.out.fr hf (fun (h : R.b = L.b) => by omega) (fun (h : R.br = L.b) => by omega))
    have G8 := hid (fr_sub G7.out hf (by omega))
    clear hm hf
    go_wp2_with fail
    refine (same_calls HM8.out HR8.out).mono ?_
    rintro e w9 ⟨rfl, hf⟩
    have G9 := hid (G8.out.trans hf)
    clear hf
    go_wp2
    go_ret
    exact ⟨rfl, G9.out⟩

end Go.Proofs.YtlncmnphjdeeoaaDoor
