/- The document's index: setting an entry; walked. -/
import Derived.Test.YtlncmnphjdeeoaaDoorRefB
set_option linter.unusedVariables false
set_option linter.unusedSimpArgs false
namespace Go.Proofs.YtlncmnphjdeeoaaDoor
open Go.RowKit Go.Deep
attribute [local go_sem ↓] Go.wp_at_zero Go.wp_at_succ

theorem rfits_calls {w : World} {L : RxLoc} {x : Ix} (h : RxMem w L x) (u v : Int) (ht : x.two u v = true) (e : En) :
    Calls Tryd.prog 73 #[.pointer (some ⟨L.b, 0, none⟩), .int .i64 u, .int .i64 v, e.val] w fun r w' => r = .returned (.bool (decide (x.May u v e))) ∧ Fr No w w' := by
  obtain ⟨e0, e1, e2⟩ := e
  obtain ⟨hne, hu0, hu1, hv0, hv1⟩ := two_iff ht
  have ru : x.rank u = x.rk u.toNat := if_pos ⟨hu0, hu1⟩
  have rv : x.rank v = x.rk v.toNat := if_pos ⟨hv0, hv1⟩
  have EQ : x.May u v ⟨e0, e1, e2⟩ ↔ (e0 = 4611686018427387906 ∧ e1 = -1 ∧ e2 = -1) ∨ (1 ≤ e0 ∧ e0 ≤ 4611686018427387905 ∧ ((e2 = -1 ∧ 0 ≤ e1 ∧ e1 < 64) ∨ (e2 ≠ -1 ∧ e1 = -1 ∧ 0 ≤ x.rank e2 ∧ x.rank e2 < x.rk u.toNat ∧ x.rank e2 < x.rk v.toNat))) := by
    rw [← ru, ← rv]; exact Iff.rfl
  have fin : ∀ b : Bool, (b = true ↔ x.May u v ⟨e0, e1, e2⟩) → ∀ (r : Ending) (w' : World), (r = .returned (.bool b) ∧ Fr No w w') → (r = .returned (.bool (decide (x.May u v ⟨e0, e1, e2⟩))) ∧ Fr No w w') := fun b hb r w' hr => by
    rw [← eq_decide hb]; exact hr
  cases hE : eq3 e0 e1 e2 4611686018427387906 (-1) (-1) with
  | true =>
    refine (rfits_n h u v hu0 hu1 hv0 hv1 e0 e1 e2 true hE).mono (fin _ ?_)
    simp only [eq3, decide_eq_true_eq] at hE
    rw [EQ]; simp only [true_iff]; exact .inl hE
  | false =>
    have hN : ¬ (e0 = 4611686018427387906 ∧ e1 = -1 ∧ e2 = -1) := by simpa [eq3] using hE
    by_cases h1 : 1 ≤ e0
    · by_cases h2 : e0 ≤ 4611686018427387905
      · by_cases h5 : 0 ≤ e1 ∧ e1 ≤ 63 ∧ e2 = -1
        · refine (rfits_arc h u v hu0 hu1 hv0 hv1 e0 e1 e2 true hE h1 h2 h5.1 h5.2.1 (by simpa using h5.2.2)).mono (fin _ ?_)
          rw [EQ]; simp only [true_iff]; omega
        · cases hA : (e1 == -1) with
          | false =>
            have hA' : e1 ≠ -1 := by simpa using hA
            by_cases h3 : e1 < 0
            · refine (rfits_a1 h u v hu0 hu1 hv0 hv1 e0 e1 e2 true hE h1 h2 h3 hA).mono (fin _ ?_)
              rw [EQ]; simp only [Bool.false_eq_true, false_iff]; omega
            · by_cases h4 : 63 < e1
              · refine (rfits_b1 h u v hu0 hu1 hv0 hv1 e0 e1 e2 true hE h1 h2 h4 hA).mono (fin _ ?_)
                rw [EQ]; simp only [Bool.false_eq_true, false_iff]; omega
              · refine (rfits_c1 h u v hu0 hu1 hv0 hv1 e0 e1 e2 true hE h1 h2 (by omega) (by omega) (by simp; omega) hA).mono (fin _ ?_)
                rw [EQ]; simp only [Bool.false_eq_true, false_iff]; omega
          | true =>
            have hA' : e1 = -1 := by simpa using hA
            cases hV : x.vertex e2 with
            | false =>
              have hr := vertex_no hV
              refine (rfits_a2 h u v hu0 hu1 hv0 hv1 e0 e1 e2 true hE h1 h2 (by omega) hA hV).mono (fin _ ?_)
              rw [EQ]; simp only [Bool.false_eq_true, false_iff]; omega
            | true =>
              obtain ⟨hr, hm0, hm1⟩ := vertex_rank hV
              cases hC : decide (x.rk e2.toNat < x.rk u.toNat) with
              | false =>
                refine (rfits_a3 h u v hu0 hu1 hv0 hv1 e0 e1 e2 true hE h1 h2 (by omega) hA hV hC).mono (fin _ ?_)
                simp only [decide_eq_false_iff_not] at hC
                rw [EQ]; simp only [Bool.false_eq_true, false_iff]; omega
              | true =>
                refine (rfits_a4 h u v hu0 hu1 hv0 hv1 e0 e1 e2 _ hE h1 h2 (by omega) hA hV hC rfl).mono (fin _ ?_)
                simp only [decide_eq_true_eq] at hC ⊢
                rw [EQ]; omega
      · refine (rfits_hi h u v hu0 hu1 hv0 hv1 e0 e1 e2 true hE (by omega)).mono (fin _ ?_)
        rw [EQ]; simp only [Bool.false_eq_true, false_iff]; omega
    · refine (rfits_lo h u v hu0 hu1 hv0 hv1 e0 e1 e2 true hE (by omega)).mono (fin _ ?_)
      rw [EQ]; simp only [Bool.false_eq_true, false_iff]; omega

set_option maxHeartbeats 1000000 in
theorem rset_no {w : World} {L : RxLoc} {x : Ix} (h : RxMem w L x) (u v : Int) (e : En) (hno : ¬ (x.two u v = true ∧ x.May u v e)) :
    Calls Tryd.prog 30 #[.pointer (some ⟨L.b, 0, none⟩), .int .i64 u, .int .i64 v, e.val] w fun r w' => r = .returned (.int .i64 1) ∧ Fr No w w' := by
  cases ht : x.two u v with
  | false =>
    have HT := hid ht
    clear hno ht
    simp only [En.val]
    go_enter Tryd.func30, Tryd.ntmps30
    go_wp2_with (go_at_call 34; refine (rtwo_calls (h.alloc _) _ _).mono ?_; rintro e w' ⟨rfl, rfl⟩; rw [HT.out])
    go_ret
    exact ⟨rfl, (Fr.refl _ _).alloc _⟩
  | true =>
    have HM : Hid (decide (x.May u v e) = false) := hid (by simpa [ht] using hno)
    have HT := hid ht
    clear hno ht
    obtain ⟨e0, e1, e2⟩ := e
    simp only [En.val]
    go_enter Tryd.func30, Tryd.ntmps30
    go_wp2_with (first
      | (go_at_call 34; refine (rtwo_calls (h.alloc _) _ _).mono ?_; rintro e w' ⟨rfl, rfl⟩; rw [HT.out])
      | (go_at_call 73; refine (rfits_calls (h.alloc _) _ _ HT.out ⟨e0, e1, e2⟩).mono ?_; rintro e w' ⟨rfl, hf⟩; rw [HM.out]))
    go_ret
    exact ⟨rfl, ((Fr.refl _ _).alloc _).trans hf⟩

set_option maxHeartbeats 1000000 in
theorem rset_yes {w : World} {L : RxLoc} {x : Ix} (h : RxMem w L x) (u v : Int) (e : En) (ht : x.two u v = true) (hm : x.May u v e) :
    Calls Tryd.prog 30 #[.pointer (some ⟨L.b, 0, none⟩), .int .i64 u, .int .i64 v, e.val] w fun r w' => r = .returned (.int .i64 0) ∧
      ∃ w1, Fr No w w1 ∧ w' = ((w1.setCell ⟨L.b, 1 + u.toNat * 72 + v.toNat * 3, none⟩ (.int .i64 e.w)).setCell ⟨L.b, 1 + u.toNat * 72 + v.toNat * 3 + 1, none⟩ (.int .i64 e.a)).setCell ⟨L.b, 1 + u.toNat * 72 + v.toNat * 3 + 2, none⟩ (.int .i64 e.m) := by
  have HM : Hid (decide (x.May u v e) = true) := hid (by simpa using hm)
  have HE := hid (h.ok.may_ok hm)
  have HT := hid ht
  obtain ⟨hne, hu0, hu1, hv0, hv1⟩ := two_iff ht
  have hn := h.ok.n2
  have kl := h.lt
  clear ht hm hne
  obtain ⟨e0, e1, e2⟩ := e
  simp only [En.val]
  go_enter Tryd.func30, Tryd.ntmps30
  go_wp2_with (first
    | (go_at_call 34; refine (rtwo_calls (h.alloc _) _ _).mono ?_; rintro e w' ⟨rfl, rfl⟩; rw [HT.out])
    | (go_at_call 73; refine (rfits_calls (h.alloc _) _ _ HT.out ⟨e0, e1, e2⟩).mono ?_; rintro e w1 ⟨rfl, hf⟩; rw [HM.out]; obtain ⟨o1, o2, o3, o4⟩ := own_no hf w.heap.size (heap_new _ _); have hx := hid ((h.alloc _).no hf)))
  have z0 : w1.cell? ⟨L.b, 1 + u.toNat * 72 + v.toNat * 3, none⟩ = _ := hx.out.at_pl (u := u.toNat) (v := v.toNat) (by omega) (by omega) 0 (by omega)
  have z1 := hx.out.at_pl (u := u.toNat) (v := v.toNat) (by omega) (by omega) 1 (by omega)
  have z2 := hx.out.at_pl (u := u.toNat) (v := v.toNat) (by omega) (by omega) 2 (by omega)
  have z3 : ∀ i, w1.frozen? ⟨L.b, i, none⟩ = false := fun i => hx.out.blk.frozen i
  have HF := hid hf
  clear hf
  go_region
  all_goals go_wp2
  all_goals go_ret
  all_goals exact ⟨rfl, w1.drew, (((Fr.refl _ _).alloc _).trans HF.out).drew, rfl⟩

theorem RxMem.stored {w : World} {L : RxLoc} {x : Ix} (h : RxMem w L x) {u v : Int} (ht : x.two u v = true) {e : En} (he : e.Ok) :
    RxMem (((w.setCell ⟨L.b, 1 + u.toNat * 72 + v.toNat * 3, none⟩ (.int .i64 e.w)).setCell ⟨L.b, 1 + u.toNat * 72 + v.toNat * 3 + 1, none⟩ (.int .i64 e.a)).setCell ⟨L.b, 1 + u.toNat * 72 + v.toNat * 3 + 2, none⟩ (.int .i64 e.m)) L (x.set u.toNat v.toNat e) := by
  obtain ⟨hne, hu0, hu1, hv0, hv1⟩ := two_iff ht
  have hn := h.ok.n2
  have hu : u.toNat < 24 := by omega
  have hv : v.toNat < 24 := by omega
  generalize u.toNat = a at hu ⊢
  generalize v.toNat = b at hv ⊢
  have F : Fr (One L.b) w (((w.setCell ⟨L.b, 1 + a * 72 + b * 3, none⟩ (.int .i64 e.w)).setCell ⟨L.b, 1 + a * 72 + b * 3 + 1, none⟩ (.int .i64 e.a)).setCell ⟨L.b, 1 + a * 72 + b * 3 + 2, none⟩ (.int .i64 e.m)) :=
    (((Fr.refl _ _).set1 _ _).set1 _ _).set1 _ _
  have ok' : (x.set a b e).Ok := ⟨h.ok.n1, h.ok.n2, h.ok.rk, h.ok.by_, fun p q => by
    show (if p = a ∧ q = b then e else x.ent p q).Ok
    split
    · exact he
    · exact h.ok.ent p q⟩
  refine ⟨ok', ?_, h.rk.of_fr F h.hr.1 h.hr.2, ⟨by simpa using h.hr.1, h.hr.2⟩⟩
  refine (((h.blk.setCell (1 + a * 72 + b * 3) _).setCell (1 + a * 72 + b * 3 + 1) _).setCell (1 + a * 72 + b * 3 + 2) _).congr fun i hi => ?_
  simp only [upd]
  by_cases h0 : i = 0
  · subst h0
    rw [if_neg (by omega), if_neg (by omega), if_neg (by omega)]; rfl
  · simp only [Ix.RV, if_neg h0, Ix.set]
    by_cases hc : (i - 1) / 72 = a ∧ (i - 1) % 72 / 3 = b
    · rw [if_pos hc]
      have hd : i = 1 + a * 72 + b * 3 + (i - 1) % 3 := by omega
      have h3 : (i - 1) % 3 < 3 := Nat.mod_lt _ (by omega)
      generalize (i - 1) % 3 = c at hd h3 ⊢
      subst hd
      match c, h3 with
      | 0, _ => rw [if_neg (by omega), if_neg (by omega), if_pos (by omega)]; rfl
      | 1, _ => rw [if_neg (by omega), if_pos (by omega)]; rfl
      | 2, _ => rw [if_pos (by omega)]; rfl
    · rw [if_neg hc, if_neg (by omega), if_neg (by omega), if_neg (by omega)]

theorem rset_calls {w : World} {L : RxLoc} {x : Ix} (h : RxMem w L x) (u v : Int) (e : En) :
    Calls Tryd.prog 30 #[.pointer (some ⟨L.b, 0, none⟩), .int .i64 u, .int .i64 v, e.val] w fun r w' =>
      r = .returned (.int .i64 (x.codeI u v e)) ∧ RxMem w' L (x.setI u v e) ∧ Fr (One L.b) w w' := by
  by_cases hc : x.two u v = true ∧ x.May u v e
  · rw [Ix.codeI, if_pos hc, Ix.setI, if_pos hc]
    refine (rset_yes h u v e hc.1 hc.2).mono ?_
    rintro r w' ⟨rfl, w1, hf, rfl⟩
    exact ⟨rfl, (h.no hf).stored hc.1 (h.ok.may_ok hc.2), (((hf.no (F := One L.b)).set1 _ _).set1 _ _).set1 _ _⟩
  · rw [Ix.codeI, if_neg hc, Ix.setI, if_neg hc]
    refine (rset_no h u v e hc).mono ?_
    rintro r w' ⟨rfl, hf⟩
    exact ⟨rfl, h.no hf, hf.no⟩

end Go.Proofs.YtlncmnphjdeeoaaDoor
