/- The law 'BuildBetween' returns true, by the contracts; walked. -/
import Derived.Test.YtpkocidcfnlbiaaGreatDoorAw6
import Derived.Test.YtpkocidcfnlbiaaGreatDoorRBt
import Derived.Test.YtpkocidcfnlbiaaGreatDoorRMay
import Derived.Test.YtpkocidcfnlbiaaGreatDoorG8
set_option linter.unusedVariables false
set_option linter.unusedSimpArgs false
namespace Go.Proofs.YtpkocidcfnlbiaaGreatDoor
open Go.RowKit Go.Deep

def BtnR (w : World) (e : Ending) (w' : World) : Prop := e = .returned (.tuple #[.int .i64 0, .int .i64 1]) ∧ Fr No w w'

set_option maxRecDepth 100000 in
set_option maxHeartbeats 4000000 in
theorem between_no {Lg : GLoc} {G : Gr} {w : World} (hg : GMem w Lg G) (A : Option Addr) (m c : Nat) (f : Nat → Int) (ha : IntsF w A m f) (hm : m ≤ 140737488351232) (hN : NoneVar w) (u v : Int)
    (hno : ¬ ((m = G.n ∧ PermF m f) ∧ (0 ≤ u ∧ u < G.n) ∧ (0 ≤ v ∧ v < G.n) ∧ u ≠ v)) :
    Calls Tryz.prog 51 #[.pointer (some ⟨Lg.b, 0, none⟩), .slice A m c, .int .i64 u, .int .i64 v] w (BtnR w) := by
  have fb : Fr No w ((w.alloc (.cells #[.pointer (some ⟨Lg.b, 0, none⟩)] 25)).alloc (.cells #[.int .i64 v] 3)) := ((Fr.refl No w).alloc _).alloc _
  have hn1 := hg.ok.n1
  have HG := hid hg
  have HA := hid (ha.fr fb)
  have HN := hid (hN.fr fb (fun h => h))
  have FB := hid fb
  have HNO := hid hno
  clear hg ha hN fb hno
  refine (callsIn_wide (n := 7)).1 ?_
  refine callsIn_of_wp_marks Tryz.func51 rfl trivial ?_ rfl
  refine wpIn_wide.2 ?_
  simp only [Tryz.ntmps51, List.size_toArray, List.length_cons, List.length_nil, Nat.reduceAdd, Nat.reduceSub, Array.replicate_succ, Array.replicate_zero, List.push_toArray, List.append_toArray, List.nil_append, List.cons_append]
  by_cases hp : 0 < m ∧ PermF m f
  · obtain ⟨g, hg1, hg2⟩ := hp.2.inv
    have HP := hid hp
    have HG1 := hid hg1
    have HG2 := hid hg2
    clear hp hg1 hg2
    go_wp2_with fail
    refine (new_yes A m c f _ HA.out HP.out.1 HP.out.2 g HG1.out HG2.out HN.out).mono ?_
    rintro e w1 ⟨L, rfl, hf, hx, hl1, hl2, hl3, hcb⟩
    have a4 := hf.cell_some (p := ⟨w.heap.size, 0, none⟩) (v := .pointer (some ⟨Lg.b, 0, none⟩)) (by simp [go_sem]) (fun h => h)
    have a7 := hf.cell_some (p := ⟨w.heap.size + 1, 0, none⟩) (v := .int .i64 v) (by simp [go_sem]) (fun h => h)
    have HX1 := hid hx
    have F1 := hid (FB.out.trans hf)
    clear hf hx hcb hl1 hl2 hl3
    go_wp2_with fail
    have f2 := (Fr.refl No w1).alloc (.cells #[.pointer (some ⟨L.b, 0, none⟩)] 29)
    have c10 : (w1.alloc (.cells #[.pointer (some ⟨L.b, 0, none⟩)] 29)).cell? ⟨w1.heap.size, 0, none⟩ = some (.pointer (some ⟨L.b, 0, none⟩)) := by simp [go_sem]
    have c4 := f2.cell_some a4 (fun h => h)
    have c7 := f2.cell_some a7 (fun h => h)
    have HX2 := hid (HX1.out.no f2)
    have F2 := hid (F1.out.trans f2)
    obtain ⟨W2, hW2⟩ : ∃ W2, w1.alloc (.cells #[.pointer (some ⟨L.b, 0, none⟩)] 29) = W2 := ⟨_, rfl⟩
    obtain ⟨B10, hB10⟩ : ∃ B, w1.heap.size = B := ⟨_, rfl⟩
    rw [hW2, hB10] at c10
    rw [hW2] at f2 c4 c7 HX2 F2 ⊢
    rw [hB10]
    clear hW2 f2 a4 a7 HX1 F1 hB10
    have hv1 : ∀ nn : Fam W2, Calls Tryz.prog 57 #[.pointer (some ⟨L.b, 0, none⟩)] nn.v fun e w' => e = .returned (.int .i64 (m : Nat)) ∧ Fr No nn.v w' := fun nn => vertices_calls (HX2.out.no nn.h)
    have hv2 : ∀ nn : Fam W2, Calls Tryz.prog 58 #[.pointer (some ⟨Lg.b, 0, none⟩)] nn.v fun e w' => e = .returned (.int .i64 (G.n : Nat)) ∧ Fr No nn.v w' := fun nn => gverts_calls ((HG.out.no F2.out).no nn.h)
    have kk10 : ∀ nn : Fam W2, nn.v.cell? ⟨B10, 0, none⟩ = some (.pointer (some ⟨L.b, 0, none⟩)) := Fam.cell c10
    have kk4 : ∀ nn : Fam W2, nn.v.cell? ⟨w.heap.size, 0, none⟩ = some (.pointer (some ⟨Lg.b, 0, none⟩)) := Fam.cell c4
    have kk7 : ∀ nn : Fam W2, nn.v.cell? ⟨w.heap.size + 1, 0, none⟩ = some (.int .i64 v) := Fam.cell c7
    by_cases hmn : m = G.n
    · have hlow : (Ix.new m f g).low u v = -1 := by
        have h2 : (Ix.new m f g).two u v = false := by
          unfold Ix.two
          have := HNO.out
          simp only [decide_eq_false_iff_not]
          intro hh
          exact this ⟨⟨hmn, HP.out.2⟩, by have h3 : (Ix.new m f g).n = m := rfl; rw [h3] at hh; omega⟩
        unfold Ix.low
        rw [h2]; rfl
      have hv3 : ∀ nn : Fam W2, Calls Tryz.prog 64 #[.pointer (some ⟨L.b, 0, none⟩), .int .i64 u, .int .i64 v] nn.v fun e w' => e = .returned (.int .i64 (-1)) ∧ Fr No nn.v w' := fun nn => (low_calls (HX2.out.no nn.h) u v).mono fun e w' ⟨h1, k, h2⟩ => ⟨by rw [h1, hlow], by rw [h2]; exact Fr.of_drewN k⟩
      have hne : ((m : Int) != (G.n : Int)) = false := by simp [hmn]
      clear hlow
      refine wp_region_fam (by kernel_rfl) (by kernel_rfl) ?_
      iterate 5 (go_big_quiet_step (exact Calls.fam (hv1 _)))
      iterate 2 (go_big_quiet_step (exact Calls.fam (hv2 _)))
      repeat (go_big_quiet_step (exact Calls.fam (hv3 _)))
      refine wpQuiet_nil ?_
      rintro W3 ⟨⟨W3, hf3⟩, rfl⟩
      have F3 := hid (F2.out.trans hf3)
      clear hf3 hv1 hv2 hv3 kk10 kk4 kk7 c10 c4 c7 HX2 F2
      go_wp2
      exact ⟨.tuple #[.int .i64 0, .int .i64 1], by simp [results, Tryz.results51, go_sem], rfl, F3.out⟩
    · have hne : ((m : Int) != (G.n : Int)) = true := by simp; omega
      refine wp_region_fam (by kernel_rfl) (by kernel_rfl) ?_
      iterate 5 (go_big_quiet_step (exact Calls.fam (hv1 _)))
      repeat (go_big_quiet_step (exact Calls.fam (hv2 _)))
      refine wpQuiet_nil ?_
      rintro W3 ⟨⟨W3, hf3⟩, rfl⟩
      have F3 := hid (F2.out.trans hf3)
      clear hf3 hv1 hv2 kk10 kk4 kk7 c10 c4 c7 HX2 F2
      go_wp2
      exact ⟨.tuple #[.int .i64 0, .int .i64 1], by simp [results, Tryz.results51, go_sem], rfl, F3.out⟩
  · have HP := hid hp
    clear hp
    go_wp2_with fail
    refine (new_no A m c f _ HA.out hm HP.out).mono ?_
    rintro e w1 ⟨rfl, hf⟩
    have F1 := hid (FB.out.trans hf)
    clear hf
    go_wp2_with fail
    have F2 := hid (F1.out.alloc (.cells #[.pointer none] 29))
    refine wp_region_fam (by kernel_rfl) (by kernel_rfl) ?_
    repeat (go_big_quiet_step (fail))
    refine wpQuiet_nil ?_
    rintro W3 ⟨⟨W3, hf3⟩, rfl⟩
    have F3 := hid (F2.out.trans hf3)
    clear hf3 F2
    go_wp2
    exact ⟨.tuple #[.int .i64 0, .int .i64 1], by simp [results, Tryz.results51, go_sem], rfl, F3.out⟩

set_option maxRecDepth 100000 in
set_option maxHeartbeats 1000000 in
theorem rmay16_calls {w : World} {b : Nat} {G : Gr} (h : RGM w b G) (A : Option Addr) (m c : Nat) (f : Nat → Int) (ha : IntsF w A m f) (hm : m ≤ 140737488351232) (d : Bool) (hd : d = true ↔ (m = G.n ∧ PermF m f)) :
    Calls Tryz.prog 17 #[.pointer (some ⟨b, 0, none⟩), .slice A m c] w fun e w' => e = .returned (.bool d) ∧ Fr No w w' := by
  have H := hid h
  have HA := hid ha
  have HD := hid hd
  obtain ⟨pd, hpd⟩ : ∃ pd : Bool, pd = true ↔ PermF m f := by
    by_cases hp : PermF m f
    · exact ⟨true, ⟨fun _ => hp, fun _ => rfl⟩⟩
    · exact ⟨false, ⟨fun h => (by cases h), fun h => absurd h hp⟩⟩
  have HPD := hid hpd
  clear h ha hd hpd
  go_enter Tryz.func17, Tryz.ntmps17
  go_wp2_with fail
  refine (rright_calls A m c f w HA.out hm pd HPD.out).mono ?_
  rintro e w1 ⟨rfl, hf⟩
  have F1 := hid hf
  have c0 := (H.out.no hf).c0
  clear hf
  cases pd with
  | false =>
    have e : d = false := by
      cases d with
      | false => rfl
      | true => exact absurd (HPD.out.2 (HD.out.1 rfl).2) (by decide)
    subst e
    go_wp2
    go_ret
    exact ⟨rfl, F1.out⟩
  | true =>
    by_cases hmn : m = G.n
    · have e : d = true := HD.out.2 ⟨hmn, HPD.out.1 rfl⟩
      have g1 : decide ((m : Int) = (G.n : Int)) = true := by simp; omega
      subst e
      go_wp2
      go_ret
      exact ⟨ret_bool (by simp [hmn]), F1.out⟩
    · have e : d = false := by
        cases d with
        | false => rfl
        | true => exact absurd (HD.out.1 rfl).1 hmn
      have g1 : decide ((m : Int) = (G.n : Int)) = false := by simp; omega
      subst e
      go_wp2
      go_ret
      exact ⟨ret_bool (by simp; omega), F1.out⟩

end Go.Proofs.YtpkocidcfnlbiaaGreatDoor
