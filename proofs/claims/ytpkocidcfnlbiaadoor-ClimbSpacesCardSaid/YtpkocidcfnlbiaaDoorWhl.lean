/- build.Whole: is each entry right; walked. -/
import Derived.Test.YtpkocidcfnlbiaaDoorThs
import Derived.Test.YtpkocidcfnlbiaaDoorBW
import Derived.Test.YtpkocidcfnlbiaaDoorWh
set_option linter.unusedVariables false
set_option linter.unusedSimpArgs false
namespace Go.Proofs.YtpkocidcfnlbiaaDoor
open Go.RowKit Go.Shelf Go.Deep

attribute [local go_sem] Oper.semAt_some
attribute [local go_sem high] run_eql_en run_neq_en

def Ix.okAt (x : Ix) (G : Gr) (p : Nat × Nat) : Prop := x.at_ (x.by_ p.1 : Nat) (x.by_ p.2 : Nat) = x.best (x.by_ p.1 : Nat) (x.by_ p.2 : Nat) (G.best (x.by_ p.1 : Nat) (x.by_ p.2 : Nat))
theorem Ix.Ok.whole_prs {x : Ix} (h : x.Ok) {G : Gr} : Whole G x ↔ ∀ el ∈ prs x.n x.n, x.okAt G el.1 := by
  constructor
  · intro hw el _
    obtain ⟨h1, h2, h3⟩ := el.2
    have b1 := (h.by_ el.1.1 h1).1
    have b2 := (h.by_ el.1.2 h2).1
    have hne : x.by_ el.1.1 ≠ x.by_ el.1.2 := fun e => h3 (h.by_inj h1 h2 e)
    unfold Ix.okAt
    rw [at_nat (two_nat b1 b2 hne)]
    exact hw _ _ b1 b2 hne
  · intro hp u v hu hv hne
    have ru := h.rk u hu
    have rv := h.rk v hv
    have hr : x.rk u ≠ x.rk v := fun e => hne (by rw [← ru.2, ← rv.2, e])
    have := hp ⟨(x.rk u, x.rk v), ⟨ru.1, rv.1, hr⟩⟩ (prs_all x.n _)
    unfold Ix.okAt at this
    simp only at this
    rw [ru.2, rv.2, at_nat (two_nat hu hv hne)] at this
    exact this

def WhlR (w : World) (G : Gr) (x : Ix) (e : Ending) (w' : World) : Prop := ∃ b : Bool, e = .returned (.bool b) ∧ Fr No w w' ∧ (b = true ↔ (G.n = x.n ∧ Whole G x))

end Go.Proofs.YtpkocidcfnlbiaaDoor

/- build.Build where there is no index of that list; walked. -/
set_option linter.unusedVariables false
set_option linter.unusedSimpArgs false
namespace Go.Proofs.YtpkocidcfnlbiaaDoor
open Go.RowKit Go.Shelf Go.Deep

attribute [local go_sem] Oper.semAt_some

def BdnR (w : World) (e : Ending) (w' : World) : Prop := e = .returned (.tuple #[.pointer none, .int .i64 1]) ∧ Fr No w w'

set_option maxRecDepth 100000 in
set_option maxHeartbeats 4000000 in
theorem build_no {Lg : GLoc} {G : Gr} {w : World} (hg : GMem w Lg G) (A : Option Addr) (m c : Nat) (f : Nat → Int) (ha : IntsF w A m f) (hm : m ≤ 140737488351232) (hN : NoneVar w) (hno : ¬ (m = G.n ∧ PermF m f)) :
    Calls Tryd.prog 13 #[.pointer (some ⟨Lg.b, 0, none⟩), .slice A m c] w (BdnR w) := by
  have fb := (Fr.refl No w).alloc (.cells #[.pointer (some ⟨Lg.b, 0, none⟩)] 37)
  have cb0 : (w.alloc (.cells #[.pointer (some ⟨Lg.b, 0, none⟩)] 37)).cell? ⟨w.heap.size, 0, none⟩ = some (.pointer (some ⟨Lg.b, 0, none⟩)) := by simp [go_sem]
  have hn1 := hg.ok.n1
  have HG := hid (hg.no fb)
  have HA := hid (ha.fr fb)
  have HN := hid (hN.fr fb (fun h => h))
  have FB := hid fb
  have HNO := hid hno
  clear hg ha hN fb hno
  refine (callsIn_wide (n := 7)).1 ?_
  refine callsIn_of_wp_marks Tryd.func13 rfl trivial ?_ rfl
  refine wpIn_wide.2 ?_
  simp only [Tryd.ntmps13, List.size_toArray, List.length_cons, List.length_nil, Nat.reduceAdd, Nat.reduceSub, Array.replicate_succ, Array.replicate_zero, List.push_toArray, List.append_toArray, List.nil_append, List.cons_append]
  by_cases hp : 0 < m ∧ PermF m f
  · have hmn : m ≠ G.n := fun e => HNO.out ⟨e, hp.2⟩
    obtain ⟨g, hg1, hg2⟩ := hp.2.inv
    have HP := hid hp
    have HG1 := hid hg1
    have HG2 := hid hg2
    clear hp hg1 hg2
    go_wp2_with fail
    refine (new_yes A m c f _ HA.out HP.out.1 HP.out.2 g HG1.out HG2.out HN.out).mono ?_
    rintro e w1 ⟨L, rfl, hf, hx, hl1, hl2, hl3, hcb⟩
    have b2 := hf.cell_some cb0 (fun h => h)
    have HX1 := hid hx
    have HG1' := hid (HG.out.no hf)
    have F1 := hid (FB.out.trans hf)
    clear hf hx hcb cb0 hl1 hl2 hl3
    go_wp2_with fail
    have f2 := (Fr.refl No w1).alloc (.cells #[.pointer (some ⟨L.b, 0, none⟩)] 25)
    have c6 : (w1.alloc (.cells #[.pointer (some ⟨L.b, 0, none⟩)] 25)).cell? ⟨w1.heap.size, 0, none⟩ = some (.pointer (some ⟨L.b, 0, none⟩)) := by simp [go_sem]
    have c2 := f2.cell_some b2 (fun h => h)
    have HX2 := hid (HX1.out.no f2)
    have HG2' := hid (HG1'.out.no f2)
    have F2 := hid (F1.out.trans f2)
    obtain ⟨W2, hW2⟩ : ∃ W2, w1.alloc (.cells #[.pointer (some ⟨L.b, 0, none⟩)] 25) = W2 := ⟨_, rfl⟩
    rw [hW2] at f2 c6 c2 HX2 HG2' F2 ⊢
    have hv1 : ∀ nn : Fam W2, Calls Tryd.prog 22 #[.pointer (some ⟨L.b, 0, none⟩)] nn.v fun e w' => e = .returned (.int .i64 (m : Nat)) ∧ Fr No nn.v w' := fun nn => vertices_calls (HX2.out.no nn.h)
    have hv2 : ∀ nn : Fam W2, Calls Tryd.prog 34 #[.pointer (some ⟨Lg.b, 0, none⟩)] nn.v fun e w' => e = .returned (.int .i64 (G.n : Nat)) ∧ Fr No nn.v w' := fun nn => gverts_calls (HG2'.out.no nn.h)
    have kk6 : ∀ nn : Fam W2, nn.v.cell? ⟨w1.heap.size, 0, none⟩ = some (.pointer (some ⟨L.b, 0, none⟩)) := Fam.cell c6
    have kk2 : ∀ nn : Fam W2, nn.v.cell? ⟨w.heap.size, 0, none⟩ = some (.pointer (some ⟨Lg.b, 0, none⟩)) := Fam.cell c2
    have hne : ((m : Int) != (G.n : Int)) = true := by simp; omega
    clear hW2 f2 b2 HX1 HG1' F1
    refine wp_region_fam (by kernel_rfl) (by kernel_rfl) ?_
    iterate 5 (go_big_quiet_step (exact Calls.fam (hv1 _)))
    repeat (go_big_quiet_step (exact Calls.fam (hv2 _)))
    refine wpQuiet_nil ?_
    rintro W3 ⟨⟨W3, hf3⟩, rfl⟩
    have F3 := hid (F2.out.trans hf3)
    clear hf3 hv1 hv2 kk6 kk2 c6 c2 HX2 HG2' F2
    go_wp2
    exact ⟨.tuple #[.pointer none, .int .i64 1], by simp [results, Tryd.results13, go_sem], rfl, F3.out⟩
  · have HP := hid hp
    clear hp
    go_wp2_with fail
    refine (new_no A m c f _ HA.out hm HP.out).mono ?_
    rintro e w1 ⟨rfl, hf⟩
    have F1 := hid (FB.out.trans hf)
    clear hf cb0
    go_wp2_with fail
    have F2 := hid (F1.out.alloc (.cells #[.pointer none] 25))
    refine wp_region_fam (by kernel_rfl) (by kernel_rfl) ?_
    repeat (go_big_quiet_step (fail))
    refine wpQuiet_nil ?_
    rintro W3 ⟨⟨W3, hf3⟩, rfl⟩
    have F3 := hid (F2.out.trans hf3)
    clear hf3 F2
    go_wp2
    exact ⟨.tuple #[.pointer none, .int .i64 1], by simp [results, Tryd.results13, go_sem], rfl, F3.out⟩

end Go.Proofs.YtpkocidcfnlbiaaDoor
