/- The index's links; the program's 'Links' walked. -/
import Derived.Test.YtlncmnphjdeeoaaDoorLnk
import Derived.Test.YtlncmnphjdeeoaaDoorEq
import Derived.Test.YtlncmnphjdeeoaaDoorApp2
set_option linter.unusedVariables false
set_option linter.unusedSimpArgs false
namespace Go.Proofs.YtlncmnphjdeeoaaDoor
open Go.RowKit Go.Deep
attribute [local go_sem high] run_eql_en run_neq_en

theorem own_slK {w : World} {base : Nat} {A : Option Addr} {c : Nat} {l : List Lk} (h : w.ownsRow base 48 5 (.slice A l.length c) l.length (lkCells l)) (hn : l = [] → A = none ∧ c = 0) : SlK w (.slice A l.length c) l := by
  rcases Nat.eq_zero_or_pos l.length with h0 | h0
  · have e := List.eq_nil_of_length_eq_zero h0
    obtain ⟨rfl, rfl⟩ := hn e
    exact .inl ⟨e, by rw [e]; rfl⟩
  · obtain ⟨g, cap, e, hb, hl, hc, hat⟩ := own_lks h h0
    exact .inr ⟨g, 0, cap, h0, e, hat⟩

set_option maxRecDepth 100000 in
set_option maxHeartbeats 4000000 in
theorem links_own {x : Ix} {w : World} {L : IxLoc} (h : IxMem w L x) :
    Calls Tryd.prog 22 #[.pointer (some ⟨L.b, 0, none⟩)] w fun e w' => ∃ (A : Option Addr) (c : Nat), e = .returned (.slice A (x.lks x.n).length c) ∧ Fr No w w' ∧ w'.ownsRow w.heap.size 48 5 (.slice A (x.lks x.n).length c) (x.lks x.n).length (lkCells (x.lks x.n)) ∧ (x.lks x.n = [] → A = none ∧ c = 0) := by
  have hn1 := h.ok.n1
  have hn2 := h.ok.n2
  have c1 := h.c1
  have kl := h.lt
  have gl := h.gn.lt
  go_enter Tryd.func22, Tryd.ntmps22
  go_wp2
  clear c1
  go_loopg [3, 14] x.n (fun g p q wr => ∃ (i : Nat) (l : List Lk) (A : Option Addr) (c : Nat), q = .int .i64 i ∧ i ≤ x.n ∧ p = .slice A l.length c ∧ wr.ownsRow w.heap.size 48 5 (.slice A l.length c) l.length (lkCells l) ∧ (l = [] → A = none ∧ c = 0) ∧
      l = x.lks i ∧ g = x.n - i ∧ Fr No w wr)
  case atStart => exact ⟨0, [], none, 0, rfl, Nat.zero_le _, rfl, World.ownsRow_nil _ _ _ _, fun _ => ⟨rfl, rfl⟩, rfl, rfl, Fr.refl _ _⟩
  case round =>
    obtain ⟨i, l, A, c, rfl, hi, rfl, hown, hnil, hl, hg, hf⟩ := hrel
    have HO := hid hown
    have HNIL := hid hnil
    have HL := hid hl
    have HG := hid hg
    have HF := hid hf
    clear hown hnil hl hg hf
    have HGO := HG
    by_cases hlt : i < x.n
    · have c1 := (h.no HF.out).c1
      have kl2 := (h.no HF.out).lt
      have q1 := (h.no HF.out).by_ i hlt
      have q2 := (h.no HF.out).hb.1
      have hi2 : (i : Int) < x.n := by omega
      obtain ⟨wo, rfl⟩ : ∃ wo : World, wo = wr := ⟨_, rfl⟩
      go_wp2
      clear c1 q1 hi2
      go_loopg [3, 23] x.n (fun g p q wr => ∃ (j : Nat) (l : List Lk) (A : Option Addr) (c : Nat), q = .int .i64 j ∧ j ≤ x.n ∧ p = .slice A l.length c ∧ wr.ownsRow w.heap.size 48 5 (.slice A l.length c) l.length (lkCells l) ∧ (l = [] → A = none ∧ c = 0) ∧
          l = x.lks i ++ x.lkRow i j ∧ g = x.n - j ∧ Fr No w wr)
      case atStart => exact ⟨0, l, A, c, rfl, Nat.zero_le _, rfl, HO.out, HNIL.out, by rw [HL.out]; simp [Ix.lkRow], rfl, HF.out⟩
      case round =>
        clear HO HNIL HL HG HF
        obtain ⟨j, l, A, c, rfl, hj, rfl, hown, hnil, hl, hg, hf⟩ := hrel
        have hlen : l.length ≤ 2000 := by
          rw [hl, List.length_append]
          have := x.lks_len i
          have := x.lkRow_len i j
          have : i * x.n ≤ 24 * 24 := Nat.mul_le_mul (by omega) (by omega)
          omega
        have HO := hid hown
        have HNIL := hid hnil
        have HL := hid hl
        have HG := hid hg
        have HF := hid hf
        clear hown hnil hl hg hf
        by_cases hlt2 : j < x.n
        · have q1 := (h.no HF.out).by_ j hlt2
          have q2 := (h.no HF.out).hb.1
          have hj2 : (j : Int) < x.n := by omega
          go_wp2_with fail
          refine (at_calls (h.no HF.out) (x.by_ i : Nat) (x.by_ j : Nat)).mono ?_
          rintro e w1 ⟨rfl, hf1⟩
          obtain ⟨en, hen⟩ : ∃ en, x.at_ (x.by_ i : Nat) (x.by_ j : Nat) = en := ⟨_, rfl⟩
          rw [hen]
          obtain ⟨e0, e1, e2⟩ := en
          have HEN := hid hen
          have HO1 := hid (own_fr HO.out hf1 (fun _ _ h => h))
          have HF1 := hid (HF.out.trans hf1)
          have g0 := (h.no HF1.out).gn.c0
          have g1 := (h.no HF1.out).gn.c1
          have g2 := (h.no HF1.out).gn.c2
          have gl1 := (h.no HF1.out).gn.lt
          clear hen hf1 q1 q2 hj2
          simp only [En.val]
          cases hE : eq3 e0 e1 e2 4611686018427387906 (-1) (-1) with
          | true =>
            have hE2 := eq3_en ⟨e0, e1, e2⟩ En.none
            have hnone : x.at_ (x.by_ i : Nat) (x.by_ j : Nat) = En.none := by
              rw [HEN.out]
              have : eq3 e0 e1 e2 4611686018427387906 (-1) (-1) = decide ((⟨e0, e1, e2⟩ : En) = En.none) := hE2
              rw [hE] at this
              exact of_decide_eq_true this.symm
            have HX := hid hnone
            clear hE2 hnone
            go_wp2
            go_roundg (x.n - (j + 1))
            case measure => have := HG.out; omega
            case rel => exact ⟨j + 1, l, A, c, by go_num, by omega, rfl, own_fr HO1.out ((Fr.refl No _).alloc _) (fun _ _ h => h), HNIL.out, by rw [HL.out, Ix.lkRow, if_pos HX.out], rfl, HF1.out.alloc _⟩
          | false =>
            have hE2 := eq3_en ⟨e0, e1, e2⟩ En.none
            have hnone : x.at_ (x.by_ i : Nat) (x.by_ j : Nat) ≠ En.none := by
              rw [HEN.out]
              have : eq3 e0 e1 e2 4611686018427387906 (-1) (-1) = decide ((⟨e0, e1, e2⟩ : En) = En.none) := hE2
              rw [hE] at this
              exact of_decide_eq_false this.symm
            have HX := hid hnone
            have hsz := HF1.out.size
            clear hE2 hnone
            go_wp2_with (at_builtin; refine wpList_pushK (.tmp 34) (.tmp 39) (.slice A l.length c) l (w1.heap.size + 1) 1 ⟨(x.by_ i : Nat), (x.by_ j : Nat), ⟨e0, e1, e2⟩⟩ ?_ ?_ ?_ ?_ w.heap.size ?_ ?_ ?_ ?_ ?_; rfl; rfl; rfl; rfl; exact own_fr HO1.out (((Fr.refl No _).alloc _).alloc _) (fun _ _ h => h); (simp; omega); exact heap_alloc2' _ _ _; omega; intro g' cap' w2 hown2 hgrow2 hat2 hlt3; have HO2 := hid hown2; have HG2 := hid hgrow2; clear hown2 hgrow2 hat2)
            go_roundg (x.n - (j + 1))
            case measure => have := HG.out; omega
            case rel =>
              refine ⟨j + 1, l ++ [⟨(x.by_ i : Nat), (x.by_ j : Nat), ⟨e0, e1, e2⟩⟩], some ⟨g', 0, none⟩, cap', by go_num, by omega, by simp, HO2.out, fun e => by simp at e, ?_, rfl, ((HF1.out.alloc _).alloc _).grown HG2.out (fun k e => .inr (own_block HO1.out k e).1)⟩
              rw [HL.out, Ix.lkRow, if_neg HX.out, HEN.out, List.append_assoc]
        · have e : j = x.n := by omega
          subst e
          go_wp2
          go_roundg (x.n - (i + 1))
          case measure => have := HGO.out; omega
          case rel => exact ⟨i + 1, l, A, c, by go_num, by omega, rfl, HO.out, HNIL.out, by rw [HL.out]; rfl, rfl, HF.out⟩
    · have e : i = x.n := by omega
      subst e
      go_wp2
      go_ret
      rw [← HL.out]
      exact ⟨A, c, rfl, HF.out, HO.out, HNIL.out⟩

theorem links_calls {x : Ix} {w : World} {L : IxLoc} (h : IxMem w L x) :
    Calls Tryd.prog 22 #[.pointer (some ⟨L.b, 0, none⟩)] w fun e w' => ∃ (A : Option Addr) (c : Nat), e = .returned (.slice A (x.lks x.n).length c) ∧ Fr No w w' ∧ SlK w' (.slice A (x.lks x.n).length c) (x.lks x.n) :=
  (links_own h).mono fun e w' ⟨A, c, he, hf, ho, hn⟩ => ⟨A, c, he, hf, own_slK ho hn⟩

end Go.Proofs.YtlncmnphjdeeoaaDoor
