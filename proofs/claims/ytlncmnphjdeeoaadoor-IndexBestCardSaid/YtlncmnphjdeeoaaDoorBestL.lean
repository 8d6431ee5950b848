/- The law 'IndexBest' returns true, by the contracts; walked. -/
import Derived.Test.YtlncmnphjdeeoaaDoorRB
import Derived.Test.YtlncmnphjdeeoaaDoorG8
set_option linter.unusedVariables false
set_option linter.unusedSimpArgs false
namespace Go.Proofs.YtlncmnphjdeeoaaDoor
open Go.RowKit Go.Deep
attribute [local go_sem high] run_eql_en run_neq_en eq3_self

theorem LinksF.fr' {w w' : World} {A : Option Addr} {n : Nat} {f : Nat → Lk} (h : LinksF w A n f) (hf : Fr No w w') : LinksF w' A n f := fun h0 => by
  obtain ⟨b, off, e, hc⟩ := h h0
  exact ⟨b, off, e, fun j hj => (hc j hj).fr hf (fun h => h)⟩

set_option maxRecDepth 100000 in
set_option maxHeartbeats 4000000 in
theorem bestl_law (n num : Nat) (A2 : Option Addr) (ln2 cp2 : Nat) (lk2 : Nat → Lk) (A3 : Option Addr) (ln3 cp3 : Nat) (ch : Nat → Chg) (W : World) (hn : n ≤ 255) (hnum : (num : Int) ≤ 18446744073709551615) (hl : LinksF W A2 ln2 lk2) (b2 : ln2 ≤ 140737488351232) (hc : ChgsF W A3 ln3 ch) (b3 : ln3 ≤ 140737488351232) (hN : NoneVar W) :
    Calls Tryd.prog 13 #[.int .u8 (n : Nat), .int .u64 (num : Nat), .slice A2 ln2 cp2, .slice A3 ln3 cp3] W fun e w' => e = .returned (.bool true) ∧ Fr No W w' := by
  have HL := hid hl
  have HC := hid hc
  have HN := hid hN
  clear hl hc hN
  go_enter Tryd.func13, Tryd.ntmps13
  go_wp2_with fail
  refine (awake15_calls W HN.out).mono ?_
  rintro e w1 ⟨rfl, hf⟩
  have G1 := hid hf
  clear hf
  go_wp2_with fail
  refine (made_calls n num A2 ln2 cp2 lk2 w1 hn hnum (HL.out.fr' G1.out) b2 (HN.out.fr G1.out (fun h => h))).mono ?_
  rintro e w2 ⟨L, R, rfl, hf, hx, hr, _, _, _, _, _, _, _, _, _, hcb⟩
  have G2 := hid (G1.out.trans hf)
  have hxn := Ix.sets_n (Ix.start (1 + n % 24) num) lk2 (min ln2 300)
  obtain ⟨x, hX⟩ : ∃ x, (Ix.start (1 + n % 24) num).sets lk2 (min ln2 300) = x := ⟨_, rfl⟩
  rw [hX] at hx hr hxn
  have hcap : x.n ≤ L.cb := by
    rw [hxn, hcb]
    show (Ix.start (1 + n % 24) num).n ≤ _
    unfold Ix.start
    exact Nat.le_refl _
  have HX2 := hid hx
  have HR2 := hid hr
  clear hf hx hr hxn hX hcb
  go_wp2_with fail
  refine (made8_calls n A3 ln3 cp3 ch w2 hn (HC.out.fr G2.out) b3).mono ?_
  rintro e w3 ⟨Lg, b, rfl, hf, hm, hr, _, _⟩
  obtain ⟨G, hG⟩ : ∃ G, (Gr.zero (1 + n % 24) 64).steps ch (min ln3 150) = G := ⟨_, rfl⟩
  rw [hG] at hm hr
  have hgn := hm.ok.n2
  have HX := hid (HX2.out.no hf)
  have HR := hid (HR2.out.no hf)
  have HG := hid hm
  have HRG := hid hr
  have G3 := hid (G2.out.trans hf)
  clear hf hm hr hG HX2 HR2
  go_wp2
  go_loopg [13] (G.n + 2) (fun g p wr => ∃ u : Int, p = .int .i64 u ∧ -1 ≤ u ∧ u ≤ G.n + 1 ∧ g = (G.n + 1 - u).toNat ∧ Fr No w3 wr)
  case atStart => exact ⟨-1, rfl, by omega, by omega, by omega, Fr.refl _ _⟩
  case round =>
    obtain ⟨u, rfl, hu1, hu2, hg, hf⟩ := hrel
    have HGG := hid hg
    have HF := hid hf
    have c0 := (HRG.out.no hf).c0
    clear hg hf
    obtain ⟨wo, rfl⟩ : ∃ wo : World, wo = wr := ⟨_, rfl⟩
    by_cases hlt : u ≤ G.n
    · go_wp2
      clear c0
      go_loopg [14] (G.n + 2) (fun g p wr => ∃ v : Int, p = .int .i64 v ∧ -1 ≤ v ∧ v ≤ G.n + 1 ∧ g = (G.n + 1 - v).toNat ∧ Fr No w3 wr)
      case atStart => exact ⟨-1, rfl, by omega, by omega, by omega, HF.out⟩
      case round =>
        obtain ⟨v, rfl, hv1, hv2, hg2, hf⟩ := hrel
        clear HF
        have HG2 := hid hg2
        have HF := hid hf
        have c0 := (HRG.out.no hf).c0
        clear hg2 hf
        by_cases hlt2 : v ≤ G.n
        · go_wp2_with fail
          clear c0
          refine (xbest_calls (HX.out.no HF.out) hcap (HG.out.no HF.out) u v).mono ?_
          rintro e w4 ⟨rfl, hf1⟩
          obtain ⟨y, hy⟩ : ∃ y, x.best u v (G.best u v) = y := ⟨_, rfl⟩
          have HY := hid hy
          rw [hy]
          obtain ⟨e0, e1, e2⟩ := y
          simp only [En.val]
          have HF1 := hid (HF.out.trans hf1)
          clear hf1 hy HF
          go_wp2_with fail
          refine (rxbest_calls (HR.out.no HF1.out) (HRG.out.no HF1.out) u v).mono ?_
          rintro e w5 ⟨rfl, hf2⟩
          rw [HY.out]
          simp only [En.val]
          have HF2 := hid (HF1.out.trans hf2)
          clear hf2 HF1
          go_wp2
          go_roundg (G.n + 1 - (v + 1)).toNat
          case measure => have := HG2.out; omega
          case rel => exact ⟨v + 1, by go_num, by omega, by omega, rfl, HF2.out⟩
        · go_wp2
          go_roundg (G.n + 1 - (u + 1)).toNat
          case measure => have := HGG.out; omega
          case rel => exact ⟨u + 1, by go_num, by omega, by omega, rfl, HF.out⟩
    · go_wp2_with fail
      refine (same_calls (HX.out.no HF.out) (HR.out.no HF.out)).mono ?_
      rintro e w6 ⟨rfl, hf⟩
      go_wp2
      go_ret
      exact ⟨rfl, G3.out.trans (HF.out.trans hf)⟩

end Go.Proofs.YtlncmnphjdeeoaaDoor
