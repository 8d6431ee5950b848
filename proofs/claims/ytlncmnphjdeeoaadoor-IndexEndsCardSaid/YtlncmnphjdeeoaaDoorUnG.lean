/- The two laws of unpacking; walked. -/
import Derived.Test.YtlncmnphjdeeoaaDoorUnF
set_option linter.unusedVariables false
set_option linter.unusedSimpArgs false
namespace Go.Proofs.YtlncmnphjdeeoaaDoor
open Go.RowKit Go.Deep

theorem LinksF.fr {w w' : World} {A : Option Addr} {n : Nat} {f : Nat → Lk} (h : LinksF w A n f) (hf : Fr No w w') : LinksF w' A n f := fun hn => by
  obtain ⟨b, off, e, hc⟩ := h hn
  exact ⟨b, off, e, fun j hj => (hc j hj).fr hf (fun h => h)⟩
theorem Ix.fit_start (n num : Nat) (lk : Nat → Lk) (k : Nat) : ((Ix.start n num).sets lk k).Fit := (Ix.Fit.start _ _).sets _ _

set_option maxRecDepth 100000 in
set_option maxHeartbeats 4000000 in
theorem arcs_law (n num : Nat) (A : Option Addr) (ln cp : Nat) (lk : Nat → Lk) (u v : Int) (w : World) (hn : n ≤ 255) (hnum : (num : Int) ≤ 18446744073709551615) (hl : LinksF w A ln lk) (hln : ln ≤ 140737488351232) (hN : NoneVar w) :
    Calls Tryd.prog 3 #[.int .u8 (n : Nat), .int .u64 (num : Nat), .slice A ln cp, .int .i64 u, .int .i64 v] w fun e w' => e = .returned (.bool true) ∧ Fr No w w' := by
  have HN := hid hN
  have HL := hid hl
  clear hN hl
  go_enter Tryd.func3, Tryd.ntmps3
  go_wp2_with fail
  refine (awake_calls w HN.out).mono ?_
  rintro e w1 ⟨rfl, hf⟩
  have HN1 := hid (HN.out.fr hf (fun h => h))
  have HL1 := hid (LinksF.fr HL.out hf)
  have G1 := hid hf
  clear hf
  go_wp2_with fail
  refine (made_calls n num A ln cp lk w1 hn hnum HL1.out hln HN1.out).mono ?_
  rintro e w2 ⟨L, R, rfl, hf, hm, hr, _⟩
  have hfit := Ix.fit_start (1 + n % 24) num lk (min ln 300)
  obtain ⟨x, hx⟩ : ∃ x, (Ix.start (1 + n % 24) num).sets lk (min ln 300) = x := ⟨_, rfl⟩
  rw [hx] at hm hr hfit
  have HM := hid hm
  have HR := hid hr
  have HF := hid hfit
  have G2 := hid (G1.out.trans hf)
  clear hf hm hr hfit hx
  go_wp2_with fail
  refine (parcs_calls HF.out HM.out u v).mono ?_
  rintro e w3 ⟨sv1, rfl, hf, hs⟩
  have HR1 := hid (HR.out.no hf)
  have G3 := hid (G2.out.trans hf)
  have HS := hid hs
  clear hf hs
  go_wp2_with fail
  refine (rarcs_calls HF.out HM.out.ok HR1.out u v).mono ?_
  rintro e w4 ⟨sv2, rfl, hf, hs⟩
  have HS1 := hid (HS.out.fr hf)
  have HS2 := hid hs
  have G4 := hid (G3.out.trans hf)
  have hlen := (x.arcs_len u v).1
  clear hf hs
  obtain ⟨al, hal⟩ : ∃ al, x.arcs u v = al := ⟨_, rfl⟩
  rw [hal] at HS1 HS2 hlen ⊢
  obtain ⟨l, cd⟩ := al
  clear hal
  simp only at HS1 HS2 hlen ⊢
  go_wp2_with fail
  refine (ints_same HS1.out HS2.out (by omega)).mono ?_
  rintro e w5 ⟨rfl, hf⟩
  have G5 := hid (G4.out.trans hf)
  clear hf
  go_wp2
  go_ret
  exact ⟨rfl, G5.out⟩

set_option maxRecDepth 100000 in
set_option maxHeartbeats 4000000 in
theorem ways_law (n num : Nat) (A : Option Addr) (ln cp : Nat) (lk : Nat → Lk) (B : Option Addr) (m cm : Nat) (f : Nat → Int) (w : World) (hn : n ≤ 255) (hnum : (num : Int) ≤ 18446744073709551615) (hl : LinksF w A ln lk) (hln : ln ≤ 140737488351232) (hb : IntsF w B m f) (hN : NoneVar w) :
    Calls Tryd.prog 4 #[.int .u8 (n : Nat), .int .u64 (num : Nat), .slice A ln cp, .slice B m cm] w fun e w' => e = .returned (.bool true) ∧ Fr No w w' := by
  have HN := hid hN
  have HL := hid hl
  have HB := hid hb
  clear hN hl hb
  go_enter Tryd.func4, Tryd.ntmps4
  go_wp2_with fail
  refine (awake_calls w HN.out).mono ?_
  rintro e w1 ⟨rfl, hf⟩
  have HN1 := hid (HN.out.fr hf (fun h => h))
  have HL1 := hid (LinksF.fr HL.out hf)
  have G1 := hid hf
  have HB1 := hid (IntsF.fr HB.out hf)
  clear hf
  by_cases hm : 100 < m
  · go_wp2
    go_ret
    exact ⟨rfl, G1.out⟩
  · go_wp2_with fail
    refine (made_calls n num A ln cp lk w1 hn hnum HL1.out hln HN1.out).mono ?_
    rintro e w2 ⟨L, R, rfl, hf, hm', hr, _⟩
    have hfit := Ix.fit_start (1 + n % 24) num lk (min ln 300)
    obtain ⟨x, hx⟩ : ∃ x, (Ix.start (1 + n % 24) num).sets lk (min ln 300) = x := ⟨_, rfl⟩
    rw [hx] at hm' hr hfit
    have HM := hid hm'
    have HR := hid hr
    have HF := hid hfit
    have G2 := hid (G1.out.trans hf)
    have HB2 := hid (IntsF.fr HB1.out hf)
    clear hf hm' hr hfit hx
    go_wp2_with fail
    refine (pway_calls HF.out HM.out.ok HM.out B m cm f HB2.out (by omega)).mono ?_
    rintro e w3 ⟨sv1, rfl, hf, hs⟩
    have HR1 := hid (HR.out.no hf)
    have G3 := hid (G2.out.trans hf)
    have HB3 := hid (IntsF.fr HB2.out hf)
    have HS := hid hs
    clear hf hs
    go_wp2_with fail
    refine (rway_calls HF.out HM.out.ok HR1.out B m cm f HB3.out (by omega)).mono ?_
    rintro e w4 ⟨sv2, rfl, hf, hs⟩
    have HS1 := hid (HS.out.fr hf)
    have HS2 := hid hs
    have G4 := hid (G3.out.trans hf)
    have hlen := x.wayTo_len f (m - 1)
    clear hf hs
    obtain ⟨al, hal⟩ : ∃ al, x.wayTo f (m - 1) = al := ⟨_, rfl⟩
    rw [hal] at HS1 HS2 hlen ⊢
    obtain ⟨l, cd⟩ := al
    clear hal
    simp only at HS1 HS2 hlen ⊢
    go_wp2_with fail
    refine (ints_same HS1.out HS2.out (by omega)).mono ?_
    rintro e w5 ⟨rfl, hf⟩
    have G5 := hid (G4.out.trans hf)
    clear hf
    go_wp2
    go_ret
    exact ⟨rfl, G5.out⟩

end Go.Proofs.YtlncmnphjdeeoaaDoor
