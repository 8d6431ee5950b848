/- The law of layer 17 of stars, middles and what hangs; walked. -/
import Derived.Test.YtlncmnphjdeeoaaDoorAwk17
import Derived.Test.YtlncmnphjdeeoaaDoorMid
import Derived.Test.YtlncmnphjdeeoaaDoorUnE
set_option linter.unusedVariables false
set_option linter.unusedSimpArgs false
namespace Go.Proofs.YtlncmnphjdeeoaaDoor
open Go.RowKit Go.Deep

theorem SlL.ints {w : World} {A : Option Addr} {c : Nat} {l : List Int} (h : SlL w (.slice A l.length c) l) : IntsF w A l.length (fun j => l.getD j 0) := fun h0 => by
  rcases h with ⟨h1, _⟩ | ⟨b, off, c', _, e, hc⟩
  · rw [h1] at h0; simp at h0
  · simp only [Value.slice.injEq] at e
    exact ⟨b, off, e.1, hc⟩

set_option maxRecDepth 100000 in
set_option maxHeartbeats 4000000 in
theorem tells_law (n num : Nat) (A : Option Addr) (ln cp : Nat) (lk : Nat → Lk) (u v : Int) (w : World) (hn : n ≤ 255) (hnum : (num : Int) ≤ 18446744073709551615) (hl : LinksF w A ln lk) (hln : ln ≤ 140737488351232) (hN : NoneVar w) :
    Calls Tryd.prog 10 #[.int .u8 (n : Nat), .int .u64 (num : Nat), .slice A ln cp, .int .i64 u, .int .i64 v] w fun e w' => e = .returned (.bool true) ∧ Fr No w w' := by
  have HN := hid hN
  have HL := hid hl
  clear hN hl
  go_enter Tryd.func10, Tryd.ntmps10
  go_wp2_with fail
  refine (awake17_calls _ HN.out).mono ?_
  rintro e w1 ⟨rfl, hf⟩
  have HN1 := hid (HN.out.fr hf (fun h => h))
  have HL1 := hid (LinksF.fr HL.out hf)
  have G1 := hid hf
  clear hf
  go_wp2_with fail
  refine (made_calls n num A ln cp lk w1 hn hnum HL1.out hln HN1.out).mono ?_
  rintro e w2 ⟨L, R, rfl, hf, hm, hr, _⟩
  obtain ⟨x, hx⟩ : ∃ x, (Ix.start (1 + n % 24) num).sets lk (min ln 300) = x := ⟨_, rfl⟩
  rw [hx] at hm hr
  have HM := hid hm
  have HR := hid hr
  have G2 := hid (G1.out.trans hf)
  clear hf hm hr hx
  go_wp2_with fail
  refine (star_calls HM.out u).mono ?_
  rintro e w3 ⟨rfl, hf⟩
  have HM3 := hid (HM.out.no hf)
  have HR3 := hid (HR.out.no hf)
  have G3 := hid (G2.out.trans hf)
  clear hf
  go_wp2_with fail
  refine (rstar_calls HR3.out u).mono ?_
  rintro e w4 ⟨rfl, hf⟩
  have HM4 := hid (HM3.out.no hf)
  have HR4 := hid (HR3.out.no hf)
  have G4 := hid (G3.out.trans hf)
  clear hf
  go_wp2_with fail
  refine (same17_calls _ (HM.out.ok.starWf u) _).mono ?_
  rintro e w5 ⟨rfl, hf⟩
  have HM5 := hid (HM4.out.no hf)
  have HR5 := hid (HR4.out.no hf)
  have G5 := hid (G4.out.trans hf)
  clear hf
  go_wp2_with fail
  refine (mid_calls HM5.out u v).mono ?_
  rintro e w6 ⟨A1, c1, rfl, hf, hs⟩
  have HM6 := hid (HM5.out.no hf)
  have HR6 := hid (HR5.out.no hf)
  have G6 := hid (G5.out.trans hf)
  have HS6 := hid hs
  clear hf hs
  go_wp2_with fail
  refine (rmid_calls HR6.out u v).mono ?_
  rintro e w7 ⟨A2, c2, rfl, hf, hs⟩
  have HM7 := hid (HM6.out.no hf)
  have HR7 := hid (HR6.out.no hf)
  have G7 := hid (G6.out.trans hf)
  have HS7 := hid (HS6.out.fr hf)
  have HT7 := hid hs
  clear hf hs
  have hml := HM.out.ok.mids_le u v
  go_wp2_with fail
  refine (ints_calls A1 A2 (x.mids u v).length (x.mids u v).length c1 c2 _ _ w7 HS7.out.ints HT7.out.ints (by omega) (by omega) true (by simp)).mono ?_
  rintro e w8 ⟨rfl, hf⟩
  have HM8 := hid (HM7.out.no hf)
  have HR8 := hid (HR7.out.no hf)
  have G8 := hid (G7.out.trans hf)
  clear hf hml
  go_wp2_with fail
  refine (hang_calls HM8.out u).mono ?_
  rintro e w9 ⟨A3, c3, rfl, hf, hs, _⟩
  have HR9 := hid (HR8.out.no hf)
  have G9 := hid (G8.out.trans hf)
  have HS9 := hid hs
  clear hf hs
  go_wp2_with fail
  refine (rhang_calls HR9.out u).mono ?_
  rintro e w10 ⟨A4, c4, rfl, hf, hs⟩
  have G10 := hid (G9.out.trans hf)
  have HS10 := hid (fun h0 => (HS9.out h0).fr hf)
  have HT10 := hid hs
  clear hf hs
  have hhl : (x.hang u).length ≤ 1000 := by
    have hn2 := HM.out.ok.n2
    have hlen := x.lks_len x.n
    have hnn : x.n * x.n ≤ 24 * 24 := Nat.mul_le_mul hn2 hn2
    have h1 := List.length_filter_le (fun y : Lk => decide (y.e.m = u)) x.shorts
    have h2 : x.shorts.length ≤ (x.lks x.n).length := by rw [Ix.shorts_filter]; exact List.length_filter_le _ _
    have h3 : (x.hang u).length ≤ x.shorts.length := h1
    omega
  go_wp2_with fail
  refine (lks_same hhl HS10.out (fun _ => HT10.out)).mono ?_
  rintro e w11 ⟨rfl, hf⟩
  go_wp2
  go_ret
  exact ⟨rfl, G10.out.trans hf⟩

end Go.Proofs.YtlncmnphjdeeoaaDoor
