/- The law of ends: each link lies at its lower end, and at no other vertex; walked. -/
import Derived.Test.YtlncmnphjdeeoaaDoorUps
import Derived.Test.YtlncmnphjdeeoaaDoorAway
set_option linter.unusedVariables false
set_option linter.unusedSimpArgs false
namespace Go.Proofs.YtlncmnphjdeeoaaDoor
open Go.RowKit Go.Deep
attribute [local go_sem high] run_eql_en run_neq_en eq3_self

theorem Ix.ups_le (x : Ix) (v : Int) (back : Bool) : (x.ups v back).length ≤ x.n := by
  unfold Ix.ups
  split
  · exact x.upsTo_le v back x.n
  · simp
theorem Ix.seen_le (x : Ix) : ∀ k, x.seen k ≤ k * (2 * x.n)
  | 0 => by simp [Ix.seen, sumN]
  | k + 1 => by
    have := x.seen_le k
    have := x.ups_le (k : Nat) false
    have := x.ups_le (k : Nat) true
    have e : x.seen (k + 1) = x.seen k + ((x.ups (k : Nat) false).length + (x.ups (k : Nat) true).length) := rfl
    rw [e, Nat.succ_mul]; omega

set_option maxRecDepth 100000 in
set_option maxHeartbeats 8000000 in
theorem ends_law (n num : Nat) (A : Option Addr) (ln cp : Nat) (lk : Nat → Lk) (w : World) (hn : n ≤ 255) (hnum : (num : Int) ≤ 18446744073709551615) (hl : LinksF w A ln lk) (hln : ln ≤ 140737488351232) (hN : NoneVar w) :
    Calls Tryd.prog 5 #[.int .u8 (n : Nat), .int .u64 (num : Nat), .slice A ln cp] w fun e w' => e = .returned (.bool true) ∧ Fr No w w' := by
  have HN := hid hN
  have HL := hid hl
  clear hN hl
  go_enter Tryd.func5, Tryd.ntmps5
  go_wp2_with fail
  refine (awake15_calls w HN.out).mono ?_
  rintro e w1 ⟨rfl, hf⟩
  have HN1 := hid (HN.out.fr hf (fun h => h))
  have HL1 := hid (LinksF.fr HL.out hf)
  have G1 := hid hf
  clear hf
  go_wp2_with fail
  refine (made_calls n num A ln cp lk w1 hn hnum HL1.out hln HN1.out).mono ?_
  rintro e w2 ⟨L, R, rfl, hf, hm, hr, _⟩
  obtain ⟨x, hx⟩ : ∃ x, (Ix.start (1 + n % 24) num).sets lk (min ln 300) = x := ⟨_, rfl⟩
  rw [hx] at hm hr
  have HM := hid hm
  have HR := hid hr
  have hn2 := hm.ok.n2
  have hn1 := hm.ok.n1
  have hall := hm.ok.seen_all
  have HALL := hid hall
  have G2 := hid (G1.out.trans hf)
  clear hf hm hr hx hall HN1 HL1 HN HL
  go_wp2_with fail
  refine (links_calls HM.out).mono ?_
  rintro e w3 ⟨LA, lc, rfl, hf, hs⟩
  have HS := hid hs
  have hlen := x.lks_len x.n
  have hnn : x.n * x.n ≤ 24 * 24 := Nat.mul_le_mul hn2 hn2
  have HM3 := hid (HM.out.no hf)
  have HR3 := hid (HR.out.no hf)
  have G3 := hid (G2.out.trans hf)
  clear hf hs HM HR G2
  obtain ⟨l, hl⟩ : ∃ l, x.lks x.n = l := ⟨_, rfl⟩
  rw [hl] at HS HALL hlen
  rw [hl]
  have HLL := hid hl
  clear hl
  go_wp2
  go_loopg [10, 11] x.n (fun g p q wr => ∃ v : Nat, q = .int .i64 v ∧ v ≤ x.n ∧ p = .int .i64 (x.seen v : Nat) ∧ g = x.n - v ∧ Fr No w3 wr)
  case atStart => exact ⟨0, rfl, Nat.zero_le _, rfl, rfl, Fr.refl _ _⟩
  case round =>
    obtain ⟨v, rfl, hv, rfl, hg, hf⟩ := hrel
    have HG := hid hg
    have HF := hid hf
    have c0 := (HR3.out.no hf).c0
    have hsn := x.seen_le v
    have hvn : v * (2 * x.n) ≤ 24 * 48 := Nat.mul_le_mul (by omega) (by omega)
    have hst : x.seen (v + 1) = x.seen v + ((x.ups (v : Nat) false).length + (x.ups (v : Nat) true).length) := rfl
    have HST := hid hst
    have hu1 := x.ups_le (v : Nat) false
    have hu2 := x.ups_le (v : Nat) true
    clear hg hf hst
    by_cases hlt : v < x.n
    · have hv2 : (v : Int) < x.n := by omega
      obtain ⟨u1, hu1e⟩ : ∃ u, (x.ups (v : Nat) false).length = u := ⟨_, rfl⟩
      obtain ⟨u2, hu2e⟩ : ∃ u, (x.ups (v : Nat) true).length = u := ⟨_, rfl⟩
      obtain ⟨sn, hsne⟩ : ∃ s, x.seen v = s := ⟨_, rfl⟩
      rw [hu1e, hu2e, hsne] at HST
      rw [hu1e] at hu1
      rw [hu2e] at hu2
      rw [hsne] at hsn
      rw [hsne]
      have HU1 := hid hu1e
      have HU2 := hid hu2e
      clear hu1e hu2e hsne
      go_wp2_with fail
      clear c0
      refine (rup_calls (HR3.out.no HF.out) (v : Nat) false).mono ?_
      rintro e w4 ⟨A1, c1, rfl, hf4, _⟩
      rw [HU1.out]
      have HF4 := hid (HF.out.trans hf4)
      clear hf4
      go_wp2_with fail
      refine (rup_calls (HR3.out.no HF4.out) (v : Nat) true).mono ?_
      rintro e w5 ⟨A2, c2, rfl, hf5, _⟩
      rw [HU2.out]
      have HF5 := hid (HF4.out.trans hf5)
      clear hf5
      go_wp2
      go_roundg (x.n - (v + 1))
      case measure => have := HG.out; omega
      case rel => exact ⟨v + 1, by go_num, by omega, by rw [HST.out]; go_num, rfl, HF5.out⟩
    · have e : v = x.n := by omega
      subst e
      have HLL2 := hid (show x.seen x.n = l.length from HALL.out)
      rw [HLL2.out]
      have HS4 := hid (HS.out.fr HF.out)
      have HM4 := hid (HM3.out.no HF.out)
      have G4 := hid (G3.out.trans HF.out)
      clear HS HM3 HR3 G3 HG HST hsn hvn hu1 hu2 HALL HLL2
      obtain ⟨wo, hwo⟩ : ∃ wo : World, wo = wr := ⟨_, rfl⟩
      rw [← hwo] at HS4 HM4 G4
      have HWO := hid hwo
      clear HF
      go_wp2
      clear c0
      go_loopg [12] l.length (fun g p wq => ∃ j : Nat, p = .int .i64 j ∧ j ≤ l.length ∧ g = l.length - j ∧ Fr No wo wq)
      case atStart => exact ⟨0, rfl, Nat.zero_le _, rfl, HWO.out ▸ Fr.refl _ _⟩
      case round =>
        obtain ⟨j, rfl, hj, hg, hf⟩ := hrel
        have HG := hid hg
        have HF := hid hf
        have hlen3 : l.length ≤ 576 := by omega
        clear hg hf
        by_cases hlt : j < l.length
        · have hm := x.lks_mem x.n (l.getD j Lk.zero) (by rw [HLL.out, List.getD_eq_getElem?_getD, List.getElem?_eq_getElem hlt]; exact List.getElem_mem hlt)
          have hfa := HM4.out.ok.link_facts hm.1 hm.2
          obtain ⟨⟨lt, lh, ⟨e0, e1, e2⟩⟩, hlk⟩ : ∃ y, l.getD j Lk.zero = y := ⟨_, rfl⟩
          rw [hlk] at hm hfa
          simp only at hm hfa
          have HAT := hid hm.1
          have hw1 := hfa.2
          have hlow := hfa.1
          clear hm hfa
          rcases HS4.out with ⟨h0, _⟩ | ⟨lb, lo, lcc, h0, hle, hcs⟩
          · subst h0; simp at hlt
          · have hc := (hcs j hlt).fr HF.out (fun h => h)
            rw [hlk] at hc
            obtain ⟨k0, k1, k2, k3, k4⟩ := hc
            have hj2 : (j : Int) < l.length := by omega
            simp only [Value.slice.injEq] at hle
            obtain ⟨rfl, _, rfl⟩ := hle
            clear hcs hlk
            go_wp2_with fail
            refine (low_calls ((HM4.out.no HF.out).alloc _) lt lh).mono ?_
            rintro e w6 ⟨rfl, k6, rfl⟩
            have O6 := heap_newN wr (Obj.cells #[.int .i64 lt, .int .i64 lh, .int .i64 e0, .int .i64 e1, .int .i64 e2] 48) k6
            have HM6 := hid (((HM4.out.no HF.out).alloc (Obj.cells #[.int .i64 lt, .int .i64 lh, .int .i64 e0, .int .i64 e1, .int .i64 e2] 48)).drewN k6)
            have HF6 := hid ((HF.out.alloc (Obj.cells #[.int .i64 lt, .int .i64 lh, .int .i64 e0, .int .i64 e1, .int .i64 e2] 48)).drewN k6)
            obtain ⟨W6, hW6⟩ : ∃ W6, (wr.alloc (Obj.cells #[.int .i64 lt, .int .i64 lh, .int .i64 e0, .int .i64 e1, .int .i64 e2] 48)).drewN k6 = W6 := ⟨_, rfl⟩
            rw [hW6] at O6 HM6 HF6 ⊢
            have q := cell_of O6
            have kk0 : ∀ n : Fam W6, n.v.cell? ⟨wr.heap.size, 0, none⟩ = some (.int .i64 lt) := Fam.cell (q 0)
            have kk1 : ∀ n : Fam W6, n.v.cell? ⟨wr.heap.size, 1, none⟩ = some (.int .i64 lh) := Fam.cell (q 1)
            have kk2 : ∀ n : Fam W6, n.v.cell? ⟨wr.heap.size, 2, none⟩ = some (.int .i64 e0) := Fam.cell (q 2)
            have kk3 : ∀ n : Fam W6, n.v.cell? ⟨wr.heap.size, 3, none⟩ = some (.int .i64 e1) := Fam.cell (q 3)
            have kk4 : ∀ n : Fam W6, n.v.cell? ⟨wr.heap.size, 4, none⟩ = some (.int .i64 e2) := Fam.cell (q 4)
            have hca : ∀ n : Fam W6, Calls Tryd.prog 25 #[.pointer (some ⟨L.b, 0, none⟩), .int .i64 lt, .int .i64 lh] n.v fun e w' => e = .returned (.agg #[.int .i64 e0, .int .i64 e1, .int .i64 e2]) ∧ Fr No n.v w' := fun n => by
              have := at_calls (HM6.out.no n.h) lt lh
              rw [HAT.out] at this
              exact this
            have he1 : (e0 < 1) = False := by simp; omega
            clear hW6 k0 k1 k2 k3 k4 q O6
            by_cases hlw : x.low lt lh = lt
            · rw [hlw]
              go_wp2_with fail
              refine wp_region_fam (by kernel_rfl) (by kernel_rfl) ?_
              repeat (go_big_quiet_step (exact Calls.fam (hca _)))
              refine wpQuiet_nil ?_
              rintro w7 ⟨⟨w7, hf7⟩, rfl⟩
              have HF7 := hid (HF6.out.trans hf7)
              clear hf7 kk0 kk1 kk2 kk3 kk4 hca
              go_wp2
              go_roundg (l.length - (j + 1))
              case measure => have := HG.out; omega
              case rel => exact ⟨j + 1, by go_num, by omega, rfl, HF7.out⟩
            · have hlh : x.low lt lh = lh := hlow.resolve_left hlw
              rw [hlh] at hlw ⊢
              have hn1' : (lh == lt) = false := by simpa using hlw
              have hn2' : decide (lh = lt) = false := by simpa using hlw
              have hn3' : (lh != lt) = true := by simpa using hlw
              have hn4' : (lh = lt) = False := by simpa using hlw
              go_wp2_with fail
              refine wp_region_fam (by kernel_rfl) (by kernel_rfl) ?_
              repeat (go_big_quiet_step (exact Calls.fam (hca _)))
              refine wpQuiet_nil ?_
              rintro w7 ⟨⟨w7, hf7⟩, rfl⟩
              have HF7 := hid (HF6.out.trans hf7)
              clear hf7 kk0 kk1 kk2 kk3 kk4 hca
              go_wp2
              go_roundg (l.length - (j + 1))
              case measure => have := HG.out; omega
              case rel => exact ⟨j + 1, by go_num, by omega, rfl, HF7.out⟩
        · have e : j = l.length := by omega
          subst e
          go_wp2
          go_ret
          exact ⟨rfl, G4.out.trans HF.out⟩

end Go.Proofs.YtlncmnphjdeeoaaDoor
