/- The law 'RepairNew' returns true, by the contracts; walked. -/

import Derived.Test.YtoepbhacpidcbaaGreatDoorQBase
import Derived.Test.YtoepbhacpidcbaaGreatDoorQIdx
import Derived.Test.YtoepbhacpidcbaaGreatDoorQPerm
import Derived.Test.YtoepbhacpidcbaaGreatDoorQIdxB
import Derived.Test.YtoepbhacpidcbaaGreatDoorQRef
import Derived.Test.YtoepbhacpidcbaaGreatDoorQUnref
import Derived.Test.YtoepbhacpidcbaaGreatDoorQItr
import Derived.Test.YtoepbhacpidcbaaGreatDoorQUnE
import Derived.Test.YtoepbhacpidcbaaGreatDoorQDst
import Derived.Test.YtoepbhacpidcbaaGreatDoorQLnk
import Derived.Test.YtoepbhacpidcbaaGreatDoorQLks
import Derived.Test.YtoepbhacpidcbaaGreatDoorQMid
import Derived.Test.YtoepbhacpidcbaaGreatDoorQBig
import Derived.Test.YtoepbhacpidcbaaGreatDoorQCp2
import Derived.Test.YtoepbhacpidcbaaGreatDoorQGoes
import Derived.Test.YtoepbhacpidcbaaGreatDoorQGOps
import Derived.Test.YtoepbhacpidcbaaGreatDoorQGB
import Derived.Test.YtoepbhacpidcbaaGreatDoorQG8
import Derived.Test.YtoepbhacpidcbaaGreatDoorQWh
import Derived.Test.YtoepbhacpidcbaaGreatDoorQDMov
import Derived.Test.YtoepbhacpidcbaaGreatDoorQWk
import Derived.Test.YtoepbhacpidcbaaGreatDoorQBt1
import Derived.Test.YtoepbhacpidcbaaGreatDoorQHpK
import Derived.Test.YtoepbhacpidcbaaGreatDoorQOc
import Derived.Test.YtoepbhacpidcbaaGreatDoorQSqO
import Derived.Test.YtoepbhacpidcbaaGreatDoorQAps
import Derived.Test.YtoepbhacpidcbaaGreatDoorQKq
import Derived.Test.YtoepbhacpidcbaaGreatDoorQRBt
import Derived.Test.YtoepbhacpidcbaaGreatDoorQAll
import Derived.Test.YtoepbhacpidcbaaGreatDoorQWhl
import Derived.Test.YtoepbhacpidcbaaGreatDoorQKl
import Derived.Test.YtoepbhacpidcbaaGreatDoorQRB
import Derived.Test.YtoepbhacpidcbaaGreatDoorQRbd
import Derived.Test.YtoepbhacpidcbaaGreatDoorQBuL
import Derived.Test.YtoepbhacpidcbaaGreatDoorQClb
import Derived.Test.YtoepbhacpidcbaaGreatDoorQKs
import Derived.Test.YtoepbhacpidcbaaGreatDoorQAw19
import Derived.Test.YtoepbhacpidcbaaGreatDoorQKt

set_option linter.unusedVariables false
set_option linter.unusedSimpArgs false
namespace Go.Proofs.YtoepbhacpidcbaaGreatDoor
open Go.RowKit Go.Shelf Go.Deep

theorem sumN_le'' (f : Nat → Nat) : ∀ n k, k ≤ n → sumN f k ≤ sumN f n
  | 0, k, h => by have e : k = 0 := by omega
                  subst e; exact Nat.le_refl _
  | n + 1, k, h => by
    rcases Nat.lt_or_ge k (n + 1) with h' | h'
    · have := sumN_le'' f n k (by omega)
      show _ ≤ sumN f n + f n
      omega
    · have e : k = n + 1 := by omega
      subst e; exact Nat.le_refl _
/-- Works lie in a row. -/
def WksAt (w : World) (b o : Nat) (l : List Wrk) : Prop := ∀ j, j < l.length → w.cell? ⟨b, o + j * 5, none⟩ = some (.int .i64 ((l.getD j wrk0).v : Nat)) ∧ w.cell? ⟨b, o + j * 5 + 1, none⟩ = some (.int .i64 ((l.getD j wrk0).c : Nat)) ∧ w.cell? ⟨b, o + j * 5 + 2, none⟩ = some (.int .i64 ((l.getD j wrk0).w : Nat)) ∧ w.cell? ⟨b, o + j * 5 + 3, none⟩ = some (.int .i64 ((l.getD j wrk0).t : Nat)) ∧ w.cell? ⟨b, o + j * 5 + 4, none⟩ = some (.int .u64 (numOf (fun z => (l.getD j wrk0).m z = true) : Nat))
theorem WksAt.fr {w w' : World} {b o : Nat} {l : List Wrk} (h : WksAt w b o l) {F : Nat → Prop} (hf : Fr F w w') (hb : ¬ F b) : WksAt w' b o l := fun j hj => by
  obtain ⟨h0, h1, h2, h3, h4⟩ := h j hj
  exact ⟨hf.cell_some h0 hb, hf.cell_some h1 hb, hf.cell_some h2 hb, hf.cell_some h3 hb, hf.cell_some h4 hb⟩
theorem wkCells_at (l : List Wrk) : ∀ j, j < l.length → ∀ k, k < 5 → (wkCells l)[j * 5 + k]? = (wkCl (l.getD j wrk0))[k]? := by
  induction l with
  | nil => intro j hj; simp at hj
  | cons a l ih =>
    intro j hj k hk
    have hcl : (wkCl a).length = 5 := rfl
    show (wkCl a ++ wkCells l)[j * 5 + k]? = _
    cases j with
    | zero => rw [Nat.zero_mul, Nat.zero_add, List.getElem?_append_left (by omega)]; simp
    | succ j =>
      rw [List.getElem?_append_right (by omega), hcl, show (j + 1) * 5 + k - 5 = j * 5 + k by omega]
      have := ih j (by simpa using hj) k hk
      rw [this]; simp
theorem own_wks {w : World} {base : Nat} {v : Value} {l : List Wrk} (h : w.ownsRow base 81 5 v l.length (wkCells l)) (h0 : 0 < l.length) : ∃ b o c, v = .slice (some ⟨b, o, none⟩) l.length c ∧ base ≤ b ∧ b < w.heap.size ∧ WksAt w b o l := by
  have hh := h
  obtain ⟨_, h' | ⟨g, cap, cur, rfl, hb, hg, h1, h2, _⟩⟩ := hh
  · omega
  · have hc := h.cells (g := g) rfl
    have hl := h.lt g rfl
    refine ⟨g, 0, cap, rfl, hb, hl.2, fun j hj => ?_⟩
    have key : ∀ k u, k < 5 → (wkCl (l.getD j wrk0))[k]? = some u → w.cell? ⟨g, 0 + j * 5 + k, none⟩ = some u := fun k u hk hu => by
      have e := wkCells_at l j hj k hk
      rw [hu] at e
      have := hc (j * 5 + k) u e
      rw [Addr.add_mid, Nat.zero_add] at this
      rw [Nat.zero_add]; exact this
    exact ⟨key 0 _ (by omega) rfl, key 1 _ (by omega) rfl, key 2 _ (by omega) rfl, key 3 _ (by omega) rfl, key 4 _ (by omega) rfl⟩

set_option maxRecDepth 100000 in
set_option maxHeartbeats 4000000 in
theorem rnew_law (n : Nat) (A1 : Option Addr) (ln1 cp1 : Nat) (ch : Nat → Chg) (num : Nat) (W : World) (hn : n ≤ 255) (hc : ChgsF W A1 ln1 ch) (b1 : ln1 ≤ 140737488351232) (hnum : (num : Int) ≤ 18446744073709551615) (hN : NoneVar W) (hT : TzVar W) :
    Calls Tryz.prog 10 #[.int .u8 (n : Nat), .slice A1 ln1 cp1, .int .u64 (num : Nat)] W fun e w' => e = .returned (.bool true) ∧ Fr No W w' := by
  have HC := hid hc
  have HN := hid hN
  have HT := hid hT
  have hmod : n % 24 < 24 := Nat.mod_lt _ (by omega)
  have hd := rank_perm (1 + n % 24) num (by omega) (by omega)
  have HD := hid hd
  have HI := hid (Classical.choose_spec hd.inv)
  obtain ⟨g, hg⟩ : ∃ g, Classical.choose hd.inv = g := ⟨_, rfl⟩
  rw [hg] at HI
  clear hc hN hg hd hT
  go_enter Tryz.func10, Tryz.ntmps10
  go_wp2_with fail
  refine (awake19_calls W HN.out HT.out).mono ?_
  rintro e w1 ⟨rfl, hf⟩
  have G1 := hid hf
  clear hf
  go_wp2_with fail
  refine (made8_calls n A1 ln1 cp1 ch w1 hn (HC.out.fr G1.out) b1).mono ?_
  rintro e w2 ⟨Lg, b, rfl, hf, hm, hr, hbb, hgo⟩
  have hgn := ((Gr.zero (1 + n % 24) 64).steps_n ch (min ln1 150)).1
  have hgw := Gr.steps_wt (1 + n % 24) 64 ch (min ln1 150)
  obtain ⟨G, hG⟩ : ∃ G, (Gr.zero (1 + n % 24) 64).steps ch (min ln1 150) = G := ⟨_, rfl⟩
  rw [hG] at hm hr hgn hgw
  have hgn' : 1 + n % 24 = G.n := hgn.symm
  rw [hgn'] at HD HI hgo
  have HOWN : Hid (∀ j, Lg.own G.n j → W.heap.size ≤ j ∧ j < w2.heap.size ∧ j ≠ b) := hid fun j hj => ⟨by have := (hgo j hj).1; have := G1.out.size; omega, hm.own_lt hj, (hgo j hj).2⟩
  have HG := hid hm
  have HRG := hid hr
  have HGW := hid hgw
  have G2 := hid (G1.out.trans hf)
  have hb2 : b < w2.heap.size := Blk.lt hr
  clear hf hm hr hG hgw hgn hgo
  go_wp2_with fail
  refine (rank_law_calls n num w2 hn hnum).mono ?_
  rintro e w3 ⟨br, rfl, hf, hbr, hblk⟩
  rw [hgn'] at hblk ⊢
  have HB := hid hblk
  have HG3 := hid (HG.out.no hf)
  have HRG3 := hid (HRG.out.no hf)
  have G3 := hid (G2.out.trans hf)
  have hs3 := hf.size
  have hx0 := Ix.new_ok (show 0 < G.n by omega) HD.out HI.out.1 HI.out.2
  have HX0 := hid hx0
  have lbr : br < w3.heap.size := Blk.lt hblk
  clear hf hblk HG HRG hx0
  go_wp2_with fail
  refine (knew_calls (some ⟨br, 0, none⟩) G.n G.n (fun i => ((rankOf G.n num i : Nat) : Int)) (fun _ => ⟨br, 0, rfl, fun j hj => by rw [Nat.zero_add]; exact HB.out.cell hj⟩) (by omega) HD.out g HI.out.1 HI.out.2 (HN.out.fr G3.out (fun h => h)) (HT.out.no G3.out)).mono ?_
  rintro e w4 ⟨k, rfl, hf, hk, hfrom⟩
  have HFROM := hid hfrom
  have HG4 := hid (HG3.out.no hf)
  have HRG4 := hid (HRG3.out.no hf)
  have HB4 := hid (HB.out.fr hf (fun h => h))
  have G4 := hid (G3.out.trans hf)
  have hs4 := hf.size
  have hfr0 : Frsh ⟨Ix.new G.n (fun i => ((rankOf G.n num i : Nat) : Int)) g, fun z => decide (z < G.n)⟩ 0 := Frsh.new _ _
  obtain ⟨K, hK⟩ : ∃ K : Kp, (⟨Ix.new G.n (fun i => ((rankOf G.n num i : Nat) : Int)) g, fun z => decide (z < G.n)⟩ : Kp) = K := ⟨_, rfl⟩
  have hkx : K.x = Ix.new G.n (fun i => ((rankOf G.n num i : Nat) : Int)) g := by rw [← hK]
  rw [hK] at hk hfr0
  have hkn : K.x.n = G.n := by rw [hkx]; rfl
  have HK4 := hid hk
  have HFR0 := hid hfr0
  have HKX := hid hkx
  have HKN := hid hkn
  have HKL : Hid (k.Q.b < w4.heap.size ∧ k.L.b < w4.heap.size) := hid ⟨hk.q.lt, hk.x.lt⟩
  clear hf hk hfrom hfr0 hK hkx hkn HG3 HRG3 HB
  go_wp2_with fail
  refine (build_calls HG4.out (some ⟨br, 0, none⟩) G.n (fun i => ((rankOf G.n num i : Nat) : Int)) (fun _ => ⟨br, 0, rfl, fun j hj => by rw [Nat.zero_add]; exact HB4.out.cell hj⟩) HD.out g HI.out.1 HI.out.2 (HN.out.fr G4.out (fun h => h))).mono ?_
  rintro e w5 ⟨Lx, rfl, hf, hx, hx1, hx2, hx3, hcx⟩
  obtain ⟨hbt, hbf⟩ := HFR0.out.built HGW.out HX0.out HKX.out HK4.out.ok
  have hca := HFR0.out.came_all HGW.out HK4.out.ok
  obtain ⟨_, hlen, hall⟩ := Frsh.run HGW.out K.x.n HFR0.out HK4.out.ok (by omega)
  rw [HKN.out] at hbt hbf hca hlen hall
  obtain ⟨x, hX⟩ : ∃ x, (Ix.new G.n (fun i => ((rankOf G.n num i : Nat) : Int)) g).build G = x := ⟨_, rfl⟩
  have hxn : x.n = G.n := by rw [← hX]; exact Ix.build_n _ _
  rw [hX] at hx hbt
  rw [hbt] at hca
  have HXB := hid hX
  have HX5 := hid hx
  have HK5 := hid (HK4.out.no hf)
  have HG5 := hid (HG4.out.no hf)
  have HRG5 := hid (HRG4.out.no hf)
  have HB5 := hid (HB4.out.fr hf (fun h => h))
  have G5 := hid (G4.out.trans hf)
  have HXN := hid hxn
  have cn := HRG5.out.c0
  have HBT := hid hbt
  have HBF := hid hbf
  have HCA := hid hca
  have HLEN := hid hlen
  have HALL := hid hall
  clear hf hx hX hxn hbt hbf hca hlen hall HK4 HG4 HRG4 HB4 hcx
  have hsep : ∀ j, Lg.own G.n j → ¬ k.own j := fun j hj ha => by
    have h1 := (HOWN.out j hj).2.1
    obtain ⟨f1, f2, f3, f4, f5, f6, f7⟩ := HFROM.out
    rcases ha with e | e <;> omega
  have HKW : Hid (∀ j, k.own j → w3.heap.size ≤ j ∧ j < w4.heap.size) := hid fun j hj => by
    obtain ⟨f1, f2, f3, f4, f5, f6, f7⟩ := HFROM.out
    have := HKL.out
    rcases hj with e | e <;> omega
  have HSEP := hid hsep
  have hsW := G3.out.size
  clear hsep
  go_wp2_with fail
  refine (krun_calls HK5.out HG5.out HGW.out HSEP.out (G.n : Nat)).mono ?_
  rintro e w6 ⟨v, rfl, hown, _, hf, hk⟩
  rw [Int.toNat_natCast] at hown hk
  obtain ⟨l, hl⟩ : ∃ l, Kp.wks G G.n K = l := ⟨_, rfl⟩
  rw [hl] at hown HLEN HALL HCA
  obtain ⟨bs, os, cs, rfl, hbs, _, hat⟩ := own_wks hown (by rw [HLEN.out]; omega)
  rw [HLEN.out]
  have HAT := hid hat
  have HK6 := hid hk
  have HRG6 := hid (HRG5.out.fr hf (fun h => by have := (HKW.out _ h).1; omega))
  have HX6 := hid (HX5.out.fr hf (fun h => by have := (HKW.out _ h).2; omega) (fun h => by have := (HKW.out _ h).2; omega) (fun h => by have := (HKW.out _ h).2; omega) (fun h => by have := (HKW.out _ h).1; have := HN.out.lt; omega))
  have HB6 := hid (HB5.out.fr hf (fun h => by have := (HKW.out _ h).1; omega))
  have G6 := hid (G5.out.trans' hf (fun j hj h => by have := (HKW.out j h).1; omega))
  clear hown hf hk hl hat cn HK5 HG5 HRG5 HX5 HB5
  have hn24 : G.n ≤ 24 := by omega
  have hlk : (x.lks G.n).length ≤ 576 := by
    have h1 := x.lks_len G.n
    rw [HXN.out] at h1
    have : G.n * G.n ≤ 24 * 24 := Nat.mul_le_mul hn24 hn24
    omega
  go_wp2
  go_loopg [15, 16] G.n (fun gk p q wr => ∃ j : Nat, p = .int .i64 (sumN (fun i => (l.getD i wrk0).c) j : Nat) ∧ q = .int .i64 j ∧ j ≤ G.n ∧ gk = G.n - j ∧ Fr No w6 wr)
  case atStart => exact ⟨0, rfl, rfl, Nat.zero_le _, rfl, Fr.refl _ _⟩
  case round =>
    obtain ⟨j, rfl, rfl, hj, hgk, hf⟩ := hrel
    have HF := hid hf
    have HGK := hid hgk
    clear hf hgk
    by_cases hlt : j < G.n
    · have hlt2 : (j : Int) < G.n := by omega
      obtain ⟨p0, p1, p2, p3, p4⟩ := (HAT.out.fr HF.out (fun h => h)) j (by rw [HLEN.out]; exact hlt)
      obtain ⟨k1, k2, k3⟩ := HALL.out (l.getD j wrk0) (by
        have hjl : j < l.length := by rw [HLEN.out]; exact hlt
        have : l.getD j wrk0 = l[j] := by simp [List.getD, hjl]
        rw [this]; exact List.getElem_mem hjl)
      have hnum0 : numOf (fun z => (l.getD j wrk0).m z = true) = 0 := (SetOf.nil (fun z h => by rw [k3 z] at h; cases h)).num
      rw [k1] at p2
      rw [k2] at p3
      rw [hnum0] at p4
      have hsum : sumN (fun i => (l.getD i wrk0).c) (j + 1) = sumN (fun i => (l.getD i wrk0).c) j + (l.getD j wrk0).c := rfl
      have hle : sumN (fun i => (l.getD i wrk0).c) (j + 1) ≤ 576 := by
        have h1 := sumN_le'' (fun i => (l.getD i wrk0).c) G.n (j + 1) (by omega)
        rw [HCA.out] at h1
        omega
      obtain ⟨s0, hs0⟩ : ∃ s, sumN (fun i => (l.getD i wrk0).c) j = s := ⟨_, rfl⟩
      obtain ⟨c0, hc0⟩ : ∃ c, (l.getD j wrk0).c = c := ⟨_, rfl⟩
      rw [hs0, hc0] at hsum
      rw [hsum] at hle
      rw [hc0] at p1
      rw [hs0]
      have HSUM := hid hsum
      clear k1 k2 k3 hnum0 hsum hs0 hc0
      go_wp2
      go_roundg (G.n - (j + 1))
      case measure => have := HGK.out; omega
      case rel => exact ⟨j + 1, by rw [HSUM.out]; go_num, by go_num, by omega, rfl, HF.out⟩
    · have e : j = G.n := by omega
      subst e
      rw [HCA.out]
      have HK7 := hid (HK6.out.no HF.out)
      have HX7 := hid (HX6.out.no HF.out)
      have HRG7 := hid (HRG6.out.no HF.out)
      have HB7 := hid (HB6.out.fr HF.out (fun h => h))
      have G7 := hid (G6.out.trans HF.out)
      have cn := HRG7.out.c0
      clear HK6 HX6 HRG6 HB6 G6 HF
      go_wp2_with fail
      refine (kindex_calls HK7.out).mono ?_
      rintro e w8 ⟨C, rfl, hf, hcx, _, _, _, _, _, _⟩
      rw [HBT.out] at hcx
      have HC8 := hid hcx
      have HK8 := hid (HK7.out.no hf)
      have HX8 := hid (HX7.out.no hf)
      have HRG8 := hid (HRG7.out.no hf)
      have HB8 := hid (HB7.out.fr hf (fun h => h))
      have G8 := hid (G7.out.trans hf)
      have cn := hf.cell_some cn (fun h => h)
      clear hf hcx HK7 HX7 HRG7 HB7
      go_wp2_with fail
      refine (isame_calls HC8.out HX8.out rfl rfl).mono ?_
      rintro e w9 ⟨r, rfl, hr, hf⟩
      obtain rfl : r = true := hr.2 (fun _ _ => rfl)
      have HC9 := hid (HC8.out.no hf)
      have HK9 := hid (HK8.out.no hf)
      have HX9 := hid (HX8.out.no hf)
      have HRG9 := hid (HRG8.out.no hf)
      have HB9 := hid (HB8.out.fr hf (fun h => h))
      have G9 := hid (G8.out.trans hf)
      clear hf hr cn HC8 HK8 HX8 HRG8 HB8
      go_wp2_with fail
      refine (links_calls HX9.out).mono ?_
      rintro e w10 ⟨Al, cl, rfl, hf, _⟩
      rw [HXN.out]
      have HC10 := hid (HC9.out.no hf)
      have HK10 := hid (HK9.out.no hf)
      have HRG10 := hid (HRG9.out.no hf)
      have HB10 := hid (HB9.out.fr hf (fun h => h))
      have G10 := hid (G9.out.trans hf)
      clear hf HC9 HK9 HX9 HRG9 HB9
      go_wp2_with fail
      refine (kdirty_calls HK10.out).mono ?_
      rintro e w11 ⟨t, rfl, ht, hf⟩
      obtain rfl := HK10.out.ok.dirty0 (by rw [HBF.out, HBT.out, HXN.out]) ht
      have HC11 := hid (HC10.out.no hf)
      have HRG11 := hid (HRG10.out.no hf)
      have HB11 := hid (HB10.out.fr hf (fun h => h))
      have G11 := hid (G10.out.trans hf)
      clear hf ht HC10 HK10 HRG10 HB10
      go_wp2_with fail
      refine (rbuild_calls HRG11.out (by omega) hn24 HGW.out br 0 G.n (fun i => ((rankOf G.n num i : Nat) : Int)) (fun j hj => by rw [Nat.zero_add]; exact HB11.out.cell hj) HD.out g HI.out.1 HI.out.2).mono ?_
      rintro e w12 ⟨R, rfl, hf, hR, _, _⟩
      rw [HXB.out] at hR
      have HC12 := hid (HC11.out.no hf)
      have HR12 := hid hR
      have G12 := hid (G11.out.trans hf)
      clear hf hR HC11 HRG11 HB11
      go_wp2_with fail
      refine (same_calls HC12.out HR12.out).mono ?_
      rintro e w13 ⟨rfl, hf⟩
      have F := hid (G12.out.trans hf)
      clear hf
      go_wp2
      go_ret
      exact ⟨rfl, F.out⟩

end Go.Proofs.YtoepbhacpidcbaaGreatDoor
