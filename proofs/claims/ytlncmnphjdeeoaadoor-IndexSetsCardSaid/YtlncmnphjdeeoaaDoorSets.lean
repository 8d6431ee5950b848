/- The law of setting: whatever entries are set, in an index of any list, all answers are the document's; walked. -/
import Derived.Test.YtlncmnphjdeeoaaDoorRMay
import Derived.Test.YtlncmnphjdeeoaaDoorAway
set_option linter.unusedVariables false
set_option linter.unusedSimpArgs false
namespace Go.Proofs.YtlncmnphjdeeoaaDoor
open Go.RowKit Go.Deep

set_option maxRecDepth 100000 in
set_option maxHeartbeats 4000000 in
theorem sets_law (A : Option Addr) (n cp : Nat) (f : Nat → Int) (B : Option Addr) (ln cpb : Nat) (lk : Nat → Lk) (w : World) (ha : IntsF w A n f) (hn : n ≤ 140737488351232) (hl : LinksF w B ln lk) (hln : ln ≤ 140737488351232) (hN : NoneVar w) :
    Calls Tryd.prog 6 #[.slice A n cp, .slice B ln cpb] w fun e w' => e = .returned (.bool true) ∧ Fr No w w' := by
  have HN := hid hN
  have HL := hid hl
  have HA := hid ha
  clear hN hl ha
  go_enter Tryd.func6, Tryd.ntmps6
  go_wp2_with fail
  refine (awake15_calls w HN.out).mono ?_
  rintro e w1 ⟨rfl, hf⟩
  have HN1 := hid (HN.out.fr hf (fun h => h))
  have HL1 := hid (LinksF.fr HL.out hf)
  have HA1 := hid (IntsF.fr HA.out hf)
  have G1 := hid hf
  clear hf
  by_cases hm : 100 < n
  · go_wp2
    go_ret
    exact ⟨rfl, G1.out⟩
  · by_cases hp : 0 < n ∧ PermF n f
    · obtain ⟨h0, hd⟩ := hp
      obtain ⟨b, off, rfl, hc⟩ := HA1.out h0
      obtain ⟨g, hg1, hg2⟩ := hd.inv
      have HC := hid hc
      have HP := hid hd
      have HG1 := hid hg1
      have HG2 := hid hg2
      clear hc hd hg1 hg2
      go_wp2_with fail
      refine (new_yes _ n cp f w1 HA1.out h0 HP.out g HG1.out HG2.out HN1.out).mono ?_
      rintro e w2 ⟨L, rfl, hf, hx, hl1, hl2, hl3, _⟩
      have HX2 := hid hx
      have HA2 := hid (IntsF.fr HA1.out hf)
      have HC2 := hid (fun j hj => hf.cell_some (HC.out j hj) (fun h => h) : ∀ j, j < n → w2.cell? ⟨b, off + j, none⟩ = some (.int .i64 (f j)))
      have G2 := hid (G1.out.trans hf)
      clear hf hx
      go_wp2_with fail
      refine (rmay_calls _ n cp f w2 HA2.out (by omega) true (by simpa using ⟨h0, HP.out⟩)).mono ?_
      rintro e w3 ⟨rfl, hf⟩
      have HX3 := hid (HX2.out.no hf)
      have HC3 := hid (fun j hj => hf.cell_some (HC2.out j hj) (fun h => h) : ∀ j, j < n → w3.cell? ⟨b, off + j, none⟩ = some (.int .i64 (f j)))
      have G3 := hid (G2.out.trans hf)
      clear hf
      go_wp2_with fail
      refine (rnew_calls b off n cp f w3 HC3.out h0 HP.out g HG1.out HG2.out).mono ?_
      rintro e w4 ⟨R, rfl, hf, hr, hl4, hl5⟩
      have p1 := HX3.out.lt
      have p2 := HX3.out.hr.1
      have p3 := HX3.out.hb.1
      have g0 := HX3.out.gn.lt
      have p4 : 0 ≠ R.b := by omega
      have p5 : 0 ≠ R.br := by omega
      have p6 := G1.out.size
      have HX4 := hid (HX3.out.no hf)
      have HR4 := hid hr
      have G4 := hid (G3.out.trans hf)
      clear hf hr
      obtain ⟨X, hX⟩ : ∃ X, X = Ix.new n f g := ⟨_, rfl⟩
      rw [← hX] at HX4 HR4
      have p7 : w.heap.size ≤ L.b := by omega
      have p8 : w.heap.size ≤ R.b := by omega
      go_wp2
      go_loopg [8] ln (fun g p wr => ∃ k : Nat, p = .int .i64 k ∧ k ≤ ln ∧ k ≤ 300 ∧ g = ln - k ∧ Fr No w wr ∧ IxMem wr L (X.sets lk k) ∧ RxMem wr R (X.sets lk k))
      case atStart => exact ⟨0, rfl, Nat.zero_le _, Nat.zero_le _, rfl, G4.out, HX4.out, HR4.out⟩
      case round =>
        obtain ⟨k, rfl, hk, hk3, hg, hf, hx, hr⟩ := hrel
        have HF := hid hf
        have HX := hid hx
        have HR := hid hr
        have HG := hid hg
        clear hf hx hr hg HX2 HX3 HX4 HR4 HC2 HC3 HA2
        by_cases hlt : k < ln
        · by_cases hlt3 : k < 300
          · obtain ⟨bl, ol, rfl, hc⟩ := HL.out (by omega)
            have HC := hid (hc k hlt)
            obtain ⟨c0, c1, c2, c3, c4⟩ := HC.out.fr HF.out (fun h => h)
            have hlt4 : (k : Int) < ln := by omega
            clear hc
            obtain ⟨⟨lt, lh, ⟨e0, e1, e2⟩⟩, hlk⟩ : ∃ y, lk k = y := ⟨_, rfl⟩
            have HLK := hid hlk
            rw [hlk] at c0 c1 c2 c3 c4
            rw [hlk] at HC
            have hst : X.sets lk (k + 1) = (X.sets lk k).setI (lk k).t (lk k).h (lk k).e := rfl
            rw [hlk] at hst
            have HST := hid hst
            obtain ⟨Y, hY⟩ : ∃ Y, X.sets lk k = Y := ⟨_, rfl⟩
            rw [hY] at HX HR HST
            clear hlk hst hY
            go_wp2_with fail
            go_region_held3 (fun w' => w'.cell? ⟨bl, ol + k * 5, none⟩ = some (.int .i64 lt) ∧ w'.cell? ⟨bl, ol + k * 5 + 1, none⟩ = some (.int .i64 lh) ∧ w'.cell? ⟨bl, ol + k * 5 + 2, none⟩ = some (.int .i64 e0) ∧ w'.cell? ⟨bl, ol + k * 5 + 2 + 1, none⟩ = some (.int .i64 e1) ∧ w'.cell? ⟨bl, ol + k * 5 + 2 + 2, none⟩ = some (.int .i64 e2)) (go_keep)
              (first
              | (go_at_call 29; refine (set_calls (x := Y) (L := L) ?_ lt lh ⟨e0, e1, e2⟩).mono ?_; (first | exact HX.out.drew | exact HXB.out); rintro e w6 ⟨rfl, hx6, hf6⟩; (have HXA := hid hx6); (have HFA := hid (show Fr No w w6 from by first | exact fr_sub HF.out.drew hf6 p7 | exact fr_sub HFB.out hf6 p7)); (have HRA := hid (show RxMem w6 R _ from by first | exact HR.out.drew.fr hf6 (fun (h : R.b = L.b) => by omega) (fun (h : R.br = L.b) => by omega) | exact HRB.out.fr hf6 (fun (h : R.b = L.b) => by omega) (fun (h : R.br = L.b) => by omega))); (obtain ⟨d0, d1, d2, d3, d4⟩ := HC.out.fr HFA.out (fun h => h)); (clear hx6 hf6))
              | (go_at_call 30; refine (rset_calls (x := Y) (L := R) ?_ lt lh ⟨e0, e1, e2⟩).mono ?_; (first | exact HR.out.drew | exact HRA.out); rintro e w7 ⟨rfl, hr7, hf7⟩; (have HRB := hid hr7); (have HFB := hid (show Fr No w w7 from by first | exact fr_sub HF.out.drew hf7 p8 | exact fr_sub HFA.out hf7 p8)); (have HXB := hid (show IxMem w7 L _ from by first | exact HX.out.drew.fr hf7 (fun (h : L.b = R.b) => by omega) (fun (h : L.br = R.b) => by omega) (fun (h : L.bb = R.b) => by omega) (fun h => p4 h) | exact HXA.out.fr hf7 (fun (h : L.b = R.b) => by omega) (fun (h : L.br = R.b) => by omega) (fun (h : L.bb = R.b) => by omega) (fun h => p4 h))); (obtain ⟨d0, d1, d2, d3, d4⟩ := HC.out.fr HFB.out (fun h => h)); (clear hr7 hf7)))
            all_goals go_wp2
            all_goals go_roundg (ln - (k + 1))
            all_goals first
              | (have := HG.out; omega)
              | exact ⟨k + 1, by go_num, hlt, hlt3, rfl, HFB.out, by rw [HST.out]; exact HXB.out, by rw [HST.out]; exact HRB.out⟩
              | exact ⟨k + 1, by go_num, hlt, hlt3, rfl, HFA.out, by rw [HST.out]; exact HXA.out, by rw [HST.out]; exact HRA.out⟩
          · have HE := hid (show k = min ln 300 by omega)
            go_wp2_with fail
            refine (same_calls HX.out HR.out).mono ?_
            rintro e w6 ⟨rfl, hf⟩
            go_wp2
            go_ret
            exact ⟨rfl, HF.out.trans hf⟩
        · go_wp2_with fail
          refine (same_calls HX.out HR.out).mono ?_
          rintro e w6 ⟨rfl, hf⟩
          go_wp2
          go_ret
          exact ⟨rfl, HF.out.trans hf⟩
    · have HP := hid hp
      clear hp
      go_wp2_with fail
      refine (new_no _ n cp f w1 HA1.out (by omega) HP.out).mono ?_
      rintro e w2 ⟨rfl, hf⟩
      have HA2 := hid (IntsF.fr HA1.out hf)
      have G2 := hid (G1.out.trans hf)
      clear hf
      go_wp2_with fail
      refine (rmay_calls _ n cp f w2 HA2.out (by omega) false (by simpa using HP.out)).mono ?_
      rintro e w3 ⟨rfl, hf⟩
      have G3 := hid (G2.out.trans hf)
      clear hf
      go_wp2
      go_ret
      exact ⟨rfl, G3.out⟩

end Go.Proofs.YtlncmnphjdeeoaaDoor
