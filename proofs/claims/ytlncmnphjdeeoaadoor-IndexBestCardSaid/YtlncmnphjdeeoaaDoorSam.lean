/- The document's 'Low' and 'By'; the law's 'Same': all answers of both indices agree; walked. -/
import Derived.Test.YtlncmnphjdeeoaaDoorMade
import Derived.Test.YtlncmnphjdeeoaaDoorEq
import Derived.Test.YtlncmnphjdeeoaaDoorUnA
set_option linter.unusedVariables false
set_option linter.unusedSimpArgs false
namespace Go.Proofs.YtlncmnphjdeeoaaDoor
open Go.RowKit Go.Deep
attribute [local go_sem high] run_eql_en run_neq_en

set_option maxRecDepth 100000 in
set_option maxHeartbeats 1000000 in
theorem rlow_calls {w : World} {R : RxLoc} {x : Ix} (h : RxMem w R x) (u v : Int) :
    Calls Tryd.prog 74 #[.pointer (some ⟨R.b, 0, none⟩), .int .i64 u, .int .i64 v] w fun e w' => e = .returned (.int .i64 (x.low u v)) ∧ Fr No w w' := by
  cases ht : x.two u v with
  | false =>
    have e : x.low u v = -1 := by simp [Ix.low, ht]
    rw [e]
    have HT := hid ht
    clear ht e
    go_enter Tryd.func74, Tryd.ntmps74
    go_wp2_with (go_at_call 34; refine (rtwo_calls h _ _).mono ?_; rintro e w' ⟨rfl, rfl⟩; rw [HT.out])
    go_ret
    exact ⟨rfl, Fr.refl _ _⟩
  | true =>
    obtain ⟨hne, h1, h2, h3, h4⟩ := two_iff ht
    obtain ⟨a, rfl⟩ := Int.eq_ofNat_of_zero_le h1
    obtain ⟨b, rfl⟩ := Int.eq_ofNat_of_zero_le h3
    have ha : a < x.n := by omega
    have hb : b < x.n := by omega
    have e : x.low a b = if x.rk a < x.rk b then (a : Int) else b := by simp [Ix.low, ht]
    have c0 := h.c0
    have r1 := h.rk a ha
    have r2 := h.rk b hb
    have HT := hid ht
    have HE := hid e
    clear ht e hne
    rcases Nat.lt_or_ge (x.rk a) (x.rk b) with hC | hC
    · go_enter Tryd.func74, Tryd.ntmps74
      go_wp2_with (go_at_call 34; refine (rtwo_calls h _ _).mono ?_; rintro e w' ⟨rfl, rfl⟩; rw [HT.out])
      go_quiet (fail)
      go_wp2
      go_ret
      exact ⟨ret_int (by rw [HE.out, if_pos hC]), (Fr.refl _ _).drewN _⟩
    · go_enter Tryd.func74, Tryd.ntmps74
      go_wp2_with (go_at_call 34; refine (rtwo_calls h _ _).mono ?_; rintro e w' ⟨rfl, rfl⟩; rw [HT.out])
      go_quiet (fail)
      go_wp2
      go_ret
      exact ⟨ret_int (by rw [HE.out, if_neg (by omega)]), (Fr.refl _ _).drewN _⟩

theorem Ix.Ok.by_spec {x : Ix} (h : x.Ok) (r : Int) (v : Nat) (hv : v < x.n) (e : (x.rk v : Int) = r) : x.byr r = v := by
  have h1 := h.rk v hv
  have : r.toNat = x.rk v := by omega
  unfold Ix.byr
  rw [if_pos ⟨by omega, by omega⟩, this, h1.2]
theorem Ix.Ok.by_none {x : Ix} (h : x.Ok) (r : Int) (hn : ∀ v, v < x.n → (x.rk v : Int) ≠ r) : x.byr r = -1 := by
  unfold Ix.byr
  rw [if_neg]
  rintro ⟨h1, h2⟩
  have := h.by_ r.toNat (by omega)
  exact hn _ this.1 (by omega)

set_option maxRecDepth 100000 in
set_option maxHeartbeats 1000000 in
theorem rby_calls {w : World} {R : RxLoc} {x : Ix} (h : RxMem w R x) (r : Int) :
    Calls Tryd.prog 64 #[.pointer (some ⟨R.b, 0, none⟩), .int .i64 r] w fun e w' => e = .returned (.int .i64 (x.byr r)) ∧ Fr No w w' := by
  have H := hid h
  have hn := h.ok.n2
  clear h
  go_enter Tryd.func64, Tryd.ntmps64
  go_wp2
  go_loopg [5] x.n (fun g p wr => ∃ i : Nat, p = .int .i64 i ∧ i ≤ x.n ∧ g = x.n - i ∧ wr = w ∧ ∀ v, v < i → (x.rk v : Int) ≠ r)
  case atStart => exact ⟨0, rfl, Nat.zero_le _, rfl, rfl, fun v hv => by omega⟩
  case round =>
    obtain ⟨i, rfl, hi, hg, rfl, ha⟩ := hrel
    have HG := hid hg
    have HA := hid ha
    have c0 := H.out.c0
    clear hg ha
    by_cases hlt : i < x.n
    · have r1 := H.out.rk i hlt
      have hlt2 : (i : Int) < x.n := by omega
      by_cases he : (x.rk i : Int) = r
      · have hb := H.out.ok.by_spec r i hlt he
        have HB := hid hb
        have he2 : ((x.rk i : Int) == r) = true := by simpa using he
        clear hb he
        go_wp2
        go_ret
        exact ⟨ret_int HB.out.symm, Fr.refl _ _⟩
      · have he2 : ((x.rk i : Int) == r) = false := by simpa using he
        have HE := hid he
        clear he
        go_wp2
        go_roundg (x.n - (i + 1))
        case measure => have := HG.out; omega
        case rel =>
          refine ⟨i + 1, by go_num, hlt, rfl, rfl, fun v hv => ?_⟩
          rcases Nat.lt_or_ge v i with h1 | h1
          · exact HA.out v h1
          · obtain rfl : v = i := by omega
            exact HE.out
    · have e : i = x.n := by omega
      subst e
      have hb := H.out.ok.by_none r HA.out
      have HB := hid hb
      clear hb
      go_wp2
      go_ret
      exact ⟨ret_int HB.out.symm, Fr.refl _ _⟩

end Go.Proofs.YtlncmnphjdeeoaaDoor

/- The law's 'Same': all answers of both indices agree; walked. -/
set_option linter.unusedVariables false
set_option linter.unusedSimpArgs false
namespace Go.Proofs.YtlncmnphjdeeoaaDoor
open Go.RowKit Go.Deep
theorem eq3_self (a b c : Int) : eq3 a b c a b c = true := by simp [eq3]
attribute [local go_sem high] run_eql_en run_neq_en eq3_self

set_option maxRecDepth 100000 in
set_option maxHeartbeats 400000 in
theorem vertices_calls {w : World} {L : IxLoc} {x : Ix} (h : IxMem w L x) :
    Calls Tryd.prog 41 #[.pointer (some ⟨L.b, 0, none⟩)] w fun e w' => e = .returned (.int .i64 (x.n : Nat)) ∧ Fr No w w' := by
  have c0 := h.c0
  go_enter Tryd.func41, Tryd.ntmps41
  go_wp2
  go_ret
  exact ⟨rfl, Fr.refl _ _⟩

set_option maxRecDepth 100000 in
set_option maxHeartbeats 4000000 in
theorem same_calls {x : Ix} {w : World} {L : IxLoc} {R : RxLoc} (h : IxMem w L x) (hr : RxMem w R x) :
    Calls Tryd.prog 31 #[.pointer (some ⟨L.b, 0, none⟩), .pointer (some ⟨R.b, 0, none⟩)] w fun e w' => e = .returned (.bool true) ∧ Fr No w w' := by
  have hn := h.ok.n2
  have hn1 := h.ok.n1
  have H := hid h
  have HR := hid hr
  clear h hr
  go_enter Tryd.func31, Tryd.ntmps31
  go_wp2
  go_loopg [5] (x.n + 2) (fun g p wr => ∃ u : Int, p = .int .i64 u ∧ -1 ≤ u ∧ u ≤ x.n + 1 ∧ g = (x.n + 1 - u).toNat ∧ Fr No w wr)
  case atStart => exact ⟨-1, rfl, by omega, by omega, by omega, Fr.refl _ _⟩
  case round =>
    obtain ⟨u, rfl, hu1, hu2, hg, hf⟩ := hrel
    have HG := hid hg
    have HF := hid hf
    have c0 := (HR.out.no hf).c0
    clear hg hf
    obtain ⟨wo, rfl⟩ : ∃ wo : World, wo = wr := ⟨_, rfl⟩
    by_cases hlt : u ≤ x.n
    · go_wp2
      clear c0
      go_loopg [6] (x.n + 2) (fun g p wr => ∃ v : Int, p = .int .i64 v ∧ -1 ≤ v ∧ v ≤ x.n + 1 ∧ g = (x.n + 1 - v).toNat ∧ Fr No w wr)
      case atStart => exact ⟨-1, rfl, by omega, by omega, by omega, HF.out⟩
      case round =>
        obtain ⟨v, rfl, hv1, hv2, hg2, hf⟩ := hrel
        clear HF
        have HG2 := hid hg2
        have HF := hid hf
        have c0 := (HR.out.no hf).c0
        clear hg2 hf
        by_cases hlt2 : v ≤ x.n
        · go_wp2_with fail
          clear c0
          refine (at_calls (H.out.no HF.out) u v).mono ?_
          rintro e w1 ⟨rfl, hf1⟩
          obtain ⟨y, hy⟩ : ∃ y, x.at_ u v = y := ⟨_, rfl⟩
          have HY := hid hy
          rw [hy]
          obtain ⟨e0, e1, e2⟩ := y
          simp only [En.val]
          have HF1 := hid (HF.out.trans hf1)
          clear hf1 hy HF
          go_wp2_with fail
          refine (rat_calls (HR.out.no HF1.out) u v).mono ?_
          rintro e w2 ⟨rfl, hf2⟩
          rw [HY.out]
          simp only [En.val]
          have HF2 := hid (HF1.out.trans hf2)
          clear hf2 HF1
          go_wp2_with fail
          refine (low_calls (H.out.no HF2.out) u v).mono ?_
          rintro e w3 ⟨rfl, k3, rfl⟩
          have HF3 := hid (HF2.out.drewN k3)
          go_wp2_with fail
          refine (rlow_calls (HR.out.no HF3.out) u v).mono ?_
          rintro e w4 ⟨rfl, hf4⟩
          have HF4 := hid (HF3.out.trans hf4)
          clear hf4
          go_wp2
          go_roundg (x.n + 1 - (v + 1)).toNat
          case measure => have := HG2.out; omega
          case rel => exact ⟨v + 1, by go_num, by omega, by omega, rfl, HF4.out⟩
        · go_wp2_with fail
          clear c0
          refine (rvertex_calls (HR.out.no HF.out) u).mono ?_
          rintro e w1 ⟨rfl, rfl⟩
          by_cases hv : 0 ≤ u ∧ u < x.n
          · obtain ⟨a, rfl⟩ := Int.eq_ofNat_of_zero_le hv.1
            have ha : a < x.n := by omega
            have hvt : x.vertex (a : Nat) = true := by unfold Ix.vertex; simp; omega
            have c0 := (HR.out.no HF.out).c0
            have r1 := (HR.out.no HF.out).rk a ha
            have hra : x.rank (a : Nat) = x.rk a := by unfold Ix.rank; rw [if_pos ⟨by omega, by omega⟩]; simp
            have HRA := hid hra
            have ha2 : (a : Int) < x.n := by omega
            rw [hvt]
            clear hvt hra hv
            go_wp2_with fail
            refine (rank_calls (H.out.no HF.out) (a : Nat)).mono ?_
            rintro e w1 ⟨rfl, rfl⟩
            rw [HRA.out]
            go_wp2_with fail
            refine (by_calls (H.out.no HF.out) (a : Nat)).mono ?_
            rintro e w1 ⟨rfl, rfl⟩
            go_wp2_with fail
            refine (rby_calls (HR.out.no HF.out) (a : Nat)).mono ?_
            rintro e w1 ⟨rfl, hf1⟩
            go_wp2
            go_roundg (x.n + 1 - ((a : Int) + 1)).toNat
            case measure => have := HG.out; omega
            case rel => exact ⟨(a : Int) + 1, by go_num, by omega, by omega, rfl, HF.out.trans hf1⟩
          · have hvt : x.vertex u = false := by unfold Ix.vertex; simp; omega
            have hra : x.rank u = -1 := by unfold Ix.rank; rw [if_neg hv]
            have HRA := hid hra
            rw [hvt]
            clear hvt hra hv
            go_wp2_with fail
            refine (rank_calls (H.out.no HF.out) u).mono ?_
            rintro e w1 ⟨rfl, rfl⟩
            rw [HRA.out]
            go_wp2_with fail
            refine (by_calls (H.out.no HF.out) u).mono ?_
            rintro e w1 ⟨rfl, rfl⟩
            go_wp2_with fail
            refine (rby_calls (HR.out.no HF.out) u).mono ?_
            rintro e w1 ⟨rfl, hf1⟩
            go_wp2
            go_roundg (x.n + 1 - (u + 1)).toNat
            case measure => have := HG.out; omega
            case rel => exact ⟨u + 1, by go_num, by omega, by omega, rfl, HF.out.trans hf1⟩
    · go_wp2_with fail
      go_region_with (go_at_call 41; refine (vertices_calls (x := x) (L := L) ?_).mono ?_; exact H.out.no HF.out.drew; rintro e w1 ⟨rfl, hf1⟩; (have HF1 := hid (HF.out.drew.trans hf1)); (have d0 := (HR.out.no HF1.out).c0); clear hf1)
      all_goals go_wp2
      all_goals go_ret
      all_goals exact ⟨rfl, HF1.out⟩

end Go.Proofs.YtlncmnphjdeeoaaDoor
