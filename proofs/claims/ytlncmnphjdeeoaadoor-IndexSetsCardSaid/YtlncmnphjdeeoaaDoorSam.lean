/- The document's 'Low' and 'By'; the law's 'Same': all answers of both indices agree; walked. -/
import Derived.Test.YtlncmnphjdeeoaaDoorMade
import Derived.Test.YtlncmnphjdeeoaaDoorEq
import Derived.Test.YtlncmnphjdeeoaaDoorUnD
set_option linter.unusedVariables false
set_option linter.unusedSimpArgs false
namespace Go.Proofs.YtlncmnphjdeeoaaDoor
open Go.RowKit Go.Deep
attribute [local go_sem high] run_eql_en run_neq_en

set_option maxRecDepth 100000 in
set_option maxHeartbeats 1000000 in
theorem rlow_calls {w : World} {R : RxLoc} {x : Ix} (h : RxMem w R x) (u v : Int) :
    Calls Tryd.prog 74 #[.pointer (some ⟨R.b, 0, none⟩), .int .i64 u, .int .i64 v] w fun e w' => e = .returned (.int .i64 (x.low u v)) ∧ Fr No w w' := by
  cases ht : x.two u v with
  | false =>
    have e : x.low u v = -1 := by simp [Ix.low, ht]
    rw [e]
    have HT := hid ht
    clear ht e
    go_enter Tryd.func74, Tryd.ntmps74
    go_wp2_with (go_at_call 34; refine (rtwo_calls h _ _).mono ?_; rintro e w' ⟨rfl, rfl⟩; rw [HT.out])
    go_ret
    exact ⟨rfl, Fr.refl _ _⟩
  | true =>
    obtain ⟨hne, h1, h2, h3, h4⟩ := two_iff ht
    obtain ⟨a, rfl⟩ := Int.eq_ofNat_of_zero_le h1
    obtain ⟨b, rfl⟩ := Int.eq_ofNat_of_zero_le h3
    have ha : a < x.n := by omega
    have hb : b < x.n := by omega
    have e : x.low a b = if x.rk a < x.rk b then (a : Int) else b := by simp [Ix.low, ht]
    have c0 := h.c0
    have r1 := h.rk a ha
    have r2 := h.rk b hb
    have HT := hid ht
    have HE := hid e
    clear ht e hne
    rcases Nat.lt_or_ge (x.rk a) (x.rk b) with hC | hC
    · go_enter Tryd.func74, Tryd.ntmps74
      go_wp2_with (go_at_call 34; refine (rtwo_calls h _ _).mono ?_; rintro e w' ⟨rfl, rfl⟩; rw [HT.out])
      go_quiet (fail)
      go_wp2
      go_ret
      exact ⟨ret_int (by rw [HE.out, if_pos hC]), (Fr.refl _ _).drewN _⟩
    · go_enter Tryd.func74, Tryd.ntmps74
      go_wp2_with (go_at_call 34; refine (rtwo_calls h _ _).mono ?_; rintro e w' ⟨rfl, rfl⟩; rw [HT.out])
      go_quiet (fail)
      go_wp2
      go_ret
      exact ⟨ret_int (by rw [HE.out, if_neg (by omega)]), (Fr.refl _ _).drewN _⟩

theorem Ix.Ok.by_spec {x : Ix} (h : x.Ok) (r : Int) (v : Nat) (hv : v < x.n) (e : (x.rk v : Int) = r) : x.byr r = v := by
  have h1 := h.rk v hv
  have : r.toNat = x.rk v := by omega
  unfold Ix.byr
  rw [if_pos ⟨by omega, by omega⟩, this, h1.2]
theorem Ix.Ok.by_none {x : Ix} (h : x.Ok) (r : Int) (hn : ∀ v, v < x.n → (x.rk v : Int) ≠ r) : x.byr r = -1 := by
  unfold Ix.byr
  rw [if_neg]
  rintro ⟨h1, h2⟩
  have := h.by_ r.toNat (by omega)
  exact hn _ this.1 (by omega)

set_option maxRecDepth 100000 in
set_option maxHeartbeats 1000000 in
theorem rby_calls {w : World} {R : RxLoc} {x : Ix} (h : RxMem w R x) (r : Int) :
    Calls Tryd.prog 64 #[.pointer (some ⟨R.b, 0, none⟩), .int .i64 r] w fun e w' => e = .returned (.int .i64 (x.byr r)) ∧ Fr No w w' := by
  have H := hid h
  have hn := h.ok.n2
  clear h
  go_enter Tryd.func64, Tryd.ntmps64
  go_wp2
  go_loopg [5] x.n (fun g p wr => ∃ i : Nat, p = .int .i64 i ∧ i ≤ x.n ∧ g = x.n - i ∧ wr = w ∧ ∀ v, v < i → (x.rk v : Int) ≠ r)
  case atStart => exact ⟨0, rfl, Nat.zero_le _, rfl, rfl, fun v hv => by omega⟩
  case round =>
    obtain ⟨i, rfl, hi, hg, rfl, ha⟩ := hrel
    have HG := hid hg
    have HA := hid ha
    have c0 := H.out.c0
    clear hg ha
    by_cases hlt : i < x.n
    · have r1 := H.out.rk i hlt
      have hlt2 : (i : Int) < x.n := by omega
      by_cases he : (x.rk i : Int) = r
      · have hb := H.out.ok.by_spec r i hlt he
        have HB := hid hb
        have he2 : ((x.rk i : Int) == r) = true := by simpa using he
        clear hb he
        go_wp2
        go_ret
        exact ⟨ret_int HB.out.symm, Fr.refl _ _⟩
      · have he2 : ((x.rk i : Int) == r) = false := by simpa using he
        have HE := hid he
        clear he
        go_wp2
        go_roundg (x.n - (i + 1))
        case measure => have := HG.out; omega
        case rel =>
          refine ⟨i + 1, by go_num, hlt, rfl, rfl, fun v hv => ?_⟩
          rcases Nat.lt_or_ge v i with h1 | h1
          · exact HA.out v h1
          · obtain rfl : v = i := by omega
            exact HE.out
    · have e : i = x.n := by omega
      subst e
      have hb := H.out.ok.by_none r HA.out
      have HB := hid hb
      clear hb
      go_wp2
      go_ret
      exact ⟨ret_int HB.out.symm, Fr.refl _ _⟩

end Go.Proofs.YtlncmnphjdeeoaaDoor
