/- The document's sum of two distances; walked. -/
import Derived.Test.YtakgjihhgpnnfaaDoorDst
import Derived.Test.YtakgjihhgpnnfaaDoorUps
import Derived.Test.YtakgjihhgpnnfaaDoorSam
set_option linter.unusedVariables false
set_option linter.unusedSimpArgs false
namespace Go.Proofs.YtakgjihhgpnnfaaDoor
open Go.RowKit

set_option maxRecDepth 100000 in
set_option maxHeartbeats 1000000 in
theorem rnorm_calls (x : Int) (w : World) : Calls Tryd.prog 76 #[.int .i64 x] w fun e w' => e = .returned (.int .i64 (normI x)) ∧ Fr No w w' := by
  rcases (show x < 0 ∨ (0 ≤ x ∧ 4611686018427387906 < x) ∨ (0 ≤ x ∧ x ≤ 4611686018427387906) by omega) with h | ⟨h1, h2⟩ | ⟨h1, h2⟩
  · have e : normI x = 0 := by unfold normI; rw [if_pos h]
    go_enter Tryd.func76, Tryd.ntmps76
    go_wp2
    go_ret
    exact ⟨ret_int (by rw [e]), Fr.refl _ _⟩
  · have e : normI x = 4611686018427387906 := by unfold normI; rw [if_neg (by omega), if_pos h2]
    go_enter Tryd.func76, Tryd.ntmps76
    go_wp2
    go_ret
    exact ⟨ret_int (by rw [e]), Fr.refl _ _⟩
  · have e : normI x = x := by unfold normI; rw [if_neg (by omega), if_neg (by omega)]
    go_enter Tryd.func76, Tryd.ntmps76
    go_wp2
    go_ret
    exact ⟨ret_int (by rw [e]), Fr.refl _ _⟩

set_option maxRecDepth 100000 in
set_option maxHeartbeats 2000000 in
theorem rsum_calls (q x : Int) (w : World) : Calls Tryd.prog 44 #[.int .i64 q, .int .i64 x] w fun e w' => e = .returned (.int .i64 (add1 (normI q) x)) ∧ Fr No w w' := by
  have hb := normI_b x
  have hs := normI_b q
  obtain ⟨s, hsq⟩ : ∃ s, normI q = s := ⟨_, rfl⟩
  have HS := hid hsq
  rw [hsq] at hs ⊢
  clear hsq
  obtain ⟨y, hy⟩ : ∃ y, normI x = y := ⟨_, rfl⟩
  have HY := hid hy
  have hadd : add1 s x = if s = 4611686018427387906 ∨ y = 4611686018427387906 then 4611686018427387906 else if 4611686018427387904 < s ∨ 4611686018427387904 - s < y then 4611686018427387905 else s + y := by rw [add1, hy]
  have HADD := hid hadd
  rw [hy] at hb
  clear hadd hy
  by_cases c1 : s = 4611686018427387906
  · subst c1
    go_enter Tryd.func44, Tryd.ntmps44
    go_wp2_with (go_at_call 76; (first | (refine (rnorm_calls q _).mono ?_; rintro e w1 ⟨rfl, hf⟩; rw [HS.out]; have HF := hid hf; clear hf) | (refine (rnorm_calls x _).mono ?_; rintro e w2 ⟨rfl, hf⟩; rw [HY.out])))
    go_ret
    exact ⟨by rw [HADD.out]; simp, HF.out.trans hf⟩
  · have d1 : (s == 4611686018427387906) = false := by simpa using c1
    by_cases c2 : y = 4611686018427387906
    · subst c2
      go_enter Tryd.func44, Tryd.ntmps44
      go_wp2_with fail
      refine (rnorm_calls q _).mono ?_
      rintro e w1 ⟨rfl, hf⟩
      rw [HS.out]
      have HF := hid hf
      clear hf
      go_wp2_with fail
      refine (rnorm_calls x _).mono ?_
      rintro e w2 ⟨rfl, hf⟩
      rw [HY.out]
      go_wp2
      all_goals go_ret
      all_goals exact ⟨by rw [HADD.out]; simp, HF.out.trans hf⟩
    · have d2 : (y == 4611686018427387906) = false := by simpa using c2
      by_cases c3 : s = 4611686018427387905
      · subst c3
        go_enter Tryd.func44, Tryd.ntmps44
        go_wp2_with fail
        refine (rnorm_calls q _).mono ?_
        rintro e w1 ⟨rfl, hf⟩
        rw [HS.out]
        have HF := hid hf
        clear hf
        go_wp2_with fail
        refine (rnorm_calls x _).mono ?_
        rintro e w2 ⟨rfl, hf⟩
        rw [HY.out]
        go_wp2
        all_goals go_ret
        all_goals exact ⟨ret_int (by rw [HADD.out, if_neg (by omega), if_pos (.inl (by omega))]), HF.out.trans hf⟩
      · have d3 : (s == 4611686018427387905) = false := by simpa using c3
        by_cases c4 : 4611686018427387904 - s < y
        · go_enter Tryd.func44, Tryd.ntmps44
          go_wp2_with fail
          refine (rnorm_calls q _).mono ?_
          rintro e w1 ⟨rfl, hf⟩
          rw [HS.out]
          have HF := hid hf
          clear hf
          go_wp2_with fail
          refine (rnorm_calls x _).mono ?_
          rintro e w2 ⟨rfl, hf⟩
          rw [HY.out]
          go_wp2
          all_goals go_ret
          all_goals exact ⟨ret_int (by rw [HADD.out, if_neg (by omega), if_pos (.inr c4)]), HF.out.trans hf⟩
        · have d4 : (y == 4611686018427387905) = false := by simp; omega
          go_enter Tryd.func44, Tryd.ntmps44
          go_wp2_with fail
          refine (rnorm_calls q _).mono ?_
          rintro e w1 ⟨rfl, hf⟩
          rw [HS.out]
          have HF := hid hf
          clear hf
          go_wp2_with fail
          refine (rnorm_calls x _).mono ?_
          rintro e w2 ⟨rfl, hf⟩
          rw [HY.out]
          go_wp2
          all_goals go_ret
          all_goals exact ⟨ret_int (by rw [HADD.out, if_neg (by omega), if_neg (by omega)]), HF.out.trans hf⟩

theorem add1_zero (a : Int) : add1 0 a = normI a := by
  have h := normI_b a
  have h0 : normI 0 = 0 := by decide
  unfold add1
  repeat' split
  all_goals omega
theorem norm_id {s : Int} (hs : 0 ≤ s ∧ s ≤ 4611686018427387906) : normI s = s := by unfold normI; rw [if_neg (by omega), if_neg (by omega)]

end Go.Proofs.YtakgjihhgpnnfaaDoor

/- The middles of two vertices: the program's; walked. -/
set_option linter.unusedVariables false
set_option linter.unusedSimpArgs false
namespace Go.Proofs.YtakgjihhgpnnfaaDoor
open Go.RowKit Go.Deep
attribute [local go_sem high] run_field0

theorem sum2_none_dec (s : Int) : (s ≠ 4611686018427387906) ∨ s = 4611686018427387906 := by omega
/-- The vertices by way of which, of the r lowest, it is just as long. -/
def Ix.midsTo (x : Ix) (u v : Int) : Nat → List Int
  | 0 => []
  | r + 1 => if x.sum2 u v r ≠ 4611686018427387906 ∧ x.sum2 u v r = (x.at_ u v).w then x.midsTo u v r ++ [((x.by_ r : Nat) : Int)] else x.midsTo u v r
def Ix.mids (x : Ix) (u v : Int) : List Int := if x.two u v = true then x.midsTo u v (min (x.rk u.toNat) (x.rk v.toNat)) else []
theorem Ix.midsTo_le (x : Ix) (u v : Int) : ∀ r, (x.midsTo u v r).length ≤ r
  | 0 => Nat.le_refl _
  | r + 1 => by
    have := x.midsTo_le u v r
    unfold Ix.midsTo
    split
    · simp; omega
    · omega
theorem Ix.Ok.mids_le {x : Ix} (h : x.Ok) (u v : Int) : (x.mids u v).length ≤ 24 := by
  unfold Ix.mids
  split
  · rename_i ht
    obtain ⟨_, hu0, hu1, _, _⟩ := two_iff ht
    have h1 := x.midsTo_le u v (min (x.rk u.toNat) (x.rk v.toNat))
    have h2 := (h.rk u.toNat (by omega)).1
    have h3 := h.n2
    omega
  · simp
theorem Ix.Ok.rank_low {x : Ix} (h : x.Ok) {u v : Int} (ht : x.two u v = true) : x.rank (x.low u v) = ((min (x.rk u.toNat) (x.rk v.toNat) : Nat) : Int) := by
  obtain ⟨_, hu0, hu1, hv0, hv1⟩ := two_iff ht
  unfold Ix.low
  rw [if_pos ht]
  split
  · unfold Ix.rank; rw [if_pos ⟨hu0, hu1⟩]; omega
  · unfold Ix.rank; rw [if_pos ⟨hv0, hv1⟩]; omega
theorem Ix.Ok.byr_nat {x : Ix} (h : x.Ok) {r : Nat} (hr : r < x.n) : x.byr (r : Nat) = (x.by_ r : Nat) := by
  unfold Ix.byr; rw [if_pos ⟨by omega, by omega⟩]; simp

set_option maxRecDepth 100000 in
set_option maxHeartbeats 4000000 in
theorem mid_no {x : Ix} {w : World} {L : IxLoc} (h : IxMem w L x) (u v : Int) (ht : x.two u v = false) :
    Calls Tryd.prog 21 #[.pointer (some ⟨L.b, 0, none⟩), .int .i64 u, .int .i64 v] w fun e w' => e = .returned (.slice none 0 0) ∧ Fr No w w' := by
  have hat : x.at_ u v = En.none := by unfold Ix.at_; rw [ht]; rfl
  have hlow : x.low u v = -1 := by unfold Ix.low; rw [ht]; rfl
  have hrk : x.rank (-1) = -1 := by unfold Ix.rank; rw [if_neg (by omega)]
  have HAT := hid hat
  have HLOW := hid hlow
  have HRK := hid hrk
  clear hat hlow hrk ht
  go_enter Tryd.func21, Tryd.ntmps21
  go_wp2_with fail
  refine (at_calls h u v).mono ?_
  rintro e w1 ⟨rfl, hf1⟩
  rw [HAT.out]
  simp only [En.val, En.none]
  go_wp2_with fail
  refine (low_calls (h.no hf1) u v).mono ?_
  rintro e w2 ⟨rfl, k, rfl⟩
  rw [HLOW.out]
  go_wp2_with fail
  refine (rank_calls ((h.no hf1).drewN k) (-1)).mono ?_
  rintro e w3 ⟨rfl, rfl⟩
  rw [HRK.out]
  go_wp2
  go_loopg [7, 24] 0 (fun g q p wr => q = .slice none 0 0 ∧ p = .int .i64 0 ∧ Fr No w wr)
  case atStart => exact ⟨rfl, rfl, hf1.drewN k⟩
  case round =>
    obtain ⟨rfl, rfl, hf⟩ := hrel
    go_wp2
    go_ret
    exact ⟨rfl, hf⟩

set_option maxRecDepth 100000 in
set_option maxHeartbeats 4000000 in
theorem mid_yes {x : Ix} {w : World} {L : IxLoc} (h : IxMem w L x) (u v : Int) (ht : x.two u v = true) :
    Calls Tryd.prog 21 #[.pointer (some ⟨L.b, 0, none⟩), .int .i64 u, .int .i64 v] w fun e w' => ∃ A c, e = .returned (.slice A (x.mids u v).length c) ∧ Fr No w w' ∧ SlL w' (.slice A (x.mids u v).length c) (x.mids u v) := by
  have hn := h.ok.n2
  obtain ⟨hne, hu0, hu1, hv0, hv1⟩ := two_iff ht
  have hru := (h.ok.rk u.toNat (by omega)).1
  have hrank := h.ok.rank_low ht
  have hml : x.mids u v = x.midsTo u v (min (x.rk u.toNat) (x.rk v.toNat)) := by unfold Ix.mids; rw [if_pos ht]
  obtain ⟨N, hN⟩ : ∃ N, min (x.rk u.toNat) (x.rk v.toNat) = N := ⟨_, rfl⟩
  have hNn : N < x.n := by omega
  rw [hN] at hrank hml
  obtain ⟨⟨t0, t1, t2⟩, hat⟩ : ∃ en, x.at_ u v = en := ⟨_, rfl⟩
  have hst : ∀ r, x.midsTo u v (r + 1) = if x.sum2 u v r ≠ 4611686018427387906 ∧ x.sum2 u v r = t0 then x.midsTo u v r ++ [((x.by_ r : Nat) : Int)] else x.midsTo u v r := fun r => by rw [Ix.midsTo, hat]
  have HAT := hid hat
  have HRK := hid hrank
  have HML := hid hml
  have HST := hid hst
  have H := hid h
  clear hat hrank hml hst h ht hru hN hne
  go_enter Tryd.func21, Tryd.ntmps21
  go_wp2_with fail
  refine (at_calls H.out u v).mono ?_
  rintro e w1 ⟨rfl, hf1⟩
  rw [HAT.out]
  simp only [En.val]
  have HF1 := hid hf1
  clear hf1
  go_wp2_with fail
  refine (low_calls (H.out.no HF1.out) u v).mono ?_
  rintro e w2 ⟨rfl, k, rfl⟩
  go_wp2_with fail
  refine (rank_calls ((H.out.no HF1.out).drewN k) _).mono ?_
  rintro e w3 ⟨rfl, rfl⟩
  rw [HRK.out]
  have HF2 := hid (HF1.out.drewN k)
  have hmax : max 0 (N : Int) = N := by omega
  rcases Nat.eq_zero_or_pos N with h0 | h0
  · subst h0
    go_wp2
    go_loopg [7, 24] 0 (fun g q p wr => q = .slice none 0 0 ∧ p = .int .i64 0 ∧ Fr No w wr)
    case atStart => exact ⟨rfl, rfl, HF2.out⟩
    case round =>
      obtain ⟨rfl, rfl, hf⟩ := hrel
      go_wp2
      go_ret
      rw [HML.out]
      exact ⟨none, 0, rfl, hf, .inl ⟨rfl, rfl⟩⟩
  have h0' : (0 : Int) < N := by omega
  go_wp2
  go_loopg [7, 24] N (fun g p q wr => ∃ (r : Nat) (l : List Int) (A : Option Addr) (c : Nat), q = .int .i64 r ∧ r ≤ N ∧ p = .slice A l.length c ∧ wr.ownsRow w.heap.size 3 1 (.slice A l.length c) l.length (l.map (Value.int .i64)) ∧ (l = [] → A = none ∧ c = 0) ∧
      l = x.midsTo u v r ∧ g = N - r ∧ Fr No w wr)
  case atStart => exact ⟨0, [], none, 0, rfl, by omega, rfl, World.ownsRow_nil _ _ _ _, fun _ => ⟨rfl, rfl⟩, rfl, rfl, HF2.out⟩
  case round =>
    obtain ⟨r, l, A, c, rfl, hr, rfl, hown, hnil, hl, hg, hf⟩ := hrel
    have HO := hid hown
    have HNIL := hid hnil
    have HL := hid hl
    have HG := hid hg
    have HF := hid hf
    have hlen : l.length ≤ 24 := by rw [hl]; have := x.midsTo_le u v r; omega
    clear hown hnil hl hg hf
    by_cases hlt : r < N
    · have hr2 : (r : Int) < N := by omega
      have HB := hid (H.out.ok.byr_nat (show r < x.n by omega))
      have hst := HST.out r
      obtain ⟨z, hz⟩ : ∃ z, x.by_ r = z := ⟨_, rfl⟩
      have hs2 : x.sum2 u v r = add1 (add1 0 (x.at_ u (z : Nat)).w) (x.at_ (z : Nat) v).w := by rw [Ix.sum2, hz]
      rw [hz] at HB hst
      have HSS := hid hst
      have HS2 := hid hs2
      clear hst hs2 hz
      go_wp2_with fail
      refine (by_calls (H.out.no HF.out) (r : Nat)).mono ?_
      rintro e w2 ⟨rfl, rfl⟩
      rw [HB.out]
      go_wp2_with fail
      refine (at_calls (H.out.no HF.out) u (z : Nat)).mono ?_
      rintro e w3 ⟨rfl, hf3⟩
      obtain ⟨⟨a0, a1, a2⟩, hp0⟩ : ∃ y, x.at_ u (z : Nat) = y := ⟨_, rfl⟩
      rw [hp0]
      simp only [En.val]
      have HP0 := hid hp0
      have HF3 := hid (HF.out.trans hf3)
      have HO3 := hid (own_fr HO.out hf3 (fun _ _ h => h))
      clear hf3 hp0 HO HF
      go_wp2_with fail
      refine (at_calls (H.out.no HF3.out) (z : Nat) v).mono ?_
      rintro e w4 ⟨rfl, hf4⟩
      obtain ⟨⟨b0, b1, b2⟩, hp1⟩ : ∃ y, x.at_ (z : Nat) v = y := ⟨_, rfl⟩
      rw [hp1]
      simp only [En.val]
      have HP1 := hid hp1
      have HF4 := hid (HF3.out.trans hf4)
      have HO4 := hid (own_fr HO3.out hf4 (fun _ _ h => h))
      clear hf4 hp1 HO3 HF3
      go_wp2_with fail
      have fa : Fr No w4 (w4.alloc (Obj.cells #[.int .i64 a0, .int .i64 b0] 3)) := (Fr.refl _ _).alloc _
      refine (add_calls (A := some ⟨w4.heap.size, 0, none⟩) (n := 2) (c := 2) (f := fun j => [a0, b0].getD j 0) (lit_ints 2 _ (by intro j hj; (have : j = 0 ∨ j = 1 := by omega); rcases this with rfl | rfl <;> rfl)) (by decide)).mono ?_
      rintro e w5 ⟨rfl, hf5⟩
      have hs : accF (fun j => [a0, b0].getD j 0) 2 = x.sum2 u v r := by rw [HS2.out, HP0.out, HP1.out]; rfl
      rw [hs]
      have hss := HSS.out
      obtain ⟨s, hsm⟩ : ∃ y, x.sum2 u v r = y := ⟨_, rfl⟩
      rw [hsm] at hss ⊢
      have HSM := hid hss
      have HF5 := hid (HF4.out.trans (fa.trans hf5))
      have HO5 := hid (own_fr HO4.out (fa.trans hf5) (fun _ _ h => h))
      have hsz := HF5.out.size
      clear hf5 fa hs hsm hss HO4 HF4 HSS HS2 HP0 HP1
      by_cases c1 : s = 4611686018427387906
      · subst c1
        go_wp2
        all_goals go_roundg (N - (r + 1))
        all_goals first
          | (have := HG.out; omega)
          | exact ⟨r + 1, l, A, c, by go_num, by omega, rfl, HO5.out, HNIL.out, by rw [HSM.out, if_neg (fun h => h.1 rfl)]; exact HL.out, rfl, HF5.out⟩
      · have d1 : (s != 4611686018427387906) = true := by simpa using c1
        have d1' : (s == 4611686018427387906) = false := by simpa using c1
        by_cases c2 : s = t0
        · subst c2
          go_wp2_with (at_builtin; refine wpList_push (.tmp 49) (.tmp 51) (.slice A l.length c) l w5.heap.size 1 (z : Nat) ?_ ?_ ?_ ?_ w.heap.size ?_ ?_ ?_ ?_ ?_; rfl; rfl; rfl; rfl; exact own_fr HO5.out ((Fr.refl No _).alloc _) (fun _ _ h => h); (simp; omega); exact cell_of (heap_new w5 _) 0; omega; intro g' cap' w6 hown4 hgrow4 hat4 hlt4; have HO6 := hid hown4; have HG6 := hid hgrow4; clear hown4 hgrow4 hat4)
          all_goals go_roundg (N - (r + 1))
          all_goals first
            | (have := HG.out; omega)
            | exact ⟨r + 1, l ++ [(z : Int)], some ⟨g', 0, none⟩, cap', by go_num, by omega, by simp, HO6.out, fun e => by simp at e, by rw [HSM.out, if_pos ⟨c1, by first | trivial | rfl⟩, HL.out], rfl, (HF5.out.alloc _).grown HG6.out (fun k e => .inr (own_block HO5.out k e).1)⟩
        · have d2 : (s == t0) = false := by simpa using c2
          go_wp2
          all_goals go_roundg (N - (r + 1))
          all_goals first
            | (have := HG.out; omega)
            | exact ⟨r + 1, l, A, c, by go_num, by omega, rfl, HO5.out, HNIL.out, by rw [HSM.out, if_neg (fun h => c2 h.2)]; exact HL.out, rfl, HF5.out⟩
    · have e : r = N := by omega
      subst e
      go_wp2
      go_ret
      rw [HML.out, ← HL.out]
      exact ⟨A, c, rfl, HF.out, own_slL HO.out HNIL.out⟩

theorem mid_calls {x : Ix} {w : World} {L : IxLoc} (h : IxMem w L x) (u v : Int) :
    Calls Tryd.prog 21 #[.pointer (some ⟨L.b, 0, none⟩), .int .i64 u, .int .i64 v] w fun e w' => ∃ A c, e = .returned (.slice A (x.mids u v).length c) ∧ Fr No w w' ∧ SlL w' (.slice A (x.mids u v).length c) (x.mids u v) := by
  cases ht : x.two u v with
  | true => exact mid_yes h u v ht
  | false =>
    refine (mid_no h u v ht).mono ?_
    rintro e w' ⟨rfl, hf⟩
    have : x.mids u v = [] := by unfold Ix.mids; rw [ht]; rfl
    rw [this]
    exact ⟨none, 0, rfl, hf, .inl ⟨rfl, rfl⟩⟩

end Go.Proofs.YtakgjihhgpnnfaaDoor

/- The middles of two vertices: the document's; walked. -/
set_option linter.unusedVariables false
set_option linter.unusedSimpArgs false
namespace Go.Proofs.YtakgjihhgpnnfaaDoor
open Go.RowKit Go.Deep

theorem two_sym (x : Ix) (u v : Int) : x.two u v = x.two v u := by
  unfold Ix.two
  rw [Bool.eq_iff_iff]
  simp
  omega
theorem at_nat {x : Ix} {u v : Nat} (h : x.two (u : Nat) (v : Nat) = true) : x.at_ (u : Nat) (v : Nat) = x.ent u v := by
  unfold Ix.at_; rw [if_pos h]; rfl

end Go.Proofs.YtakgjihhgpnnfaaDoor
