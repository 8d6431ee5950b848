/- Distances as texts, and back; walked over the library's contracts for strconv. -/
import Derived.Test.YthflnhnhdgegdaaDoorDr
import Derived.Test.YthflnhnhdgegdaaDoorShelf
import Derived.Lib.SmallJoins
import Derived.Lib.ItoaLen
set_option linter.unusedVariables false
set_option linter.unusedSimpArgs false
namespace Go.Proofs.YthflnhnhdgegdaaDoor
open Go.RowKit Go.Lib Go.Sort

theorem digit_nat (d : Nat) (h : d < 10) : (UInt8.ofNat (48 + d)).toNat = 48 + d := by
  rw [UInt8.toNat_ofNat']; omega
theorem dec_small {u : Nat} (h : u < 10) : decDigits u = [UInt8.ofNat (48 + u)] := by rw [decDigits, dif_pos h]
theorem dec_big {u : Nat} (h : ¬ u < 10) : decDigits u = decDigits (u / 10) ++ [UInt8.ofNat (48 + u % 10)] := by rw [decDigits, dif_neg h]
/-- What stands at the head of a numeral is a digit. -/
theorem dec_head : ∀ u : Nat, ∃ c t, decDigits u = c :: t ∧ 48 ≤ c.toNat ∧ c.toNat ≤ 57 := fun u => by
  induction u using Nat.strongRecOn with
  | ind u ih =>
    by_cases h : u < 10
    · exact ⟨_, [], dec_small h, by rw [digit_nat u h]; omega, by rw [digit_nat u h]; omega⟩
    · obtain ⟨c, t, e, h1, h2⟩ := ih (u / 10) (by omega)
      exact ⟨c, t ++ [UInt8.ofNat (48 + u % 10)], by rw [dec_big h, e]; rfl, h1, h2⟩
theorem parse_dec (u : Nat) (hu : u ≤ 9223372036854775807) : ∀ r, parseUint10 0 (decDigits u ++ r) = parseUint10 u r := by
  induction u using Nat.strongRecOn with
  | ind u ih =>
    intro r
    by_cases h : u < 10
    · rw [dec_small h]
      show parseUint10 0 (UInt8.ofNat (48 + u) :: r) = _
      rw [parseUint10, digit_nat u h, if_pos (by omega), if_neg (by omega), if_neg (by omega)]
      congr 1; omega
    · rw [dec_big h, List.append_assoc, ih (u / 10) (by omega) (by omega)]
      show parseUint10 (u / 10) (UInt8.ofNat (48 + u % 10) :: r) = _
      rw [parseUint10, digit_nat (u % 10) (by omega), if_pos (by omega), if_neg (by omega), if_neg (by omega)]
      congr 1; omega
theorem atoi_dec (u : Nat) (hu : u ≤ 4611686018427387904) : atoiAll (decDigits u) = .ok (u : Int) := by
  have hp := parse_dec u (by omega) []
  rw [List.append_nil] at hp
  obtain ⟨c, t, e, h1, h2⟩ := dec_head u
  rw [e] at hp ⊢
  have hm : parseMag (c :: t) = .ok u := by
    unfold parseMag
    rw [if_neg (by simp), hp]; rfl
  unfold atoiAll
  have a1 : ¬ (c.toNat = 43 ∨ c.toNat = 45) := by omega
  have a2 : ¬ c.toNat = 45 := by omega
  have a3 : ¬ 9223372036854775808 ≤ u := by omega
  have a4 : ¬ c.toNat = 43 := by omega
  simp [hm, a2, a3, a4]

theorem drewN_heap (w : World) : ∀ k, (w.drewN k).heap = w.heap ∧ (w.drewN k).os = w.os ∧ (w.drewN k).tape = w.tape ∧ (w.drewN k).output = w.output := fun k => ⟨rfl, rfl, rfl, rfl⟩
theorem grow_fr (w : World) (k : Nat) (os : Array Obj) : Fr No w (grow (w.drewN k) os) :=
  ⟨rfl, rfl, rfl, by show w.heap.size ≤ (w.heap ++ os).size; simp, fun i hi _ => by show (w.heap ++ os)[i]? = w.heap[i]?; rw [Array.getElem?_append_left hi]⟩
theorem tab_fr {w w' : World} (h : TabIs Tryd.prog w "internal/strconv.uint64pow10" .u64 pow10Tab) (hf : Fr No w w') : TabIs Tryd.prog w' "internal/strconv.uint64pow10" .u64 pow10Tab :=
  Go.Joins.tab_stays (g := 2) (by kernel_rfl) h hf.below (Nat.le_refl _)

/-- A distance's text. -/
def txt (N : Int) : List UInt8 := if N = 4611686018427387905 then [102, 97, 114] else if N = 4611686018427387906 then [110, 111, 110, 101] else decDigits N.toNat

set_option maxRecDepth 100000 in
set_option maxHeartbeats 1000000 in
theorem text_calls (a : Int) (w : World) (ht : TabIs Tryd.prog w "internal/strconv.uint64pow10" .u64 pow10Tab) :
    Calls Tryd.prog 11 #[.int .i64 a] w fun e w' => e = .returned (.string ⟨(txt (normI a)).toArray⟩) ∧ Fr No w w' := by
  have hb := normI_b a
  have HT := hid ht
  obtain ⟨N, hN⟩ : ∃ N, normI a = N := ⟨_, rfl⟩
  have HN := hid hN
  rw [hN] at hb ⊢
  clear hN ht
  by_cases h1 : N = 4611686018427387905
  · subst h1
    go_enter Tryd.func11, Tryd.ntmps11
    go_wp2_with (go_at_call 15; refine (norm_calls a _).mono ?_; rintro e w1 ⟨rfl, hf1⟩; rw [HN.out])
    go_ret
    exact ⟨rfl, hf1⟩
  · by_cases h2 : N = 4611686018427387906
    · subst h2
      go_enter Tryd.func11, Tryd.ntmps11
      go_wp2_with (go_at_call 15; refine (norm_calls a _).mono ?_; rintro e w1 ⟨rfl, hf1⟩; rw [HN.out])
      go_ret
      exact ⟨rfl, hf1⟩
    · obtain ⟨u, rfl⟩ := Int.eq_ofNat_of_zero_le hb.1
      have e1 : txt (u : Nat) = decDigits u := by unfold txt; rw [if_neg h1, if_neg h2]; rfl
      have e2 : itoa ((u : Nat) : Int) = decDigits u := itoa_nonneg u
      have HE := hid e1
      have d1 : (((u : Nat) : Int) == 4611686018427387905) = false := by simpa using h1
      have d2 : (((u : Nat) : Int) == 4611686018427387906) = false := by simpa using h2
      rw [e1]
      clear e1
      go_enter Tryd.func11, Tryd.ntmps11
      go_wp2_with fail
      refine (norm_calls a _).mono ?_
      rintro e w1 ⟨rfl, hf1⟩
      rw [HN.out]
      have G1 := hid hf1
      clear hf1
      go_wp2_with fail
      refine (norm_calls a _).mono ?_
      rintro e w2 ⟨rfl, hf2⟩
      rw [HN.out]
      have G2 := hid (G1.out.trans hf2)
      clear hf2
      go_wp2_with fail
      refine (Tryd.strconv_Itoa (u : Nat) (by omega) (by omega) w2 (tab_fr HT.out G2.out)).mono ?_
      rintro e w3 ⟨rfl, k, os, rfl⟩
      rw [e2]
      go_wp2
      go_ret
      exact ⟨rfl, G2.out.trans (grow_fr _ _ _)⟩

set_option maxRecDepth 100000 in
set_option maxHeartbeats 1000000 in
/-- A distance's text, read. -/
theorem parse_txt (N : Int) (hb : 0 ≤ N ∧ N ≤ 4611686018427387906) (w : World) (ht : TabIs Tryd.prog w "internal/strconv.uint64pow10" .u64 pow10Tab) :
    Calls Tryd.prog 9 #[.string ⟨(txt N).toArray⟩] w fun e w' => e = .returned (.tuple #[.int .i64 N, .bool true]) ∧ Fr No w w' := by
  have HT := hid ht
  clear ht
  by_cases h1 : N = 4611686018427387905
  · subst h1
    show Calls Tryd.prog 9 #[.string ⟨#[102, 97, 114]⟩] w _
    go_enter Tryd.func9, Tryd.ntmps9
    go_wp2
    go_ret2
    exact ⟨rfl, Fr.refl _ _⟩
  · by_cases h2 : N = 4611686018427387906
    · subst h2
      show Calls Tryd.prog 9 #[.string ⟨#[110, 111, 110, 101]⟩] w _
      go_enter Tryd.func9, Tryd.ntmps9
      go_wp2
      go_ret2
      exact ⟨rfl, Fr.refl _ _⟩
    · obtain ⟨u, rfl⟩ := Int.eq_ofNat_of_zero_le hb.1
      have e1 : txt (u : Nat) = decDigits u := by unfold txt; rw [if_neg h1, if_neg h2]; rfl
      have e2 : itoa ((u : Nat) : Int) = decDigits u := itoa_nonneg u
      have ha := atoi_dec u (by omega)
      obtain ⟨c, t, e, hc1, hc2⟩ := dec_head u
      have hsz : (decDigits u).length ≤ 21 := by rw [← e2]; exact itoa_length_le _ (by omega) (by omega)
      rw [e1]
      rw [e] at ha e2 hsz ⊢
      have HA := hid ha
      have HI := hid e2
      have n1 : (⟨(c :: t).toArray⟩ : ByteArray) ≠ ⟨#[102, 97, 114]⟩ := fun h => by
        have h1 := congrArg ByteArray.data h
        have h2 : (c :: t) = [102, 97, 114] := by simpa using congrArg Array.toList h1
        simp only [List.cons.injEq] at h2
        rw [h2.1] at hc2
        exact absurd hc2 (by decide)
      have n2 : (⟨(c :: t).toArray⟩ : ByteArray) ≠ ⟨#[110, 111, 110, 101]⟩ := fun h => by
        have h1 := congrArg ByteArray.data h
        have h2 : (c :: t) = [110, 111, 110, 101] := by simpa using congrArg Array.toList h1
        simp only [List.cons.injEq] at h2
        rw [h2.1] at hc2
        exact absurd hc2 (by decide)
      have hdl : (⟨(c :: t).toArray⟩ : ByteArray).data.toList = c :: t := by simp
      have hsz2 : (⟨(c :: t).toArray⟩ : ByteArray).size = (c :: t).length := by simp [ByteArray.size]
      obtain ⟨S, hS⟩ : ∃ S : ByteArray, (⟨(c :: t).toArray⟩ : ByteArray) = S := ⟨_, rfl⟩
      rw [hS] at n1 n2 hdl hsz2 ⊢
      have HS := hid hS
      have HD := hid hdl
      have hl : S.toList = c :: t := by rw [Lib.toList_data, HD.out]
      have p1 : (S.toList == [102, 97, 114]) = false := by
        rw [hl]; simp only [beq_eq_false_iff_ne, ne_eq, List.cons.injEq]; rintro ⟨rfl, _⟩; exact absurd hc2 (by decide)
      have p2 : (S.toList == [110, 111, 110, 101]) = false := by
        rw [hl]; simp only [beq_eq_false_iff_ne, ne_eq, List.cons.injEq]; rintro ⟨rfl, _⟩; exact absurd hc2 (by decide)
      clear hl
      have p3 : (S = ⟨#[102, 97, 114]⟩) = False := by simpa using n1
      have p4 : (S = ⟨#[110, 111, 110, 101]⟩) = False := by simpa using n2
      clear hdl hS e1 e2 ha e
      have hu1 : (u : Int) ≤ 4611686018427387904 := by omega
      go_enter Tryd.func9, Tryd.ntmps9
      go_wp2_with fail
      refine (Tryd.strconv_Atoi_ok S (by omega) (u : Nat) (by rw [HD.out]; exact HA.out) _).mono ?_
      rintro e w1 ⟨rfl, hw⟩
      have G1 : Hid (Fr No w w1) := hid (by
        rcases hw with rfl | ⟨t, rfl⟩
        · exact Fr.refl _ _
        · exact bytes_fr _ _ _)
      clear hw
      go_wp2_with fail
      refine (Tryd.strconv_Itoa (u : Nat) (by omega) (by omega) w1 (tab_fr HT.out G1.out)).mono ?_
      rintro e w3 ⟨rfl, k, os, rfl⟩
      rw [HI.out, HS.out]
      go_wp2
      go_ret2
      exact ⟨rfl, G1.out.trans (grow_fr _ _ _)⟩

end Go.Proofs.YthflnhnhdgegdaaDoor
