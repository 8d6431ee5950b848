/- Distances read from any text, by the program and by the document; walked. -/
import Derived.Test.YthflnhnhdgegdaaDoorDv
set_option linter.unusedVariables false
set_option linter.unusedSimpArgs false
namespace Go.Proofs.YthflnhnhdgegdaaDoor
open Go.RowKit Go.Lib Go.Sort

/-- What a text is read as, by whoever reads it. -/
def tout (l : List UInt8) : Value :=
  if l = [102, 97, 114] then .tuple #[.int .i64 4611686018427387905, .bool true] else if l = [110, 111, 110, 101] then .tuple #[.int .i64 4611686018427387906, .bool true] else rout (rnum l)

/-- The variables of the library's errors hold errors. -/
def ErrVar (w : World) (g : Nat) : Prop := ∃ te pe, w.cell? ⟨g, 0, none⟩ = some (.iface te pe)
theorem ErrVar.fr {w w' : World} {g : Nat} (h : ErrVar w g) (hf : Fr No w w') : ErrVar w' g := by
  obtain ⟨te, pe, h⟩ := h
  exact ⟨te, pe, hf.cell_some h (fun h => h)⟩

theorem bytes_of {S : ByteArray} {l : List UInt8} (h : S.data.toList = l) : S = ⟨l.toArray⟩ := by
  apply ByteArray.ext
  rw [← h]

set_option maxRecDepth 100000 in
set_option maxHeartbeats 2000000 in
theorem rparse_calls (S : ByteArray) (w : World) :
    Calls Tryd.prog 10 #[.string S] w fun e w' => e = .returned (tout S.data.toList) ∧ Fr No w w' := by
  by_cases h1 : S.data.toList = [102, 97, 114]
  · have e : tout S.data.toList = .tuple #[.int .i64 4611686018427387905, .bool true] := by unfold tout; rw [if_pos h1]
    rw [e, bytes_of h1]
    clear e h1
    go_enter Tryd.func10, Tryd.ntmps10
    go_wp2
    go_ret2
    exact ⟨rfl, Fr.refl _ _⟩
  · by_cases h2 : S.data.toList = [110, 111, 110, 101]
    · have e : tout S.data.toList = .tuple #[.int .i64 4611686018427387906, .bool true] := by unfold tout; rw [if_neg h1, if_pos h2]
      rw [e, bytes_of h2]
      clear e h1 h2
      go_enter Tryd.func10, Tryd.ntmps10
      go_wp2
      go_ret2
      exact ⟨rfl, Fr.refl _ _⟩
    · have e : tout S.data.toList = rout (rnum S.data.toList) := by unfold tout; rw [if_neg h1, if_neg h2]
      have p1 : (S.toList == [102, 97, 114]) = false := by rw [Lib.toList_data]; simpa using h1
      have p2 : (S.toList == [110, 111, 110, 101]) = false := by rw [Lib.toList_data]; simpa using h2
      have hl : S.data.toList.length = S.size := by rw [Array.length_toList]; rfl
      rw [e]
      clear e h1 h2
      by_cases h3 : S.size < 1
      · have e : rnum S.data.toList = none := by unfold rnum; rw [if_pos (.inl (by omega))]
        have h0 : S.size = 0 := by omega
        rw [e]
        clear e hl
        go_enter Tryd.func10, Tryd.ntmps10
        go_wp2
        go_ret2
        exact ⟨rfl, Fr.refl _ _⟩
      · by_cases h4 : 19 < S.size
        · have e : rnum S.data.toList = none := by unfold rnum; rw [if_pos (.inr (.inl (by omega)))]
          rw [e]
          clear e hl
          go_enter Tryd.func10, Tryd.ntmps10
          go_wp2
          go_ret2
          exact ⟨rfl, Fr.refl _ _⟩
        · have h5 : 0 < S.size := by omega
          have hg : S.data.toList.getD 0 0 = S[0] := by
            rw [List.getD_eq_getElem?_getD, List.getElem?_eq_getElem (by omega)]; rfl
          by_cases h6 : 1 < S.size ∧ S[0].toNat = 48
          · have e : rnum S.data.toList = none := by unfold rnum; rw [if_pos (.inr (.inr ⟨by omega, by rw [hg]; exact h6.2⟩))]
            rw [e]
            obtain ⟨h7, h8⟩ := h6
            have h9 : ((S[0].toNat : Int) == 48) = true := by simp; omega
            clear e hl hg
            go_enter Tryd.func10, Tryd.ntmps10
            go_wp2
            go_ret2
            exact ⟨rfl, Fr.refl _ _⟩
          · have e : rnum S.data.toList = rloop 0 S.data.toList := by
              unfold rnum
              rw [if_neg]
              rintro (h | h | ⟨h, h'⟩)
              · omega
              · omega
              · exact h6 ⟨by omega, by rw [hg] at h'; exact h'⟩
            rw [e]
            refine rparse_num S w ⟨by omega, by omega⟩ p1 p2 ?_
            by_cases h7 : S.size = 1
            · exact .inl h7
            · refine .inr ⟨by omega, ?_⟩
              have : S[0]! = S[0] := by simp [h5]
              rw [this]
              exact fun h8 => h6 ⟨by omega, h8⟩

set_option maxRecDepth 100000 in
set_option maxHeartbeats 2000000 in
theorem parse_calls (S : ByteArray) (hS : S.size ≤ 100) (w : World) (ht : TabIs Tryd.prog w "internal/strconv.uint64pow10" .u64 pow10Tab) (he1 : ErrVar w 0) (he2 : ErrVar w 1) :
    Calls Tryd.prog 9 #[.string S] w fun e w' => e = .returned (tout S.data.toList) ∧ Fr No w w' := by
  by_cases h1 : S.data.toList = [102, 97, 114]
  · have e : tout S.data.toList = .tuple #[.int .i64 4611686018427387905, .bool true] := by unfold tout; rw [if_pos h1]
    rw [e, bytes_of h1]
    exact parse_txt 4611686018427387905 (by decide) w ht
  · by_cases h2 : S.data.toList = [110, 111, 110, 101]
    · have e : tout S.data.toList = .tuple #[.int .i64 4611686018427387906, .bool true] := by unfold tout; rw [if_neg h1, if_pos h2]
      rw [e, bytes_of h2]
      exact parse_txt 4611686018427387906 (by decide) w ht
    · have e : tout S.data.toList = rout (rnum S.data.toList) := by unfold tout; rw [if_neg h1, if_neg h2]
      rw [e]
      cases hn : rnum S.data.toList with
      | some u =>
        obtain ⟨hl, hu⟩ := rnum_inv hn
        have e1 : txt (u : Nat) = decDigits u := by unfold txt; rw [if_neg (by omega), if_neg (by omega)]; rfl
        have := parse_txt (u : Nat) (by omega) w ht
        rw [e1] at this
        rw [bytes_of hl]
        exact this
      | none =>
        have hno : ∀ u : Nat, u ≤ 4611686018427387904 → S.data.toList ≠ decDigits u := fun u hu h => by
          rw [h, rnum_dec u hu] at hn; cases hn
        have p1 : (S.toList == [102, 97, 114]) = false := by rw [Lib.toList_data]; simpa using h1
        have p2 : (S.toList == [110, 111, 110, 101]) = false := by rw [Lib.toList_data]; simpa using h2
        obtain ⟨te1, pe1, he1⟩ := he1
        obtain ⟨te2, pe2, he2⟩ := he2
        have HT := hid ht
        have HE1 := hid he1
        have HE2 := hid he2
        have HNO := hid hno
        clear e h1 h2 hn ht he1 he2 hno
        show Calls _ _ _ _ fun e w' => e = .returned (.tuple #[.int .i64 0, .bool false]) ∧ Fr No w w'
        cases ha : atoiAll S.data.toList with
        | ok v =>
          have HA := hid ha
          clear ha
          go_enter Tryd.func9, Tryd.ntmps9
          go_wp2_with fail
          refine (Tryd.strconv_Atoi_ok S (by omega) v HA.out _).mono ?_
          rintro e w1 ⟨rfl, hw⟩
          have G1 : Hid (Fr No w w1) := hid (by
            rcases hw with rfl | ⟨t, rfl⟩
            · exact Fr.refl _ _
            · exact bytes_fr _ _ _)
          clear hw
          by_cases hv0 : v < 0
          · go_wp2
            go_ret2
            exact ⟨rfl, G1.out⟩
          · by_cases hv1 : 4611686018427387904 < v
            · go_wp2
              go_ret2
              exact ⟨rfl, G1.out⟩
            · obtain ⟨u, rfl⟩ := Int.eq_ofNat_of_zero_le (show 0 ≤ v by omega)
              have hne := HNO.out u (by omega)
              have HI := hid (itoa_nonneg u)
              go_wp2_with fail
              refine (Tryd.strconv_Itoa (u : Nat) (by omega) (by omega) w1 (tab_fr HT.out G1.out)).mono ?_
              rintro e w3 ⟨rfl, k, os, rfl⟩
              rw [HI.out]
              have q1 : ((⟨(decDigits u).toArray⟩ : ByteArray).toList == S.toList) = false := by
                rw [Lib.toList_data, Lib.toList_data]; simp only [beq_eq_false_iff_ne, ne_eq]; exact fun h => hne h.symm
              have q2 : (decDigits u == S.toList) = false := by
                rw [Lib.toList_data]; simp only [beq_eq_false_iff_ne, ne_eq]; exact fun h => hne h.symm
              clear hne
              go_wp2
              go_ret2
              exact ⟨rfl, G1.out.trans (grow_fr _ _ _)⟩
        | «syntax» =>
          have HA := hid ha
          clear ha
          go_enter Tryd.func9, Tryd.ntmps9
          go_wp2_with fail
          refine (Tryd.strconv_Atoi_syntax S (by omega) HA.out _ _ HE1.out (.inr ⟨_, _, rfl⟩)).mono ?_
          rintro e w1 ⟨N, rfl, hN, hNc, hb⟩
          go_wp2
          go_ret2
          exact ⟨rfl, Fr.of_below hb⟩
        | range =>
          have HA := hid ha
          clear ha
          go_enter Tryd.func9, Tryd.ntmps9
          go_wp2_with fail
          refine (Tryd.strconv_Atoi_range S (by omega) HA.out _ _ HE2.out (.inr ⟨_, _, rfl⟩)).mono ?_
          rintro e w1 ⟨N, rfl, hN, hNc, hb⟩
          go_wp2
          go_ret2
          exact ⟨rfl, Fr.of_below hb⟩

end Go.Proofs.YthflnhnhdgegdaaDoor
