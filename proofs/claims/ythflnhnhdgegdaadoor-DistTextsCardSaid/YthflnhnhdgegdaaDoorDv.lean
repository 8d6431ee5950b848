/- The document's reader of distances; walked. -/
import Derived.Test.YthflnhnhdgegdaaDoorDt
set_option linter.unusedVariables false
set_option linter.unusedSimpArgs false
namespace Go.Proofs.YthflnhnhdgegdaaDoor
open Go.RowKit Go.Lib Go.Sort

theorem rloop_cons (acc : Nat) (c : UInt8) (r : List UInt8) : rloop acc (c :: r) = if c.toNat < 48 ∨ 57 < c.toNat then none else if (4611686018427387904 - (c.toNat - 48)) / 10 < acc then none else rloop (10 * acc + (c.toNat - 48)) r := rfl
/-- What the document's reader tells. -/
def rout (o : Option Nat) : Value := match o with
  | some v => .tuple #[.int .i64 (v : Nat), .bool true]
  | none => .tuple #[.int .i64 0, .bool false]

set_option maxRecDepth 100000 in
set_option maxHeartbeats 2000000 in
theorem rparse_num (S : ByteArray) (w : World) (hsz : 1 ≤ S.size ∧ S.size ≤ 19) (p1 : (S.toList == [102, 97, 114]) = false) (p2 : (S.toList == [110, 111, 110, 101]) = false) (h0 : S.size = 1 ∨ (1 < S.size ∧ S[0]!.toNat ≠ 48)) :
    Calls Tryd.prog 10 #[.string S] w fun e w' => e = .returned (rout (rloop 0 S.data.toList)) ∧ Fr No w w' := by
  obtain ⟨hs1, hs2⟩ := hsz
  obtain ⟨T, hT⟩ : ∃ T, rout (rloop 0 S.data.toList) = T := ⟨_, rfl⟩
  have HT := hid hT
  rw [hT]
  clear hT
  go_enter Tryd.func10, Tryd.ntmps10
  rcases h0 with h0 | ⟨h0, h00⟩
  · have hz : (1 : Nat) = 1 := rfl
    go_wp2
    go_loopg [4, 5] S.size (fun g p q wr => ∃ (acc i : Nat), p = .int .i64 acc ∧ q = .int .i64 i ∧ i ≤ S.size ∧ g = S.size - i ∧ wr = w ∧ acc ≤ 4611686018427387904 ∧ rloop 0 S.data.toList = rloop acc (S.data.toList.drop i))
    case atStart => exact ⟨0, 0, rfl, rfl, by omega, rfl, rfl, by omega, rfl⟩
    case round =>
      obtain ⟨acc, i, rfl, rfl, hi, hg, rfl, hac, hr⟩ := hrel
      have HG := hid hg
      have HR := hid hr
      clear hg hr
      by_cases hlt : i < S.size
      · have hlt2 : (i : Int) < S.size := by omega
        have hx : S.data.toList.drop i = S[i] :: S.data.toList.drop (i + 1) := by
          rw [List.drop_eq_getElem_cons (by rw [Array.length_toList]; exact hlt)]
          rfl
        have hr2 := HR.out
        rw [hx, rloop_cons] at hr2
        by_cases hlo : S[i].toNat < 48
        · rw [if_pos (.inl hlo)] at hr2
          have HT2 := hid (HT.out.symm.trans (congrArg rout hr2))
          clear hr2 hx
          go_wp2
          go_ret2
          exact ⟨by rw [HT2.out]; rfl, Fr.refl _ _⟩
        · by_cases hhi : 57 < S[i].toNat
          · rw [if_pos (.inr hhi)] at hr2
            have HT2 := hid (HT.out.symm.trans (congrArg rout hr2))
            clear hr2 hx
            go_wp2
            go_ret2
            exact ⟨by rw [HT2.out]; rfl, Fr.refl _ _⟩
          · rw [if_neg (by omega)] at hr2
            by_cases hbig : (4611686018427387904 - (S[i].toNat - 48)) / 10 < acc
            · rw [if_pos hbig] at hr2
              have HT2 := hid (HT.out.symm.trans (congrArg rout hr2))
              clear hr2 hx
              go_wp2
              go_ret2
              exact ⟨by rw [HT2.out]; rfl, Fr.refl _ _⟩
            · rw [if_neg hbig] at hr2
              have HR2 := hid hr2
              clear hr2 hx
              go_wp2
              go_roundg (S.size - (i + 1))
              case measure => have := HG.out; omega
              case rel => exact ⟨10 * acc + (S[i].toNat - 48), i + 1, by go_num, by go_num, by omega, rfl, rfl, by omega, HR2.out⟩
      · have e : i = S.size := by omega
        have hr2 := HR.out
        rw [List.drop_eq_nil_of_le (by rw [Array.length_toList]; (have h9 : S.data.size = S.size := rfl); omega)] at hr2
        have HT2 := hid (HT.out.symm.trans (congrArg rout hr2))
        clear hr2
        subst e
        go_wp2
        go_ret2
        exact ⟨by rw [HT2.out]; rfl, Fr.refl _ _⟩
  · have hz : (1 : Nat) = 1 := rfl
    have h3 : (0 : Nat) < S.size := by omega
    have h4 : S[0].toNat ≠ 48 := by simpa [h3] using h00
    have h5 : ((S[0].toNat : Int) == 48) = false := by simp; omega
    go_wp2
    go_loopg [4, 5] S.size (fun g p q wr => ∃ (acc i : Nat), p = .int .i64 acc ∧ q = .int .i64 i ∧ i ≤ S.size ∧ g = S.size - i ∧ wr = w ∧ acc ≤ 4611686018427387904 ∧ rloop 0 S.data.toList = rloop acc (S.data.toList.drop i))
    case atStart => exact ⟨0, 0, rfl, rfl, by omega, rfl, rfl, by omega, rfl⟩
    case round =>
      obtain ⟨acc, i, rfl, rfl, hi, hg, rfl, hac, hr⟩ := hrel
      have HG := hid hg
      have HR := hid hr
      clear hg hr
      by_cases hlt : i < S.size
      · have hlt2 : (i : Int) < S.size := by omega
        have hx : S.data.toList.drop i = S[i] :: S.data.toList.drop (i + 1) := by
          rw [List.drop_eq_getElem_cons (by rw [Array.length_toList]; exact hlt)]
          rfl
        have hr2 := HR.out
        rw [hx, rloop_cons] at hr2
        by_cases hlo : S[i].toNat < 48
        · rw [if_pos (.inl hlo)] at hr2
          have HT2 := hid (HT.out.symm.trans (congrArg rout hr2))
          clear hr2 hx
          go_wp2
          go_ret2
          exact ⟨by rw [HT2.out]; rfl, Fr.refl _ _⟩
        · by_cases hhi : 57 < S[i].toNat
          · rw [if_pos (.inr hhi)] at hr2
            have HT2 := hid (HT.out.symm.trans (congrArg rout hr2))
            clear hr2 hx
            go_wp2
            go_ret2
            exact ⟨by rw [HT2.out]; rfl, Fr.refl _ _⟩
          · rw [if_neg (by omega)] at hr2
            by_cases hbig : (4611686018427387904 - (S[i].toNat - 48)) / 10 < acc
            · rw [if_pos hbig] at hr2
              have HT2 := hid (HT.out.symm.trans (congrArg rout hr2))
              clear hr2 hx
              go_wp2
              go_ret2
              exact ⟨by rw [HT2.out]; rfl, Fr.refl _ _⟩
            · rw [if_neg hbig] at hr2
              have HR2 := hid hr2
              clear hr2 hx
              go_wp2
              go_roundg (S.size - (i + 1))
              case measure => have := HG.out; omega
              case rel => exact ⟨10 * acc + (S[i].toNat - 48), i + 1, by go_num, by go_num, by omega, rfl, rfl, by omega, HR2.out⟩
      · have e : i = S.size := by omega
        have hr2 := HR.out
        rw [List.drop_eq_nil_of_le (by rw [Array.length_toList]; (have h9 : S.data.size = S.size := rfl); omega)] at hr2
        have HT2 := hid (HT.out.symm.trans (congrArg rout hr2))
        clear hr2
        subst e
        go_wp2
        go_ret2
        exact ⟨by rw [HT2.out]; rfl, Fr.refl _ _⟩

end Go.Proofs.YthflnhnhdgegdaaDoor
