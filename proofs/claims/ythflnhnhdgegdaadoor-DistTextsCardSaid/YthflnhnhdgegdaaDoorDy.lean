/- The law of layer 1 of texts; walked. -/
import Derived.Test.YthflnhnhdgegdaaDoorDu
import Derived.Test.YthflnhnhdgegdaaDoorDx
set_option linter.unusedVariables false
set_option linter.unusedSimpArgs false
namespace Go.Proofs.YthflnhnhdgegdaaDoor
open Go.RowKit Go.Lib Go.Sort

set_option maxRecDepth 100000 in
set_option maxHeartbeats 4000000 in
theorem texts_law (a : Int) (S : ByteArray) (w : World) (ht : TabIs Tryd.prog w "internal/strconv.uint64pow10" .u64 pow10Tab) (he1 : ErrVar w 0) (he2 : ErrVar w 1) (hm : S.size ≤ 9223372036854775807) :
    Calls Tryd.prog 3 #[.int .i64 a, .string S] w fun e w' => e = .returned (.bool true) ∧ Fr No w w' := by
  have HT := hid ht
  have HE1 := hid he1
  have HE2 := hid he2
  clear ht he1 he2
  go_enter Tryd.func3, Tryd.ntmps3
  go_wp2_with fail
  refine (awake01_calls w).mono ?_
  rintro e w0 ⟨rfl, hf⟩
  have G0 := hid hf
  clear hf
  by_cases hbig : 100 < S.size
  · go_wp2
    go_ret
    exact ⟨rfl, G0.out⟩
  · obtain ⟨v, b, hv⟩ : ∃ (v : Int) (b : Bool), tout S.data.toList = .tuple #[.int .i64 v, .bool b] := by
      unfold tout
      split
      · exact ⟨_, _, rfl⟩
      · split
        · exact ⟨_, _, rfl⟩
        · cases rnum S.data.toList with
          | some u => exact ⟨_, _, rfl⟩
          | none => exact ⟨_, _, rfl⟩
    have HV := hid hv
    clear hv
    go_wp2_with fail
    refine (parse_calls S (by omega) w0 (tab_fr HT.out G0.out) (HE1.out.fr G0.out) (HE2.out.fr G0.out)).mono ?_
    rintro e w1 ⟨rfl, hf⟩
    rw [HV.out]
    have G1 := hid (G0.out.trans hf)
    clear hf
    go_wp2_with fail
    refine (rparse_calls S w1).mono ?_
    rintro e w2 ⟨rfl, hf⟩
    rw [HV.out]
    have G2 := hid (G1.out.trans hf)
    clear hf
    go_wp2_with fail
    refine (text_calls a w2 (tab_fr HT.out G2.out)).mono ?_
    rintro e w3 ⟨rfl, hf⟩
    have G3 := hid (G2.out.trans hf)
    clear hf
    obtain ⟨Z, hZ⟩ : ∃ Z : ByteArray, (⟨(txt (normI a)).toArray⟩ : ByteArray) = Z := ⟨_, rfl⟩
    rw [hZ]
    have HZ := hid hZ
    clear hZ
    go_wp2_with fail
    refine (rtext_calls a w3).mono ?_
    rintro e w4 ⟨rfl, hf⟩
    rw [HZ.out]
    have G4 := hid (G3.out.trans hf)
    clear hf
    go_wp2
    go_ret
    exact ⟨rfl, G4.out⟩

end Go.Proofs.YthflnhnhdgegdaaDoor
