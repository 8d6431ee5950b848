/- The document's sum of two; walked. -/
import Derived.Test.YtpkocidcfnlbiaaGreatDoorBtz
import Derived.Test.YtpkocidcfnlbiaaGreatDoorMid
set_option linter.unusedVariables false
set_option linter.unusedSimpArgs false
namespace Go.Proofs.YtpkocidcfnlbiaaGreatDoor
open Go.RowKit

theorem add1_tw {a b : Int} (ha : Bd a) (hb : Bd b) : add1 a b = tw a b := by
  rw [← ad_tw ha hb]; unfold ad; rw [add1_0 ha]
/-- ringroadref01.Two at two that are distances. -/
theorem tw_calls {a b : Int} (ha : Bd a) (hb : Bd b) (w : World) : Calls Tryz.prog 35 #[.int .i64 a, .int .i64 b] w fun e w' => e = .returned (.int .i64 (tw a b)) ∧ Fr No w w' := by
  refine (rsum_calls a b w).mono ?_
  rintro e w' ⟨rfl, hf⟩
  exact ⟨by rw [norm_id ha, add1_tw ha hb], hf⟩
theorem Ix.Ok.sum2_tw {x : Ix} (h : x.Ok) (u v : Int) (k : Nat) : x.sum2 u v k = Go.Proofs.YtpkocidcfnlbiaaGreatDoor.tw (x.at_ u (x.by_ k : Nat)).w (x.at_ (x.by_ k : Nat) v).w := by
  have ha := h.at_b u (x.by_ k : Nat)
  have hb := h.at_b (x.by_ k : Nat) v
  have ha' : Bd (x.at_ u (x.by_ k : Nat)).w := ⟨by omega, ha.2⟩
  have hb' : Bd (x.at_ (x.by_ k : Nat) v).w := ⟨by omega, hb.2⟩
  unfold Ix.sum2
  rw [add1_0 ha', add1_tw ha' hb']

end Go.Proofs.YtpkocidcfnlbiaaGreatDoor
