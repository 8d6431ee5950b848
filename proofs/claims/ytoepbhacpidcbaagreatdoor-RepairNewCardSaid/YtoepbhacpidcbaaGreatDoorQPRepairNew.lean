/- For every input the law 'RepairNew' returns true, and each argument reads behind the call as it read before. Conditions: the standing ones of the form; the package's variable 'none' holds what its initialiser lays (the card ties it to the program's text). -/

import Derived.Test.YtoepbhacpidcbaaGreatDoorQBase
import Derived.Test.YtoepbhacpidcbaaGreatDoorQIdx
import Derived.Test.YtoepbhacpidcbaaGreatDoorQPerm
import Derived.Test.YtoepbhacpidcbaaGreatDoorQIdxB
import Derived.Test.YtoepbhacpidcbaaGreatDoorQRef
import Derived.Test.YtoepbhacpidcbaaGreatDoorQUnref
import Derived.Test.YtoepbhacpidcbaaGreatDoorQItr
import Derived.Test.YtoepbhacpidcbaaGreatDoorQUnE
import Derived.Test.YtoepbhacpidcbaaGreatDoorQDst
import Derived.Test.YtoepbhacpidcbaaGreatDoorQLnk
import Derived.Test.YtoepbhacpidcbaaGreatDoorQLks
import Derived.Test.YtoepbhacpidcbaaGreatDoorQMid
import Derived.Test.YtoepbhacpidcbaaGreatDoorQBig
import Derived.Test.YtoepbhacpidcbaaGreatDoorQCp2
import Derived.Test.YtoepbhacpidcbaaGreatDoorQGoes
import Derived.Test.YtoepbhacpidcbaaGreatDoorQGOps
import Derived.Test.YtoepbhacpidcbaaGreatDoorQGB
import Derived.Test.YtoepbhacpidcbaaGreatDoorQG8
import Derived.Test.YtoepbhacpidcbaaGreatDoorQWh
import Derived.Test.YtoepbhacpidcbaaGreatDoorQDMov
import Derived.Test.YtoepbhacpidcbaaGreatDoorQWk
import Derived.Test.YtoepbhacpidcbaaGreatDoorQBt1
import Derived.Test.YtoepbhacpidcbaaGreatDoorQHpK
import Derived.Test.YtoepbhacpidcbaaGreatDoorQOc
import Derived.Test.YtoepbhacpidcbaaGreatDoorQSqO
import Derived.Test.YtoepbhacpidcbaaGreatDoorQAps
import Derived.Test.YtoepbhacpidcbaaGreatDoorQKq
import Derived.Test.YtoepbhacpidcbaaGreatDoorQRBt
import Derived.Test.YtoepbhacpidcbaaGreatDoorQAll
import Derived.Test.YtoepbhacpidcbaaGreatDoorQWhl
import Derived.Test.YtoepbhacpidcbaaGreatDoorQKl
import Derived.Test.YtoepbhacpidcbaaGreatDoorQRB
import Derived.Test.YtoepbhacpidcbaaGreatDoorQRbd
import Derived.Test.YtoepbhacpidcbaaGreatDoorQBuL
import Derived.Test.YtoepbhacpidcbaaGreatDoorQClb
import Derived.Test.YtoepbhacpidcbaaGreatDoorQKs
import Derived.Test.YtoepbhacpidcbaaGreatDoorQAw19
import Derived.Test.YtoepbhacpidcbaaGreatDoorQKt
import Derived.Test.YtoepbhacpidcbaaGreatDoorQRnL
import Derived.Test.YtoepbhacpidcbaaGreatDoorQRow
import Derived.Test.YtoepbhacpidcbaaGreatDoorQRowG
import Derived.Test.YtoepbhacpidcbaaGreatDoorQRowR


set_option linter.all false
namespace Go.Proofs.YtoepbhacpidcbaaGreatDoor.repairNew
open Go.ChangeShapes Go.WideShapes Go.ChangeAt Go.RowKit Go.Deep

set_option maxRecDepth 100000 in
set_option maxHeartbeats 1000000 in
theorem contract (H : Type) (enc : TypeId × Value → H) (W : World) (base : Nat) (args : Array Value) (ds gs : List (DataW H)) (before : List MemPlace)
    (hval : ∀ (j : Nat) t v, Tryz.f10.params[j]? = some t → args[j]? = some v → Value.okWide Tryz.prog W .any base t v)
    (hW : DataW.Whole enc Tryz.prog Tryz.f10.params.toList Rows.repairNewSpec.vars false W args.toList ds gs before)
    (hz : (DataW.weightsEach Tryz.prog (Tryz.f10.params.toList ++ (OpenSpec.ofChange Rows.repairNewSpec).bare.plain.varTypes Tryz.prog) (ds ++ gs)).all (· ≤ reachBytes) = true)
    (hL : laidMetH Tryz.prog Rows.repairNewRow.laid W) :
    Calls Tryz.prog 10 args W fun e W' => ∃ v, e = .returned v ∧ Rows.repairNewSpec.post enc Tryz.prog Tryz.f10 false true false false W args v W' := by
  have hW' := hW
  obtain ⟨p, q, hA0, hV, rfl, hfz, hnd⟩ := hW
  have hA : DataW.TrodAll enc Tryz.prog W 0 (fun _ => true) true Tryz.f10.params.toList args.toList ds p := hA0
  have hA1 := hA
  rw [Tryz.params10] at hA hval hA1
  obtain ⟨v0, vs0, d0, ds0, p0, q0, hargs, rfl, rfl, h0, r0⟩ := trodAll_cons hA
  obtain ⟨v1, vs1, d1, ds1, p1, q1, rfl, rfl, rfl, h1, r1⟩ := trodAll_cons r0
  obtain ⟨v2, vs2, d2, ds2, p2, q2, rfl, rfl, rfl, h2, r2⟩ := trodAll_cons r1
  obtain ⟨rfl, rfl, rfl⟩ := trodAll_nil r2
  obtain rfl : args = #[v0, v1, v2] := Array.toList_inj.1 hargs
  obtain ⟨rfl, rfl⟩ := trodVars_none hV
  obtain ⟨n0, rfl, rfl, _, wf0⟩ := open_int Tryz.underlying5 (hval 0 5 v0 rfl rfl) h0
  have b0 : 0 ≤ n0 ∧ n0 ≤ 255 := by have := wf0; simp [Lit.wf] at this; exact ⟨this.1, this.2⟩
  obtain ⟨A1, ln1, cp1, ch1, rfl, hl1, hs1⟩ := open_chgs (hval 1 24 v1 rfl rfl) h1
  have b1 : ln1 ≤ 140737488351232 := by
    rcases hs1 with rfl | ⟨es, rest, rfl, rfl⟩
    · omega
    · have := sized_slice hz (j := 1) rfl rfl Tryz.underlying24
      rw [show Tryz.prog.bytesOf 64 = 48 by kernel_rfl] at this
      unfold reachBytes at this; omega
  obtain ⟨n2, rfl, rfl, _, wf2⟩ := open_int Tryz.underlying22 (hval 2 22 v2 rfl rfl) h2
  have b2 : 0 ≤ n2 ∧ n2 ≤ 18446744073709551615 := by have := wf2; simp [Lit.wf] at this; exact ⟨this.1, this.2⟩
  obtain ⟨hN, hT⟩ := repair_vars hL
  clear hA0 hz
  obtain ⟨n0, rfl⟩ := Int.eq_ofNat_of_zero_le b0.1
  obtain ⟨n2, rfl⟩ := Int.eq_ofNat_of_zero_le b2.1
  refine (rnew_law n0 A1 ln1 cp1 ch1 n2 W (by omega) hl1 b1 b2.2 hN hT).mono fun e W' ⟨he, hf⟩ => ?_
  subst he
  have hb := hf.below
  refine ⟨_, rfl, _, _, _, [], _, [], hW', ?_, trodAll_below hb _ _ _ _ (by kernel_rfl) (by rw [← Tryz.params10] at hA1; exact hA1) (fun x hx => by have := hW'.lt x (by simpa using hx); simpa using this), rfl, hb.frame _, fun h => by cases h⟩
  exact trodAll_mk1 (shut_bool Tryz.underlying4 _)

theorem laid_met (os : Os) : laidMet Tryz.prog Rows.repairNewRow.laid ((rowWorldT os).forCall (fun _ _ => 0) ⟨#[], #[.int .u8 0, .slice none 0 0, .int .u64 0], []⟩).memory :=
  laidMet_of_run' 8 (by kernel_rfl) (by kernel_rfl)
theorem reads (os : Os) {H : Type} (enc : TypeId × Value → H) : ∃ ds places, DataW.whole enc Tryz.prog ((rowWorldT os).forCall (fun _ _ => 0) ⟨#[], #[.int .u8 0, .slice none 0 0, .int .u64 0], []⟩).memory Tryz.f10.params.toList Rows.repairNewSpec.vars false (#[.int .u8 0, .slice none 0 0, .int .u64 0] : Array Value).toList 8 = some (ds, [], places) :=
  ⟨[.lit (.int .u8 0), .nil, .lit (.int .u64 0)], [], by kernel_rfl⟩

set_option maxRecDepth 100000 in
theorem lifted (os : Os) (started : os.Started) (H : Type) (enc : TypeId × Value → H) (F : Stop.Interp) :
    ReturnsInHanded {} Tryz.checked os 10 .any ((OpenSpec.ofChange Rows.repairNewSpec).preRow enc Tryz.prog Tryz.f10 Rows.repairNewRow.domain false Rows.repairNewRow.laid) (((OpenSpec.ofChange Rows.repairNewSpec).at F).post enc Tryz.prog Tryz.f10 false true false false) := by
  have hx : DataW.whole enc Tryz.prog ((rowWorldT os).forCall (fun _ _ => 0) ⟨#[], #[.int .u8 0, .slice none 0 0, .int .u64 0], []⟩).memory Tryz.f10.params.toList Rows.repairNewSpec.vars false (#[.int .u8 0, .slice none 0 0, .int .u64 0] : Array Value).toList 8 = some ([.lit (.int .u8 0), .nil, .lit (.int .u64 0)], [], []) := by kernel_rfl
  refine returnsInHanded_of_row (C := Tryz.checked) (s := OpenSpec.ofChange Rows.repairNewSpec) rowOwn started (by kernel_rfl) Tryz.func10
    (witness_row_at (enc := enc) (C := Tryz.checked) false (rowWorldT os) #[.int .u8 0, .slice none 0 0, .int .u64 0] rfl (by kernel_rfl) (by kernel_rfl) (by kernel_rfl)
      (OpenSpec.preRow_of_cond 8 hx (by kernel_rfl) (fun k hk => by cases hk) (by kernel_rfl) (laid_met os))) ?_
  intro W base args ds gs before hval hW _ _ hz hL _ _
  exact contract H enc W base args ds gs before hval hW hz hL

theorem said : Rows.RepairNewSaid :=
  OpenClaim.holds_of_cond 10 Tryz.f10 rfl rfl rfl rfl rfl rfl rfl ⟨rfl, rfl, rfl, rfl, rfl⟩ rfl rfl rfl rfl rfl (by kernel_rfl) Tryz.func10 (by kernel_rfl)
    (of_decide_eq_true (by kernel_rfl)) (by unfold Func.isWrapper; first | (rw [if_pos (by decide +kernel)]; kernel_rfl) | (rw [if_neg (by decide +kernel)]; exact ⟨rfl, rfl⟩))
    (fun os started H enc _ F => by rw [OpenClaim.pre_eq_preRow]; exact lifted os started H enc F)

theorem plain (f : FuncId) (fn : Func) (hf : Tryz.pinned.checked.prog.funcNamed "ringroad/ringroadlaw19.RepairNew" = some f) (hfn : Tryz.pinned.checked.prog.funcs[f]? = some fn) :
    true = Tryz.pinned.checked.prog.looks [] ∧ ∀ (j : Nat) t, fn.params[j]? = some t → Tryz.pinned.checked.prog.wantsStandIn t = false := by
  obtain rfl : f = 10 := Option.some.inj ((show Tryz.prog.funcNamed "ringroad/ringroadlaw19.RepairNew" = some 10 by kernel_rfl).symm.trans hf) |>.symm
  obtain rfl : fn = Tryz.f10 := (Option.some.inj (Tryz.func10.symm.trans hfn)).symm
  refine ⟨by kernel_rfl, fun j t ht => ?_⟩
  rw [Tryz.params10] at ht
  have hm := Array.mem_of_getElem? ht
  have hm' : t = 5 ∨ t = 24 ∨ t = 22 := by simpa using hm
  rcases hm' with rfl | rfl | rfl
  · exact (show Tryz.prog.wantsStandIn 5 = false by kernel_rfl)
  · exact (show Tryz.prog.wantsStandIn 24 = false by kernel_rfl)
  · exact (show Tryz.prog.wantsStandIn 22 = false by kernel_rfl)

theorem card : Rows.RepairNewCardSaid :=
  Claim7.holds_tied_plain_at .later [] _ _ _ _ said (fun _ h => by cases h) (by kernel_rfl) (fun _ h => by cases h) repairNew_row_tie rfl ⟨rfl, rfl⟩ (by kernel_rfl) rfl plain (by kernel_rfl)
end Go.Proofs.YtoepbhacpidcbaaGreatDoor.repairNew
