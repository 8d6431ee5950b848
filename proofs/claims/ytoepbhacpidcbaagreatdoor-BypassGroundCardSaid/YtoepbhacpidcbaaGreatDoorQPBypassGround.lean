/- For every input the law 'BypassGround' returns true, and each argument reads behind the call as it read before. Conditions: the standing ones of the form; the package's variable 'none' holds what its initialiser lays (the card ties it to the program's text). -/

import Derived.Test.YtoepbhacpidcbaaGreatDoorQBase
import Derived.Test.YtoepbhacpidcbaaGreatDoorQIdx
import Derived.Test.YtoepbhacpidcbaaGreatDoorQIdxB
import Derived.Test.YtoepbhacpidcbaaGreatDoorQPerm
import Derived.Test.YtoepbhacpidcbaaGreatDoorQRef
import Derived.Test.YtoepbhacpidcbaaGreatDoorQBig
import Derived.Test.YtoepbhacpidcbaaGreatDoorQUnref
import Derived.Test.YtoepbhacpidcbaaGreatDoorQUnE
import Derived.Test.YtoepbhacpidcbaaGreatDoorQItr
import Derived.Test.YtoepbhacpidcbaaGreatDoorQDst
import Derived.Test.YtoepbhacpidcbaaGreatDoorQLnk
import Derived.Test.YtoepbhacpidcbaaGreatDoorQRow2
import Derived.Test.YtoepbhacpidcbaaGreatDoorQGr
import Derived.Test.YtoepbhacpidcbaaGreatDoorQGOps
import Derived.Test.YtoepbhacpidcbaaGreatDoorQBld
import Derived.Test.YtoepbhacpidcbaaGreatDoorQBW
import Derived.Test.YtoepbhacpidcbaaGreatDoorQHpK
import Derived.Test.YtoepbhacpidcbaaGreatDoorQG8
import Derived.Test.YtoepbhacpidcbaaGreatDoorQSqO
import Derived.Test.YtoepbhacpidcbaaGreatDoorQGoes
import Derived.Test.YtoepbhacpidcbaaGreatDoorQUp
import Derived.Test.YtoepbhacpidcbaaGreatDoorQSetP
import Derived.Test.YtoepbhacpidcbaaGreatDoorQWay
import Derived.Test.YtoepbhacpidcbaaGreatDoorQIn1
import Derived.Test.YtoepbhacpidcbaaGreatDoorQAll
import Derived.Test.YtoepbhacpidcbaaGreatDoorQAw6
import Derived.Test.YtoepbhacpidcbaaGreatDoorQMe
import Derived.Test.YtoepbhacpidcbaaGreatDoorQDv1
import Derived.Test.YtoepbhacpidcbaaGreatDoorQSt
import Derived.Test.YtoepbhacpidcbaaGreatDoorQOu1
import Derived.Test.YtoepbhacpidcbaaGreatDoorQSp
import Derived.Test.YtoepbhacpidcbaaGreatDoorQPa
import Derived.Test.YtoepbhacpidcbaaGreatDoorQBpE
import Derived.Test.YtoepbhacpidcbaaGreatDoorQRow
import Derived.Test.YtoepbhacpidcbaaGreatDoorQRowG
import Derived.Test.YtoepbhacpidcbaaGreatDoorQR9
import Derived.Test.YtoepbhacpidcbaaGreatDoorQRf
import Derived.Test.YtoepbhacpidcbaaGreatDoorQBpG


set_option linter.all false
namespace Go.Proofs.YtoepbhacpidcbaaGreatDoor.bypassGround
open Go.ChangeShapes Go.WideShapes Go.ChangeAt Go.RowKit Go.Deep

set_option maxRecDepth 100000 in
set_option maxHeartbeats 1000000 in
theorem contract (H : Type) (enc : TypeId × Value → H) (W : World) (base : Nat) (args : Array Value) (ds gs : List (DataW H)) (before : List MemPlace)
    (hval : ∀ (j : Nat) t v, Tryz.f4.params[j]? = some t → args[j]? = some v → Value.okWide Tryz.prog W .any base t v)
    (hW : DataW.Whole enc Tryz.prog Tryz.f4.params.toList Rows.bypassGroundSpec.vars false W args.toList ds gs before)
    (hz : (DataW.weightsEach Tryz.prog (Tryz.f4.params.toList ++ (OpenSpec.ofChange Rows.bypassGroundSpec).bare.plain.varTypes Tryz.prog) (ds ++ gs)).all (· ≤ reachBytes) = true)
    (hL : laidMetH Tryz.prog Rows.bypassGroundRow.laid W) :
    Calls Tryz.prog 4 args W fun e W' => ∃ v, e = .returned v ∧ Rows.bypassGroundSpec.post enc Tryz.prog Tryz.f4 false true false false W args v W' := by
  have hW' := hW
  obtain ⟨p, q, hA0, hV, rfl, hfz, hnd⟩ := hW
  have hA : DataW.TrodAll enc Tryz.prog W 0 (fun _ => true) true Tryz.f4.params.toList args.toList ds p := hA0
  have hA1 := hA
  rw [Tryz.params4] at hA hval hA1
  obtain ⟨v0, vs0, d0, ds0, p0, q0, hargs, rfl, rfl, h0, r0⟩ := trodAll_cons hA
  obtain ⟨v1, vs1, d1, ds1, p1, q1, rfl, rfl, rfl, h1, r1⟩ := trodAll_cons r0
  obtain ⟨v2, vs2, d2, ds2, p2, q2, rfl, rfl, rfl, h2, r2⟩ := trodAll_cons r1
  obtain ⟨v3, vs3, d3, ds3, p3, q3, rfl, rfl, rfl, h3, r3⟩ := trodAll_cons r2
  obtain ⟨v4, vs4, d4, ds4, p4, q4, rfl, rfl, rfl, h4, r4⟩ := trodAll_cons r3
  obtain ⟨v5, vs5, d5, ds5, p5, q5, rfl, rfl, rfl, h5, r5⟩ := trodAll_cons r4
  obtain ⟨rfl, rfl, rfl⟩ := trodAll_nil r5
  obtain rfl : args = #[v0, v1, v2, v3, v4, v5] := Array.toList_inj.1 hargs
  obtain ⟨rfl, rfl⟩ := trodVars_none hV
  obtain ⟨n0, rfl, rfl, _, wf0⟩ := open_int Tryz.underlying5 (hval 0 5 v0 rfl rfl) h0
  have b0 : 0 ≤ n0 ∧ n0 ≤ 255 := by have := wf0; simp [Lit.wf] at this; exact ⟨this.1, this.2⟩
  obtain ⟨n1, rfl, rfl, _, wf1⟩ := open_int Tryz.underlying22 (hval 1 22 v1 rfl rfl) h1
  have b1 : 0 ≤ n1 ∧ n1 ≤ 18446744073709551615 := by have := wf1; simp [Lit.wf] at this; exact ⟨this.1, this.2⟩
  obtain ⟨A2, ln2, cp2, lk2, rfl, hl2, hs2⟩ := open_links (hval 2 23 v2 rfl rfl) h2
  have b2 : ln2 ≤ 140737488351232 := by
    rcases hs2 with rfl | ⟨es, rest, rfl, rfl⟩
    · omega
    · have := sized_slice hz (j := 2) rfl rfl Tryz.underlying23
      rw [show Tryz.prog.bytesOf 120 = 40 by kernel_rfl] at this
      unfold reachBytes at this; omega
  obtain ⟨A3, ln3, cp3, ch3, rfl, hl3, hs3⟩ := open_chgs (hval 3 24 v3 rfl rfl) h3
  have b3 : ln3 ≤ 140737488351232 := by
    rcases hs3 with rfl | ⟨es, rest, rfl, rfl⟩
    · omega
    · have := sized_slice hz (j := 3) rfl rfl Tryz.underlying24
      rw [show Tryz.prog.bytesOf 64 = 48 by kernel_rfl] at this
      unfold reachBytes at this; omega
  obtain ⟨n4, rfl, rfl, _, wf4⟩ := open_int Tryz.underlying3 (hval 4 3 v4 rfl rfl) h4
  obtain ⟨n5, rfl, rfl, _, wf5⟩ := open_int Tryz.underlying5 (hval 5 5 v5 rfl rfl) h5
  have b5 : 0 ≤ n5 ∧ n5 ≤ 255 := by have := wf5; simp [Lit.wf] at this; exact ⟨this.1, this.2⟩
  have hN : NoneVar W := noneVar_of hL
  clear hA0 hz
  obtain ⟨n0, rfl⟩ := Int.eq_ofNat_of_zero_le b0.1
  obtain ⟨n1, rfl⟩ := Int.eq_ofNat_of_zero_le b1.1
  obtain ⟨n5, rfl⟩ := Int.eq_ofNat_of_zero_le b5.1
  refine (byground_law n0 n1 A2 ln2 cp2 lk2 A3 ln3 cp3 ch3 n4 n5 W (by omega) b1.2 hl2 b2 hl3 b3 (by omega) hN).mono fun e W' ⟨he, hf⟩ => ?_
  subst he
  have hb := hf.below
  refine ⟨_, rfl, _, _, _, [], _, [], hW', ?_, trodAll_below hb _ _ _ _ (by kernel_rfl) (by rw [← Tryz.params4] at hA1; exact hA1) (fun x hx => by have := hW'.lt x (by simpa using hx); simpa using this), rfl, hb.frame _, fun h => by cases h⟩
  exact trodAll_mk1 (shut_bool Tryz.underlying4 _)

theorem laid_met (os : Os) : laidMet Tryz.prog Rows.bypassGroundRow.laid ((rowWorld os).forCall (fun _ _ => 0) ⟨#[], #[.int .u8 0, .int .u64 0, .slice none 0 0, .slice none 0 0, .int .i64 0, .int .u8 0], []⟩).memory :=
  laidMet_of_run' 8 (by kernel_rfl) (by kernel_rfl)
theorem reads (os : Os) {H : Type} (enc : TypeId × Value → H) : ∃ ds places, DataW.whole enc Tryz.prog ((rowWorld os).forCall (fun _ _ => 0) ⟨#[], #[.int .u8 0, .int .u64 0, .slice none 0 0, .slice none 0 0, .int .i64 0, .int .u8 0], []⟩).memory Tryz.f4.params.toList Rows.bypassGroundSpec.vars false (#[.int .u8 0, .int .u64 0, .slice none 0 0, .slice none 0 0, .int .i64 0, .int .u8 0] : Array Value).toList 8 = some (ds, [], places) :=
  ⟨[.lit (.int .u8 0), .lit (.int .u64 0), .nil, .nil, .lit (.int .i64 0), .lit (.int .u8 0)], [], by kernel_rfl⟩

set_option maxRecDepth 100000 in
theorem lifted (os : Os) (started : os.Started) (H : Type) (enc : TypeId × Value → H) (F : Stop.Interp) :
    ReturnsInHanded {} Tryz.checked os 4 .any ((OpenSpec.ofChange Rows.bypassGroundSpec).preRow enc Tryz.prog Tryz.f4 Rows.bypassGroundRow.domain false Rows.bypassGroundRow.laid) (((OpenSpec.ofChange Rows.bypassGroundSpec).at F).post enc Tryz.prog Tryz.f4 false true false false) := by
  have hx : DataW.whole enc Tryz.prog ((rowWorld os).forCall (fun _ _ => 0) ⟨#[], #[.int .u8 0, .int .u64 0, .slice none 0 0, .slice none 0 0, .int .i64 0, .int .u8 0], []⟩).memory Tryz.f4.params.toList Rows.bypassGroundSpec.vars false (#[.int .u8 0, .int .u64 0, .slice none 0 0, .slice none 0 0, .int .i64 0, .int .u8 0] : Array Value).toList 8 = some ([.lit (.int .u8 0), .lit (.int .u64 0), .nil, .nil, .lit (.int .i64 0), .lit (.int .u8 0)], [], []) := by kernel_rfl
  refine returnsInHanded_of_row (C := Tryz.checked) (s := OpenSpec.ofChange Rows.bypassGroundSpec) rowOwn started (by kernel_rfl) Tryz.func4
    (witness_row_at (enc := enc) (C := Tryz.checked) false (rowWorld os) #[.int .u8 0, .int .u64 0, .slice none 0 0, .slice none 0 0, .int .i64 0, .int .u8 0] rfl (by kernel_rfl) (by kernel_rfl) (by kernel_rfl)
      (OpenSpec.preRow_of_cond 8 hx (by kernel_rfl) (fun k hk => by cases hk) (by kernel_rfl) (laid_met os))) ?_
  intro W base args ds gs before hval hW _ _ hz hL _ _
  exact contract H enc W base args ds gs before hval hW hz hL

theorem said : Rows.BypassGroundSaid :=
  OpenClaim.holds_of_cond 4 Tryz.f4 rfl rfl rfl rfl rfl rfl rfl ⟨rfl, rfl, rfl, rfl, rfl⟩ rfl rfl rfl rfl rfl (by kernel_rfl) Tryz.func4 (by kernel_rfl)
    (of_decide_eq_true (by kernel_rfl)) (by unfold Func.isWrapper; first | (rw [if_pos (by decide +kernel)]; kernel_rfl) | (rw [if_neg (by decide +kernel)]; exact ⟨rfl, rfl⟩))
    (fun os started H enc _ F => by rw [OpenClaim.pre_eq_preRow]; exact lifted os started H enc F)

theorem plain (f : FuncId) (fn : Func) (hf : Tryz.pinned.checked.prog.funcNamed "ringroad/ringroadlaw22.BypassGround" = some f) (hfn : Tryz.pinned.checked.prog.funcs[f]? = some fn) :
    true = Tryz.pinned.checked.prog.looks [] ∧ ∀ (j : Nat) t, fn.params[j]? = some t → Tryz.pinned.checked.prog.wantsStandIn t = false := by
  obtain rfl : f = 4 := Option.some.inj ((show Tryz.prog.funcNamed "ringroad/ringroadlaw22.BypassGround" = some 4 by kernel_rfl).symm.trans hf) |>.symm
  obtain rfl : fn = Tryz.f4 := (Option.some.inj (Tryz.func4.symm.trans hfn)).symm
  refine ⟨by kernel_rfl, fun j t ht => ?_⟩
  rw [Tryz.params4] at ht
  have hm := Array.mem_of_getElem? ht
  have hm' : t = 5 ∨ t = 22 ∨ t = 23 ∨ t = 24 ∨ t = 3 ∨ t = 5 := by simpa using hm
  rcases hm' with rfl | rfl | rfl | rfl | rfl | rfl
  · exact (show Tryz.prog.wantsStandIn 5 = false by kernel_rfl)
  · exact (show Tryz.prog.wantsStandIn 22 = false by kernel_rfl)
  · exact (show Tryz.prog.wantsStandIn 23 = false by kernel_rfl)
  · exact (show Tryz.prog.wantsStandIn 24 = false by kernel_rfl)
  · exact (show Tryz.prog.wantsStandIn 3 = false by kernel_rfl)
  · exact (show Tryz.prog.wantsStandIn 5 = false by kernel_rfl)

theorem card : Rows.BypassGroundCardSaid :=
  Claim7.holds_tied_plain_at .later [] _ _ _ _ said (fun _ h => by cases h) (by kernel_rfl) (fun _ h => by cases h) bypassGround_row_tie rfl ⟨rfl, rfl⟩ (by kernel_rfl) rfl plain (by kernel_rfl)
end Go.Proofs.YtoepbhacpidcbaaGreatDoor.bypassGround
