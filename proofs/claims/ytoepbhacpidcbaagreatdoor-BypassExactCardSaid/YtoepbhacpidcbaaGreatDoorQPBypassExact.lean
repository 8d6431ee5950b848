/- For every input the law 'BypassExact' returns true, and each argument reads behind the call as it read before. Conditions: the standing ones of the form; the package's variable 'none' holds what its initialiser lays (the card ties it to the program's text). -/

import Derived.Test.YtoepbhacpidcbaaGreatDoorQBase
import Derived.Test.YtoepbhacpidcbaaGreatDoorQIdx
import Derived.Test.YtoepbhacpidcbaaGreatDoorQIdxB
import Derived.Test.YtoepbhacpidcbaaGreatDoorQPerm
import Derived.Test.YtoepbhacpidcbaaGreatDoorQRef
import Derived.Test.YtoepbhacpidcbaaGreatDoorQBig
import Derived.Test.YtoepbhacpidcbaaGreatDoorQUnref
import Derived.Test.YtoepbhacpidcbaaGreatDoorQUnE
import Derived.Test.YtoepbhacpidcbaaGreatDoorQItr
import Derived.Test.YtoepbhacpidcbaaGreatDoorQDst
import Derived.Test.YtoepbhacpidcbaaGreatDoorQLnk
import Derived.Test.YtoepbhacpidcbaaGreatDoorQRow2
import Derived.Test.YtoepbhacpidcbaaGreatDoorQGr
import Derived.Test.YtoepbhacpidcbaaGreatDoorQGOps
import Derived.Test.YtoepbhacpidcbaaGreatDoorQBld
import Derived.Test.YtoepbhacpidcbaaGreatDoorQBW
import Derived.Test.YtoepbhacpidcbaaGreatDoorQHpK
import Derived.Test.YtoepbhacpidcbaaGreatDoorQG8
import Derived.Test.YtoepbhacpidcbaaGreatDoorQSqO
import Derived.Test.YtoepbhacpidcbaaGreatDoorQGoes
import Derived.Test.YtoepbhacpidcbaaGreatDoorQUp
import Derived.Test.YtoepbhacpidcbaaGreatDoorQSetP
import Derived.Test.YtoepbhacpidcbaaGreatDoorQWay
import Derived.Test.YtoepbhacpidcbaaGreatDoorQIn1
import Derived.Test.YtoepbhacpidcbaaGreatDoorQAll
import Derived.Test.YtoepbhacpidcbaaGreatDoorQAw6
import Derived.Test.YtoepbhacpidcbaaGreatDoorQMe
import Derived.Test.YtoepbhacpidcbaaGreatDoorQDv1
import Derived.Test.YtoepbhacpidcbaaGreatDoorQSt
import Derived.Test.YtoepbhacpidcbaaGreatDoorQOu1
import Derived.Test.YtoepbhacpidcbaaGreatDoorQSp
import Derived.Test.YtoepbhacpidcbaaGreatDoorQPa
import Derived.Test.YtoepbhacpidcbaaGreatDoorQBpE
import Derived.Test.YtoepbhacpidcbaaGreatDoorQRow
import Derived.Test.YtoepbhacpidcbaaGreatDoorQRowG


set_option linter.all false
namespace Go.Proofs.YtoepbhacpidcbaaGreatDoor.bypassExact
open Go.ChangeShapes Go.WideShapes Go.ChangeAt Go.RowKit Go.Deep

set_option maxRecDepth 100000 in
set_option maxHeartbeats 1000000 in
theorem contract (H : Type) (enc : TypeId × Value → H) (W : World) (base : Nat) (args : Array Value) (ds gs : List (DataW H)) (before : List MemPlace)
    (hval : ∀ (j : Nat) t v, Tryz.f11.params[j]? = some t → args[j]? = some v → Value.okWide Tryz.prog W .any base t v)
    (hW : DataW.Whole enc Tryz.prog Tryz.f11.params.toList Rows.bypassExactSpec.vars false W args.toList ds gs before)
    (hz : (DataW.weightsEach Tryz.prog (Tryz.f11.params.toList ++ (OpenSpec.ofChange Rows.bypassExactSpec).bare.plain.varTypes Tryz.prog) (ds ++ gs)).all (· ≤ reachBytes) = true)
    (hL : laidMetH Tryz.prog Rows.bypassExactRow.laid W) :
    Calls Tryz.prog 11 args W fun e W' => ∃ v, e = .returned v ∧ Rows.bypassExactSpec.post enc Tryz.prog Tryz.f11 false true false false W args v W' := by
  have hW' := hW
  obtain ⟨p, q, hA0, hV, rfl, hfz, hnd⟩ := hW
  have hA : DataW.TrodAll enc Tryz.prog W 0 (fun _ => true) true Tryz.f11.params.toList args.toList ds p := hA0
  have hA1 := hA
  rw [Tryz.params11] at hA hval hA1
  obtain ⟨v0, vs0, d0, ds0, p0, q0, hargs, rfl, rfl, h0, r0⟩ := trodAll_cons hA
  obtain ⟨v1, vs1, d1, ds1, p1, q1, rfl, rfl, rfl, h1, r1⟩ := trodAll_cons r0
  obtain ⟨v2, vs2, d2, ds2, p2, q2, rfl, rfl, rfl, h2, r2⟩ := trodAll_cons r1
  obtain ⟨v3, vs3, d3, ds3, p3, q3, rfl, rfl, rfl, h3, r3⟩ := trodAll_cons r2
  obtain ⟨v4, vs4, d4, ds4, p4, q4, rfl, rfl, rfl, h4, r4⟩ := trodAll_cons r3
  obtain ⟨rfl, rfl, rfl⟩ := trodAll_nil r4
  obtain rfl : args = #[v0, v1, v2, v3, v4] := Array.toList_inj.1 hargs
  obtain ⟨rfl, rfl⟩ := trodVars_none hV
  obtain ⟨n0, rfl, rfl, _, wf0⟩ := open_int Tryz.underlying5 (hval 0 5 v0 rfl rfl) h0
  have b0 : 0 ≤ n0 ∧ n0 ≤ 255 := by have := wf0; simp [Lit.wf] at this; exact ⟨this.1, this.2⟩
  obtain ⟨A1, ln1, cp1, ch1, rfl, hl1, hs1⟩ := open_chgs (hval 1 24 v1 rfl rfl) h1
  have b1 : ln1 ≤ 140737488351232 := by
    rcases hs1 with rfl | ⟨es, rest, rfl, rfl⟩
    · omega
    · have := sized_slice hz (j := 1) rfl rfl Tryz.underlying24
      rw [show Tryz.prog.bytesOf 64 = 48 by kernel_rfl] at this
      unfold reachBytes at this; omega
  obtain ⟨n2, rfl, rfl, _, wf2⟩ := open_int Tryz.underlying22 (hval 2 22 v2 rfl rfl) h2
  have b2 : 0 ≤ n2 ∧ n2 ≤ 18446744073709551615 := by have := wf2; simp [Lit.wf] at this; exact ⟨this.1, this.2⟩
  obtain ⟨n3, rfl, rfl, _, wf3⟩ := open_int Tryz.underlying3 (hval 3 3 v3 rfl rfl) h3
  obtain ⟨A4, ln4, cp4, lk4, rfl, hl4, hs4⟩ := open_links (hval 4 23 v4 rfl rfl) h4
  have b4 : ln4 ≤ 140737488351232 := by
    rcases hs4 with rfl | ⟨es, rest, rfl, rfl⟩
    · omega
    · have := sized_slice hz (j := 4) rfl rfl Tryz.underlying23
      rw [show Tryz.prog.bytesOf 120 = 40 by kernel_rfl] at this
      unfold reachBytes at this; omega
  have hN : NoneVar W := noneVar_of hL
  clear hA0 hz
  obtain ⟨n0, rfl⟩ := Int.eq_ofNat_of_zero_le b0.1
  obtain ⟨n2, rfl⟩ := Int.eq_ofNat_of_zero_le b2.1
  refine (byexact_law n0 A1 ln1 cp1 ch1 n2 n3 A4 ln4 cp4 lk4 W (by omega) hl1 b1 b2.2 hl4 b4 hN).mono fun e W' ⟨he, hf⟩ => ?_
  subst he
  have hb := hf.below
  refine ⟨_, rfl, _, _, _, [], _, [], hW', ?_, trodAll_below hb _ _ _ _ (by kernel_rfl) (by rw [← Tryz.params11] at hA1; exact hA1) (fun x hx => by have := hW'.lt x (by simpa using hx); simpa using this), rfl, hb.frame _, fun h => by cases h⟩
  exact trodAll_mk1 (shut_bool Tryz.underlying4 _)

theorem laid_met (os : Os) : laidMet Tryz.prog Rows.bypassExactRow.laid ((rowWorld os).forCall (fun _ _ => 0) ⟨#[], #[.int .u8 0, .slice none 0 0, .int .u64 0, .int .i64 0, .slice none 0 0], []⟩).memory :=
  laidMet_of_run' 8 (by kernel_rfl) (by kernel_rfl)
theorem reads (os : Os) {H : Type} (enc : TypeId × Value → H) : ∃ ds places, DataW.whole enc Tryz.prog ((rowWorld os).forCall (fun _ _ => 0) ⟨#[], #[.int .u8 0, .slice none 0 0, .int .u64 0, .int .i64 0, .slice none 0 0], []⟩).memory Tryz.f11.params.toList Rows.bypassExactSpec.vars false (#[.int .u8 0, .slice none 0 0, .int .u64 0, .int .i64 0, .slice none 0 0] : Array Value).toList 8 = some (ds, [], places) :=
  ⟨[.lit (.int .u8 0), .nil, .lit (.int .u64 0), .lit (.int .i64 0), .nil], [], by kernel_rfl⟩

set_option maxRecDepth 100000 in
theorem lifted (os : Os) (started : os.Started) (H : Type) (enc : TypeId × Value → H) (F : Stop.Interp) :
    ReturnsInHanded {} Tryz.checked os 11 .any ((OpenSpec.ofChange Rows.bypassExactSpec).preRow enc Tryz.prog Tryz.f11 Rows.bypassExactRow.domain false Rows.bypassExactRow.laid) (((OpenSpec.ofChange Rows.bypassExactSpec).at F).post enc Tryz.prog Tryz.f11 false true false false) := by
  have hx : DataW.whole enc Tryz.prog ((rowWorld os).forCall (fun _ _ => 0) ⟨#[], #[.int .u8 0, .slice none 0 0, .int .u64 0, .int .i64 0, .slice none 0 0], []⟩).memory Tryz.f11.params.toList Rows.bypassExactSpec.vars false (#[.int .u8 0, .slice none 0 0, .int .u64 0, .int .i64 0, .slice none 0 0] : Array Value).toList 8 = some ([.lit (.int .u8 0), .nil, .lit (.int .u64 0), .lit (.int .i64 0), .nil], [], []) := by kernel_rfl
  refine returnsInHanded_of_row (C := Tryz.checked) (s := OpenSpec.ofChange Rows.bypassExactSpec) rowOwn started (by kernel_rfl) Tryz.func11
    (witness_row_at (enc := enc) (C := Tryz.checked) false (rowWorld os) #[.int .u8 0, .slice none 0 0, .int .u64 0, .int .i64 0, .slice none 0 0] rfl (by kernel_rfl) (by kernel_rfl) (by kernel_rfl)
      (OpenSpec.preRow_of_cond 8 hx (by kernel_rfl) (fun k hk => by cases hk) (by kernel_rfl) (laid_met os))) ?_
  intro W base args ds gs before hval hW _ _ hz hL _ _
  exact contract H enc W base args ds gs before hval hW hz hL

theorem said : Rows.BypassExactSaid :=
  OpenClaim.holds_of_cond 11 Tryz.f11 rfl rfl rfl rfl rfl rfl rfl ⟨rfl, rfl, rfl, rfl, rfl⟩ rfl rfl rfl rfl rfl (by kernel_rfl) Tryz.func11 (by kernel_rfl)
    (of_decide_eq_true (by kernel_rfl)) (by unfold Func.isWrapper; first | (rw [if_pos (by decide +kernel)]; kernel_rfl) | (rw [if_neg (by decide +kernel)]; exact ⟨rfl, rfl⟩))
    (fun os started H enc _ F => by rw [OpenClaim.pre_eq_preRow]; exact lifted os started H enc F)

theorem plain (f : FuncId) (fn : Func) (hf : Tryz.pinned.checked.prog.funcNamed "ringroad/ringroadlaw22.BypassExact" = some f) (hfn : Tryz.pinned.checked.prog.funcs[f]? = some fn) :
    true = Tryz.pinned.checked.prog.looks [] ∧ ∀ (j : Nat) t, fn.params[j]? = some t → Tryz.pinned.checked.prog.wantsStandIn t = false := by
  obtain rfl : f = 11 := Option.some.inj ((show Tryz.prog.funcNamed "ringroad/ringroadlaw22.BypassExact" = some 11 by kernel_rfl).symm.trans hf) |>.symm
  obtain rfl : fn = Tryz.f11 := (Option.some.inj (Tryz.func11.symm.trans hfn)).symm
  refine ⟨by kernel_rfl, fun j t ht => ?_⟩
  rw [Tryz.params11] at ht
  have hm := Array.mem_of_getElem? ht
  have hm' : t = 5 ∨ t = 24 ∨ t = 22 ∨ t = 3 ∨ t = 23 := by simpa using hm
  rcases hm' with rfl | rfl | rfl | rfl | rfl
  · exact (show Tryz.prog.wantsStandIn 5 = false by kernel_rfl)
  · exact (show Tryz.prog.wantsStandIn 24 = false by kernel_rfl)
  · exact (show Tryz.prog.wantsStandIn 22 = false by kernel_rfl)
  · exact (show Tryz.prog.wantsStandIn 3 = false by kernel_rfl)
  · exact (show Tryz.prog.wantsStandIn 23 = false by kernel_rfl)

theorem card : Rows.BypassExactCardSaid :=
  Claim7.holds_tied_plain_at .later [] _ _ _ _ said (fun _ h => by cases h) (by kernel_rfl) (fun _ h => by cases h) bypassExact_row_tie rfl ⟨rfl, rfl⟩ (by kernel_rfl) rfl plain (by kernel_rfl)
end Go.Proofs.YtoepbhacpidcbaaGreatDoor.bypassExact
