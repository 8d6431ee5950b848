/- slices.Values at numbers and its closure: what they hand to a range over a function (lines of a worked proof of the kit, turned to this program). -/
import Derived.RangeFuncBox
import Derived.RangeFuncLeaves
import Derived.RangeFuncNested
import Derived.RangeFuncBound
import Derived.RangeFuncCalls
import Derived.Shelf.Abstract
import Derived.Shelf.RegionOpen
import Derived.WalkKit
import Derived.OwnWalkIn
import Derived.TacticsInMore
import Derived.LoopNIn
import Derived.LoopIn
import Derived.Test.YtoepbhacpidcbaaGreatDoorQBase
import Derived.Test.YtoepbhacpidcbaaGreatDoorQIdx
import Derived.Test.YtoepbhacpidcbaaGreatDoorQPerm
import Derived.Test.YtoepbhacpidcbaaGreatDoorQIdxB
import Derived.Test.YtoepbhacpidcbaaGreatDoorQRef
import Derived.Test.YtoepbhacpidcbaaGreatDoorQUnref

set_option linter.unusedVariables false
set_option linter.unusedSimpArgs false
namespace Go.Proofs.YtoepbhacpidcbaaGreatDoor
open Go.RowKit Go.Shelf

attribute [local go_sem] Oper.semAt_some

/-- A place's number. -/
abbrev Id64 := { x : Int // 0 ≤ x ∧ x < 64 }
def id0 : Id64 := ⟨0, by decide⟩

/-- WHAT HAS COME WHEN k ROUNDS ARE OVER: f 0, .., f (k - 1). -/
def Itr.upto {α : Type} (f : Nat → α) (k : Nat) : List α := (List.range k).map f
theorem Itr.upto_succ {α : Type} (f : Nat → α) (k : Nat) : Itr.upto f (k + 1) = Itr.upto f k ++ [f k] := by simp [Itr.upto, List.range_succ]
theorem Itr.upto_length {α : Type} (f : Nat → α) (k : Nat) : (Itr.upto f k).length = k := by simp [Itr.upto]
theorem Itr.upto_all (zs : List Id64) : Itr.upto (fun j => zs[j]?.getD id0) zs.length = zs := by
  apply List.ext_getElem
  · simp [Itr.upto]
  · intro i h1 h2
    simp [Itr.upto, h2]

set_option maxRecDepth 100000 in
set_option maxHeartbeats 2000000 in
/-- **slices.Values's closure: 'for _, v := range s { if !yield(v) { return } }': FOR EVERY LOOP BODY THAT KEEPS WHAT LAY BELOW n₀.** -/
theorem Itr.values1_in (F : Fence) (n : Nat) (h7 : F.fn 229) (hro : F.round = none) (hn : 1 ≤ n) (l Bs n₀ b off len cap : Nat) (zs : List Id64) (hreach : len * 8 ≤ 140737488351232) (hb : b < n₀) (J Jx : List Id64 → World → Prop)
    (hY : ∀ pre x W, J pre W → pre.length < len → YieldAt F (n - 1) Tryz.prog l #[.int .i64 x.1] W fun e W' =>
      (e = .returned (.bool true) ∧ J (pre ++ [x]) W' ∧ Below n₀ W W') ∨ (e = .returned (.bool false) ∧ Jx (pre ++ [x]) W'))
    (W : World) (hBs : W.cell? ⟨Bs, 0, none⟩ = some (.slice (some ⟨b, off, none⟩) len cap)) (hc : ∀ j, j < len → W.cell? ⟨b, off + j, none⟩ = some (.int .i64 (zs[j]?.getD id0).1)) (h0 : J [] W) :
    CallsIn F n Tryz.prog 229 #[.func (.yield l) #[] #[], .pointer (some ⟨Bs, 0, none⟩)] W fun e W' => (∃ v, e = .returned v) ∧
      ((∃ ys, ys = Itr.upto (fun j => zs[j]?.getD id0) len ∧ J ys W') ∨ (∃ pre, (∃ k, k ≤ len ∧ pre = Itr.upto (fun j => zs[j]?.getD id0) k) ∧ Jx pre W')) := by
  refine callsIn_of_wp Tryz.func229 rfl h7 ?_ hro
  simp only [Tryz.ntmps229, List.size_toArray, List.length_cons, List.length_nil, Nat.reduceAdd, Nat.reduceSub, Array.replicate_succ, Array.replicate_zero, List.push_toArray, List.append_toArray, List.nil_append, List.cons_append]
  gi_wp2
  gi_loopw [7] (fun i wr => ∃ k : Nat, k ≤ len ∧ i = .int .i64 k ∧ J (Itr.upto (fun j => zs[j]?.getD id0) k) wr ∧ Below n₀ W wr)
    (fun i _ => len - (intOf i).toNat)
  case atStart => exact ⟨0, Nat.zero_le _, rfl, h0, Below.refl _ _⟩
  case round =>
    obtain ⟨k, hk, rfl, hJs, hnx⟩ := hrel
    have hcx : k < len → wr.cell? ⟨b, off + k, none⟩ = some (.int .i64 (zs[k]?.getD id0).1) := fun h => (hnx.cell (p := ⟨b, off + k, none⟩) hb).trans (hc k h)
    by_cases hlt : k < len
    · obtain ⟨fn, tmps, assign, body, hy, hR⟩ := hY _ (zs[k]?.getD id0) wr hJs (by rw [Itr.upto_length]; exact hlt)
      have hcx' := hcx hlt
      gi_wp2
      refine hR.mono ?_
      rintro e W3 (⟨rfl, hJ3, hk3⟩ | ⟨rfl, hJx3⟩)
      · -- THE ROUND GOES ON
        gi_wp2
        go_roundw
        case rel => exact ⟨k + 1, by omega, by simp, by rw [Itr.upto_succ]; exact hJ3, hnx.trans hk3⟩
        case measure => simp [intOf]; omega
      · gi_wp2
        refine bodyPost_ret (results_none rfl _ _ _) rfl ?_
        exact ⟨⟨_, rfl⟩, .inr ⟨_, ⟨k + 1, by omega, (Itr.upto_succ _ _).symm⟩, hJx3⟩⟩
    · obtain rfl : k = len := by omega
      gi_wp2
      go_end0
      exact ⟨⟨_, rfl⟩, .inl ⟨_, rfl, hJs⟩⟩

theorem Itr.upto_take (zs : List Id64) {k : Nat} (hk : k ≤ zs.length) : Itr.upto (fun j => zs[j]?.getD id0) k = zs.take k := by
  apply List.ext_getElem
  · simp [Itr.upto, hk]
  · intro i h1 h2
    have : i < zs.length := by simp [Itr.upto] at h1; omega
    simp [Itr.upto, this]

/-- THE SLICE VALUE sv HOLDS THE ints zs, in a block below n₀; or it is nil and there are none. -/
def Itr.Ints (n₀ : Nat) (W : World) (sv : Value) (zs : List Id64) : Prop :=
  (sv = .slice none 0 0 ∧ zs = []) ∨ ∃ b off cap, sv = .slice (some ⟨b, off, none⟩) zs.length cap ∧ b < n₀ ∧ ∀ j, j < zs.length → W.cell? ⟨b, off + j, none⟩ = some (.int .i64 (zs[j]?.getD id0).1)
theorem Itr.Ints.below {n₀ : Nat} {A B : World} (h : Below n₀ A B) {sv : Value} {zs : List Id64} : Itr.Ints n₀ A sv zs → Itr.Ints n₀ B sv zs
  | .inl e => .inl e
  | .inr ⟨b, off, cap, e, hb, hc⟩ => .inr ⟨b, off, cap, e, hb, fun j hj => (h.cell (p := ⟨b, off + j, none⟩) hb).trans (hc j hj)⟩

set_option maxRecDepth 100000 in
set_option maxHeartbeats 1000000 in
/-- .. at the nil slice: no round. -/
theorem Itr.values1_nil_in (F : Fence) (n : Nat) (h7 : F.fn 229) (hro : F.round = none) (l Bs : Nat) (J : List Id64 → World → Prop) (W : World) (hBs : W.cell? ⟨Bs, 0, none⟩ = some (.slice none 0 0)) (h0 : J [] W) :
    CallsIn F n Tryz.prog 229 #[.func (.yield l) #[] #[], .pointer (some ⟨Bs, 0, none⟩)] W fun e W' => (∃ v, e = .returned v) ∧ J [] W' := by
  refine callsIn_of_wp Tryz.func229 rfl h7 ?_ hro
  simp only [Tryz.ntmps229, List.size_toArray, List.length_cons, List.length_nil, Nat.reduceAdd, Nat.reduceSub, Array.replicate_succ, Array.replicate_zero, List.push_toArray, List.append_toArray, List.nil_append, List.cons_append]
  gi_wp2
  gi_loopw [7] (fun i wr => i = .int .i64 0 ∧ J [] wr) (fun _ _ => 0)
  case atStart => exact ⟨rfl, h0⟩
  case round =>
    obtain ⟨rfl, hJs⟩ := hrel
    gi_wp2
    go_end0
    exact ⟨⟨_, rfl⟩, hJs⟩

set_option maxHeartbeats 1000000 in
/-- **slices.Values(s)**: the slice value is boxed; the function value captures the box. -/
theorem Itr.values_in (F : Fence) (n : Nat) (h5 : F.fn 222) (hro : F.round = none) (a : Option Addr) (len cap : Nat) (w : World) :
    CallsIn F n Tryz.prog 222 #[.slice a len cap] w fun e w' => e = .returned (.func (.func 229) #[] #[.pointer (some ⟨w.heap.size, 0, none⟩)]) ∧ w' = w.alloc (.cells #[.slice a len cap] 34) := by
  refine callsIn_of_wp Tryz.func222 rfl h5 ?_ hro
  simp only [Tryz.ntmps222, List.size_toArray, List.length_cons, List.length_nil, Nat.reduceAdd, Nat.reduceSub, Array.replicate_succ, Array.replicate_zero, List.push_toArray, List.append_toArray, List.nil_append, List.cons_append]
  gi_wp2
  go_ret
  exact ⟨rfl, rfl⟩

/-- **slices.Values(s) HANDS BACK A VALUE THAT 'SeqStopsK', AT 'Kp := Below n₀'**: all of zs, in order; or a prefix. EVERY SLICE OF ints WITHIN THE REACH, THE nil ONE TOO. -/
theorem Itr.values_stops (F : Fence) (n : Nat) (h7 : F.fn 229) (hro : F.round = none) (hn : 1 ≤ n) (Bs n₀ : Nat) (sv : Value) (zs : List Id64) (hreach : zs.length * 8 ≤ 140737488351232) (w : World) (hBs : Bs < w.heap.size) (hn₀ : n₀ ≤ w.heap.size)
    (hc : w.cell? ⟨Bs, 0, none⟩ = some sv) (hI : Itr.Ints n₀ w sv zs) :
    SeqStopsK F n Tryz.prog 229 #[.pointer (some ⟨Bs, 0, none⟩)] (fun x : Id64 => #[Value.int .i64 x.1]) (Below n₀) (fun ys => ys = zs) (fun pre => pre <+: zs) zs.length w := fun l J Jx W hW _ _ hY h0 => by
  have hc' := (hW.cell (p := ⟨Bs, 0, none⟩) hBs).trans hc
  rcases hI.below (hW.mono hn₀) with ⟨rfl, rfl⟩ | ⟨b, off, cap, rfl, hb, hcs⟩
  · exact (Itr.values1_nil_in F n h7 hro l Bs J W hc' h0).mono fun e W' ⟨he, hj⟩ => ⟨he, .inl ⟨_, rfl, hj⟩⟩
  · refine (Itr.values1_in F n h7 hro hn l Bs n₀ b off zs.length cap zs hreach hb J Jx hY W hc' hcs h0).mono ?_
    rintro e W' ⟨he, ⟨ys, rfl, hj⟩ | ⟨pre, ⟨k, hk, rfl⟩, hj⟩⟩
    · exact ⟨he, .inl ⟨_, Itr.upto_all zs, hj⟩⟩
    · exact ⟨he, .inr ⟨_, by rw [Itr.upto_take zs hk]; exact List.take_prefix _ _, hj⟩⟩


end Go.Proofs.YtoepbhacpidcbaaGreatDoor

/- A graph's arcs out of a vertex, as a range over a function goes through them. -/
set_option linter.unusedVariables false
set_option linter.unusedSimpArgs false
namespace Go.Proofs.YtoepbhacpidcbaaGreatDoor
open Go.RowKit Go.Shelf

attribute [local go_sem] Oper.semAt_some

theorem fr_grownBy {W W' : World} (h : Fr No W W') : W.grownBy W' none := ⟨h.os, h.tape, h.output, h.size, fun k hk _ => h.block k hk (fun h => h)⟩

set_option maxRecDepth 100000 in
set_option maxHeartbeats 1000000 in
theorem vertex_calls {w : World} {b nv cv : Nat} {A : Option Addr} (v : Int) (ha : w.cell? ⟨b, 320, none⟩ = some (.slice A nv cv)) (hnv : nv ≤ 1000) :
    Calls Tryz.prog 113 #[.pointer (some ⟨b, 0, none⟩), .int .i64 v] w fun e w' => e = .returned (.bool (decide (0 ≤ v ∧ v < nv))) ∧ Fr No w w' := by
  by_cases h1 : 0 ≤ v
  · by_cases h2 : v < nv
    · go_enter Tryz.func113, Tryz.ntmps113
      go_wp2
      go_ret
      exact ⟨by simp [h1, h2], Fr.refl _ _⟩
    · go_enter Tryz.func113, Tryz.ntmps113
      go_wp2
      go_ret
      exact ⟨by simp [h1, h2], Fr.refl _ _⟩
  · go_enter Tryz.func113, Tryz.ntmps113
    go_wp2
    go_ret
    exact ⟨by simp; omega, Fr.refl _ _⟩

theorem values_calls (a : Option Addr) (len cap : Nat) (w : World) :
    Calls Tryz.prog 222 #[.slice a len cap] w fun e w' => e = .returned (.func (.func 229) #[] #[.pointer (some ⟨w.heap.size, 0, none⟩)]) ∧ w' = w.alloc (.cells #[.slice a len cap] 34) :=
  callsIn_wide.1 (Itr.values_in Fence.wide 5 trivial rfl a len cap w)

set_option maxRecDepth 100000 in
set_option maxHeartbeats 4000000 in
/-- The closure of 'Out': no vertex. -/
theorem out1_no (n : Nat) (hn : 1 ≤ n) (Bg Bv b nv cv : Nat) (A : Option Addr) (v : Int) (n₀ : Nat) (w : World) (hg : w.cell? ⟨Bg, 0, none⟩ = some (.pointer (some ⟨b, 0, none⟩))) (hv : w.cell? ⟨Bv, 0, none⟩ = some (.int .i64 v))
    (ha : w.cell? ⟨b, 320, none⟩ = some (.slice A nv cv)) (hnv : nv ≤ 1000) (h : decide (0 ≤ v ∧ v < nv) = false) (hl : Bg < w.heap.size ∧ Bv < w.heap.size ∧ b < w.heap.size) :
    SeqStopsK Fence.wide n Tryz.prog 221 #[.pointer (some ⟨Bg, 0, none⟩), .pointer (some ⟨Bv, 0, none⟩)] (fun x : Id64 => #[Value.int .i64 x.1]) (Below n₀) (fun ys => ys = []) (fun pre => pre <+: []) 0 w := fun l J Jx W hW hJ hJx hY h0 => by
  have hg' := (hW.cell (p := ⟨Bg, 0, none⟩) hl.1).trans hg
  have hv' := (hW.cell (p := ⟨Bv, 0, none⟩) hl.2.1).trans hv
  have ha' := (hW.cell (p := ⟨b, 320, none⟩) hl.2.2).trans ha
  have HA := hid ha'
  have HJ := hid hJ
  have H0 := hid h0
  have H := hid h
  clear hg hv ha ha' hY hJ hJx h0 h hW
  refine callsIn_of_wp Tryz.func221 rfl trivial ?_ rfl
  simp only [Tryz.ntmps221, List.size_toArray, List.length_cons, List.length_nil, Nat.reduceAdd, Nat.reduceSub, Array.replicate_succ, Array.replicate_zero, List.push_toArray, List.append_toArray, List.nil_append, List.cons_append]
  gi_wp2
  refine ⟨trivial, callsIn_wide.2 ((vertex_calls v HA.out hnv).mono ?_)⟩
  rintro e w1 ⟨rfl, hf⟩
  rw [H.out]
  have HF := hid hf
  clear hf
  gi_wp2
  go_end0
  exact ⟨⟨_, rfl⟩, .inl ⟨_, rfl, HJ.out _ _ _ none H0.out (fr_grownBy HF.out) (fun r h => by cases h)⟩⟩

set_option maxRecDepth 100000 in
set_option maxHeartbeats 4000000 in
/-- The closure of 'Out': a vertex. -/
theorem out1_yes (n : Nat) (hn : 1 ≤ n) (Bg Bv b nv cv ba k n₀ cap : Nat) (S : Option Addr) (zs : List Id64) (w : World) (hg : w.cell? ⟨Bg, 0, none⟩ = some (.pointer (some ⟨b, 0, none⟩))) (hv : w.cell? ⟨Bv, 0, none⟩ = some (.int .i64 (k : Nat)))
    (ha : w.cell? ⟨b, 320, none⟩ = some (.slice (some ⟨ba, 0, none⟩) nv cv)) (hnv : nv ≤ 1000) (hk : k < nv) (hs : w.cell? ⟨ba, k * 2, none⟩ = some (.slice S zs.length cap)) (hl : Bg < w.heap.size ∧ Bv < w.heap.size ∧ b < w.heap.size ∧ ba < w.heap.size)
    (hn₀ : n₀ ≤ w.heap.size) (hI : Itr.Ints n₀ w (.slice S zs.length cap) zs) (hz : zs.length ≤ 1000) :
    SeqStopsK Fence.wide n Tryz.prog 221 #[.pointer (some ⟨Bg, 0, none⟩), .pointer (some ⟨Bv, 0, none⟩)] (fun x : Id64 => #[Value.int .i64 x.1]) (Below n₀) (fun ys => ys = zs) (fun pre => pre <+: zs) zs.length w := fun l J Jx W hW hJ hJx hY h0 => by
  have hg' := (hW.cell (p := ⟨Bg, 0, none⟩) hl.1).trans hg
  have hv' := (hW.cell (p := ⟨Bv, 0, none⟩) hl.2.1).trans hv
  have ha' := (hW.cell (p := ⟨b, 320, none⟩) hl.2.2.1).trans ha
  have hs' := (hW.cell (p := ⟨ba, k * 2, none⟩) hl.2.2.2).trans hs
  have HI := hid (Itr.Ints.below (hW.mono hn₀) hI)
  have hsz : n₀ ≤ W.heap.size := Nat.le_trans hn₀ hW.size
  have HL := hid (And.intro (Nat.lt_of_lt_of_le hl.1 hW.size) (And.intro (Nat.lt_of_lt_of_le hl.2.1 hW.size) (And.intro (Nat.lt_of_lt_of_le hl.2.2.1 hW.size) (Nat.lt_of_lt_of_le hl.2.2.2 hW.size))))
  have HA := hid ha'
  have HG := hid hg'
  have HV := hid hv'
  have HS := hid hs'
  have HJ := hid hJ
  have HJX := hid hJx
  have HY := hid hY
  have H0 := hid h0
  have hd : decide ((0 : Int) ≤ (k : Nat) ∧ ((k : Nat) : Int) < nv) = true := by simp; omega
  have HD := hid hd
  clear hg hv ha hs ha' hs' hY hJ hJx h0 hW hI hd hl
  refine callsIn_of_wp Tryz.func221 rfl trivial ?_ rfl
  simp only [Tryz.ntmps221, List.size_toArray, List.length_cons, List.length_nil, Nat.reduceAdd, Nat.reduceSub, Array.replicate_succ, Array.replicate_zero, List.push_toArray, List.append_toArray, List.nil_append, List.cons_append]
  gi_wp2
  clear hg' hv'
  refine ⟨trivial, callsIn_wide.2 ((vertex_calls _ HA.out hnv).mono ?_)⟩
  rintro e w1 ⟨rfl, hf⟩
  rw [HD.out]
  have hg1 := hf.cell_some HG.out (fun h => h)
  have hv1 := hf.cell_some HV.out (fun h => h)
  have ha1 := hf.cell_some HA.out (fun h => h)
  have hs1 := hf.cell_some HS.out (fun h => h)
  have HF := hid hf
  have hk2 : ((k : Nat) : Int) < nv := by omega
  clear hf
  have f2 : Fr No W (w1.alloc (Obj.cells #[Value.slice S zs.length cap] 34)).drew := (HF.out.alloc _).drew
  have C2 := hid (show (w1.alloc (Obj.cells #[Value.slice S zs.length cap] 34)).drew.cell? ⟨w1.heap.size, 0, none⟩ = some (.slice S zs.length cap) from
    (own_no (Fr.refl No _) w1.heap.size (heap_new w1 _)).1 0)
  have I2 := hid (Itr.Ints.below (f2.below.mono hsz) HI.out)
  have J2 := hid (show AbidesFrom (w1.alloc (Obj.cells #[Value.slice S zs.length cap] 34)).drew.heap.size J from
    fun s A B row h1 h2 h3 => HJ.out s A B row h1 h2 (fun r e => ⟨Nat.le_trans f2.size (h3 r e).1, (h3 r e).2⟩))
  have JX2 := hid (show AbidesFrom (w1.alloc (Obj.cells #[Value.slice S zs.length cap] 34)).drew.heap.size Jx from
    fun s A B row h1 h2 h3 => HJX.out s A B row h1 h2 (fun r e => ⟨Nat.le_trans f2.size (h3 r e).1, (h3 r e).2⟩))
  have H2 := hid (HJ.out _ _ _ none H0.out (fr_grownBy f2) (fun r h => by cases h))
  have S2 := hid (show n₀ ≤ (w1.alloc (Obj.cells #[Value.slice S zs.length cap] 34)).drew.heap.size from Nat.le_trans hsz f2.size)
  have Z2 := hid (show w1.heap.size < (w1.alloc (Obj.cells #[Value.slice S zs.length cap] 34)).drew.heap.size from (own_no (Fr.refl No _) w1.heap.size (heap_new w1 _)).2.2.1)
  clear f2
  gi_wp2_with fail
  gi_region_with (first
    | (refine ⟨trivial, ?_⟩; gi_at_call 222; refine callsIn_wide.2 ((values_calls _ _ _ _).mono ?_); rintro e w2 ⟨rfl, rfl⟩)
    | (refine ⟨trivial, ?_⟩; gi_at_call 229; refine callsIn_wide.2 (callsIn_wide.1 ((Itr.values_stops Fence.wide n trivial rfl hn w1.heap.size n₀ (.slice S zs.length cap) zs (by omega) (w1.alloc (Obj.cells #[Value.slice S zs.length cap] 34)).drew Z2.out S2.out C2.out I2.out l J Jx _ (Below.refl _ _) J2.out JX2.out HY.out H2.out).mono ?_)); rintro e w3 ⟨⟨v, rfl⟩, hres⟩))
  all_goals gi_wp2
  all_goals go_end0
  all_goals exact ⟨⟨_, rfl⟩, hres⟩

end Go.Proofs.YtoepbhacpidcbaaGreatDoor

/- A graph's best arc from a vertex to another; walked. -/
set_option linter.unusedVariables false
set_option linter.unusedSimpArgs false
namespace Go.Proofs.YtoepbhacpidcbaaGreatDoor
open Go.RowKit Go.Shelf

attribute [local go_sem] Oper.semAt_some

/-- The arcs out of vertex v are those at the places zs. -/
def OutAt (n₀ : Nat) (w : World) (b : Nat) (v : Int) (zs : List Id64) : Prop :=
  b < n₀ ∧ zs.length ≤ 1000 ∧ ∃ (A : Option Addr) (nv cv : Nat), w.cell? ⟨b, 320, none⟩ = some (.slice A nv cv) ∧ nv ≤ 1000 ∧
    ((decide (0 ≤ v ∧ v < nv) = false ∧ zs = []) ∨
     ∃ (ba k cap : Nat) (S : Option Addr), A = some ⟨ba, 0, none⟩ ∧ v = (k : Nat) ∧ k < nv ∧ ba < n₀ ∧ w.cell? ⟨ba, k * 2, none⟩ = some (.slice S zs.length cap) ∧ Itr.Ints n₀ w (.slice S zs.length cap) zs)

theorem OutAt.below {n₀ b : Nat} {w W : World} {v : Int} {zs : List Id64} (h : OutAt n₀ w b v zs) (hb : Below n₀ w W) : OutAt n₀ W b v zs := by
  obtain ⟨h1, h2, A, nv, cv, h3, h4, h5⟩ := h
  refine ⟨h1, h2, A, nv, cv, (hb.cell (p := ⟨b, 320, none⟩) h1).trans h3, h4, ?_⟩
  rcases h5 with h5 | ⟨ba, k, cap, S, rfl, e, hk, hba, hc, hI⟩
  · exact .inl h5
  · exact .inr ⟨ba, k, cap, S, rfl, e, hk, hba, (hb.cell (p := ⟨ba, k * 2, none⟩) hba).trans hc, hI.below hb⟩

theorem out1_any (n : Nat) (hn : 1 ≤ n) (Bg Bv b n₀ : Nat) (v : Int) (zs : List Id64) (w : World) (hg : w.cell? ⟨Bg, 0, none⟩ = some (.pointer (some ⟨b, 0, none⟩))) (hv : w.cell? ⟨Bv, 0, none⟩ = some (.int .i64 v))
    (h : OutAt n₀ w b v zs) (hl : Bg < w.heap.size ∧ Bv < w.heap.size) (hn₀ : n₀ ≤ w.heap.size) :
    SeqStopsK Fence.wide n Tryz.prog 221 #[.pointer (some ⟨Bg, 0, none⟩), .pointer (some ⟨Bv, 0, none⟩)] (fun x : Id64 => #[Value.int .i64 x.1]) (Below n₀) (fun ys => ys = zs) (fun pre => pre <+: zs) zs.length w := by
  obtain ⟨h1, h2, A, nv, cv, h3, h4, ⟨h5, rfl⟩ | ⟨ba, k, cap, S, rfl, rfl, hk, hba, hc, hI⟩⟩ := h
  · exact out1_no n hn Bg Bv b nv cv A v n₀ w hg hv h3 h4 h5 ⟨hl.1, hl.2, by omega⟩
  · exact out1_yes n hn Bg Bv b nv cv ba k n₀ cap S zs w hg hv h3 h4 hk hc ⟨hl.1, hl.2, by omega, by omega⟩ hn₀ hI h2

theorem cell_lt {w : World} {a : Addr} {v : Value} (h : w.cell? a = some v) : a.block < w.heap.size := by
  rcases Nat.lt_or_ge a.block w.heap.size with h' | h'
  · exact h'
  · simp [World.cell?, Array.getElem?_eq_none h'] at h

structure Arc4 where
  t : Int
  h : Int
  w : Int
  c : Bool

/-- The arcs at the graph's places. -/
def ArcsAt (w : World) (b : Nat) (arc : Nat → Arc4) : Prop :=
  ∀ i, i < 64 → w.cell? ⟨b, i * 5, none⟩ = some (.int .i64 (arc i).t) ∧ w.cell? ⟨b, i * 5 + 1, none⟩ = some (.int .i64 (arc i).h) ∧ w.cell? ⟨b, i * 5 + 2, none⟩ = some (.int .i64 (arc i).w) ∧ w.cell? ⟨b, i * 5 + 3, none⟩ = some (.bool (arc i).c)

def bestStep (arc : Nat → Arc4) (head : Int) (acc : Int × Int) (i : Id64) : Int × Int :=
  if (arc i.1.toNat).h = head ∧ (arc i.1.toNat).c = false ∧ (arc i.1.toNat).w < acc.1 then ((arc i.1.toNat).w, i.1) else acc
def bestOf (arc : Nat → Arc4) (head : Int) (zs : List Id64) : Int × Int := zs.foldl (bestStep arc head) (4611686018427387906, -1)
theorem bestOf_snoc (arc : Nat → Arc4) (head : Int) (pre : List Id64) (x : Id64) : bestOf arc head (pre ++ [x]) = bestStep arc head (bestOf arc head pre) x := by simp [bestOf]

set_option maxRecDepth 100000 in
set_option maxHeartbeats 1000000 in
theorem out_calls (b : Nat) (v : Int) (w : World) :
    Calls Tryz.prog 194 #[.pointer (some ⟨b, 0, none⟩), .int .i64 v] w fun e w' => e = .returned (.func (.func 221) #[] #[.pointer (some ⟨w.heap.size, 0, none⟩), .pointer (some ⟨w.heap.size + 1, 0, none⟩)]) ∧
      w' = (w.alloc (.cells #[.pointer (some ⟨b, 0, none⟩)] 30)).alloc (.cells #[.int .i64 v] 3) := by
  go_enter Tryz.func194, Tryz.ntmps194
  go_wp2
  go_ret
  exact ⟨by simp, rfl⟩

set_option maxRecDepth 100000 in
set_option maxHeartbeats 4000000 in
theorem gbest_calls {w : World} {b : Nat} {tail head : Int} {zs : List Id64} {arc : Nat → Arc4} (h : OutAt w.heap.size w b tail zs) (ha : ArcsAt w b arc) :
    Calls Tryz.prog 167 #[.pointer (some ⟨b, 0, none⟩), .int .i64 tail, .int .i64 head] w fun e w' => e = .returned (.tuple #[.int .i64 (bestOf arc head zs).1, .int .i64 (bestOf arc head zs).2]) ∧ Fr No w w' := by
  have hbl := h.1
  have H := hid h
  have HA := hid ha
  clear h ha
  refine (callsIn_wide (n := 7)).1 ?_
  refine callsIn_of_wp_marks Tryz.func167 rfl trivial ?_ rfl
  simp only [Tryz.ntmps167, List.size_toArray, List.length_cons, List.length_nil, Nat.reduceAdd, Nat.reduceSub, Array.replicate_succ, Array.replicate_zero, List.push_toArray, List.append_toArray, List.nil_append, List.cons_append]
  gi_wp2
  refine ⟨trivial, callsIn_wide.2 ((out_calls _ _ _).mono ?_)⟩
  rintro e W0 ⟨rfl, hW0⟩
  simp only [World.size_alloc] at hW0 ⊢
  have f0 : Fr No w W0 := by rw [hW0]; exact ((((((Fr.refl No w).alloc _).alloc _).alloc _).alloc _).alloc _).alloc _
  have c3 : W0.cell? ⟨w.heap.size, 0, none⟩ = some (.pointer (some ⟨b, 0, none⟩)) := by rw [hW0]; simp [go_sem]
  have c5 : W0.cell? ⟨w.heap.size + 1, 0, none⟩ = some (.int .i64 head) := by rw [hW0]; simp [go_sem]
  have c6 : W0.cell? ⟨w.heap.size + 1 + 1, 0, none⟩ = some (.int .i64 4611686018427387906) := by rw [hW0]; simp [go_sem]
  have c7 : W0.cell? ⟨w.heap.size + 1 + 1 + 1, 0, none⟩ = some (.int .i64 (-1)) := by rw [hW0]; simp [go_sem]
  have d6 : W0.frozen? ⟨w.heap.size + 1 + 1, 0, none⟩ = false := by rw [hW0]; simp [go_sem]
  have d7 : W0.frozen? ⟨w.heap.size + 1 + 1 + 1, 0, none⟩ = false := by rw [hW0]; simp [go_sem]
  have cg : W0.cell? ⟨w.heap.size + 1 + 1 + 1 + 1, 0, none⟩ = some (.pointer (some ⟨b, 0, none⟩)) := by rw [hW0]; simp [go_sem]
  have cv : W0.cell? ⟨w.heap.size + 1 + 1 + 1 + 1 + 1, 0, none⟩ = some (.int .i64 tail) := by rw [hW0]; simp [go_sem]
  have hsz : W0.heap.size = w.heap.size + 1 + 1 + 1 + 1 + 1 + 1 := by rw [hW0]; simp
  clear hW0
  gi_wp2
  refine wpIn_rangeFunc_ownF rfl (by omega) (gf := 221) (lb := #[.pointer (some ⟨w.heap.size + 1 + 1 + 1 + 1, 0, none⟩), .pointer (some ⟨w.heap.size + 1 + 1 + 1 + 1 + 1, 0, none⟩)]) rfl trivial (enters_of Tryz.func221 (by kernel_rfl) rfl)
    (out1_any 6 (by omega) (w.heap.size + 1 + 1 + 1 + 1) (w.heap.size + 1 + 1 + 1 + 1 + 1) b w.heap.size tail zs W0 cg cv (H.out.below f0.below) ⟨by omega, by omega⟩ (by omega)) belowK_t (belowK_b (by omega)) (Below.refl _ _) (fun _ => rfl)
    (fun pre W => ((W.cell? ⟨w.heap.size, 0, none⟩ = some (.pointer (some ⟨b, 0, none⟩)) ∧ W.cell? ⟨w.heap.size + 1, 0, none⟩ = some (.int .i64 head) ∧ W.cell? ⟨w.heap.size + 1 + 1, 0, none⟩ = some (.int .i64 (bestOf arc head pre).1) ∧
        W.cell? ⟨w.heap.size + 1 + 1 + 1, 0, none⟩ = some (.int .i64 (bestOf arc head pre).2)) ∧ W.frozen? ⟨w.heap.size + 1 + 1, 0, none⟩ = false ∧ W.frozen? ⟨w.heap.size + 1 + 1 + 1, 0, none⟩ = false) ∧ Below w.heap.size w W)
    (fun _ _ _ => False)
    (OwnFrom.and (Own.from (fun s A B row hs hg hr => ⟨⟨cell_kept hs.1.1 hg hr, cell_kept hs.1.2.1 hg hr, cell_kept hs.1.2.2.1 hg hr, cell_kept hs.1.2.2.2 hg hr⟩, (frozen_kept hs.1.2.2.1 hg hr).trans hs.2.1, (frozen_kept hs.1.2.2.2 hg hr).trans hs.2.2⟩) _) (ownFrom_below (Nat.le_refl _) (by omega)))
    (fun _ _ _ _ _ hs _ _ => hs.elim)
    ⟨⟨⟨c3, c5, c6, c7⟩, d6, d7⟩, f0.below⟩
    (fun x => { tmps := #[.pointer (some ⟨b, 0, none⟩), .int .i64 tail, .int .i64 head, .pointer (some ⟨w.heap.size, 0, none⟩), undef, .pointer (some ⟨w.heap.size + 1, 0, none⟩), .pointer (some ⟨w.heap.size + 1 + 1, 0, none⟩), .pointer (some ⟨w.heap.size + 1 + 1 + 1, 0, none⟩),
      .int .i64 x.1, undef, .pointer (some ⟨b, 0, none⟩), .int .i64 tail, .func (.func 221) #[] #[.pointer (some ⟨w.heap.size + 1 + 1 + 1 + 1, 0, none⟩), .pointer (some ⟨w.heap.size + 1 + 1 + 1 + 1 + 1, 0, none⟩)], .int .i64 x.1, undef, undef, undef, undef, undef, undef, undef, undef, undef, undef, undef, undef, undef, undef, undef, undef, undef, undef, undef, undef, undef, undef, undef, undef, undef, undef, undef], defers := [] }) ?assign ?body ?done ?stop
  case assign =>
    intro l x W K hK
    gi_wp2
    exact hK
  case stop =>
    rintro D c pre W _ _ h _
    exact h.elim
  case done =>
    rintro D ys W hD rfl ⟨⟨⟨e3, e5, e6, e7⟩, z6, z7⟩, hB⟩ hK
    clear c3 c5 c6 c7 d6 d7 cg cv
    gi_wp2
    gi_region
    all_goals gi_wp2
    have hK2 : ((W.setCell ⟨w.heap.size + 1 + 1, 0, none⟩ (.int .i64 (bestOf arc head ys).1)).setCell ⟨w.heap.size + 1 + 1 + 1, 0, none⟩ (.int .i64 (bestOf arc head ys).2)).drew.heap[D]? = some (.deferred (some [])) :=
      (Below.heap_setCell _ ⟨w.heap.size + 1 + 1 + 1, 0, none⟩ _ D (by show D ≠ w.heap.size + 1 + 1 + 1; omega)).trans ((Below.heap_setCell _ ⟨w.heap.size + 1 + 1, 0, none⟩ _ D (by show D ≠ w.heap.size + 1 + 1; omega)).trans hK)
    have x6 : ((W.setCell ⟨w.heap.size + 1 + 1, 0, none⟩ (.int .i64 (bestOf arc head ys).1)).setCell ⟨w.heap.size + 1 + 1 + 1, 0, none⟩ (.int .i64 (bestOf arc head ys).2)).drew.cell? ⟨w.heap.size + 1 + 1, 0, none⟩ = some (.int .i64 (bestOf arc head ys).1) := by
      show ((W.setCell ⟨w.heap.size + 1 + 1, 0, none⟩ (.int .i64 (bestOf arc head ys).1)).setCell ⟨w.heap.size + 1 + 1 + 1, 0, none⟩ (.int .i64 (bestOf arc head ys).2)).cell? ⟨w.heap.size + 1 + 1, 0, none⟩ = _
      rw [World.cell?_setCell_other _ _ _ _ (by simp <;> omega)]; exact World.cell?_setCell_same' _ _ _ (by rw [e6]; rfl)
    have x7 : ((W.setCell ⟨w.heap.size + 1 + 1, 0, none⟩ (.int .i64 (bestOf arc head ys).1)).setCell ⟨w.heap.size + 1 + 1 + 1, 0, none⟩ (.int .i64 (bestOf arc head ys).2)).drew.cell? ⟨w.heap.size + 1 + 1 + 1, 0, none⟩ = some (.int .i64 (bestOf arc head ys).2) := by
      show ((W.setCell ⟨w.heap.size + 1 + 1, 0, none⟩ (.int .i64 (bestOf arc head ys).1)).setCell ⟨w.heap.size + 1 + 1 + 1, 0, none⟩ (.int .i64 (bestOf arc head ys).2)).cell? ⟨w.heap.size + 1 + 1 + 1, 0, none⟩ = _
      exact World.cell?_setCell_same' _ _ _ (by rw [World.cell?_setCell_other _ _ _ _ (by simp <;> omega), e7]; rfl)
    have k1 : Below w.heap.size w ((W.setCell ⟨w.heap.size + 1 + 1, 0, none⟩ (.int .i64 (bestOf arc head ys).1)).setCell ⟨w.heap.size + 1 + 1 + 1, 0, none⟩ (.int .i64 (bestOf arc head ys).2)).drew :=
      ((hB.setCell (p := ⟨w.heap.size + 1 + 1, 0, none⟩) (by show w.heap.size ≤ w.heap.size + 1 + 1; omega) _).setCell (p := ⟨w.heap.size + 1 + 1 + 1, 0, none⟩) (by show w.heap.size ≤ w.heap.size + 1 + 1 + 1; omega) _).drew
    obtain ⟨W3, hW3⟩ : ∃ W3, ((W.setCell ⟨w.heap.size + 1 + 1, 0, none⟩ (.int .i64 (bestOf arc head ys).1)).setCell ⟨w.heap.size + 1 + 1 + 1, 0, none⟩ (.int .i64 (bestOf arc head ys).2)).drew = W3 := ⟨_, rfl⟩
    rw [hW3] at hK2 x6 x7 k1 ⊢
    have y6 := cell_kept x6 (grownBy_putObj' W3 D (.deferred none)) (fun r e => by cases e; exact ⟨_, hK2, rfl⟩)
    have y7 := cell_kept x7 (grownBy_putObj' W3 D (.deferred none)) (fun r e => by cases e; exact ⟨_, hK2, rfl⟩)
    have k2 := k1.trans (belowK_b (w := w) (Nat.le_refl _) W3 D _ (.deferred none) (by omega) hK2 rfl rfl)
    refine ⟨by simp, .inl ⟨_, _, rfl, run_takeDeferred hK2, ?_⟩⟩
    exact ⟨_, by simp [results, Tryz.results167, go_sem, y6, y7], rfl, Fr.of_below k2⟩
  case body =>
    rintro l pre ⟨xv, hx0, hx1⟩ W ⟨⟨⟨e3, e5, e6, e7⟩, z6, z7⟩, hB⟩ _
    obtain ⟨i, rfl⟩ := Int.eq_ofNat_of_zero_le hx0
    have hi : i < 64 := by omega
    obtain ⟨a0, a1, a2, a3⟩ := HA.out i hi
    have b0 := (hB.cell (p := ⟨b, i * 5, none⟩) hbl).trans a0
    have b1 := (hB.cell (p := ⟨b, i * 5 + 1, none⟩) hbl).trans a1
    have b2 := (hB.cell (p := ⟨b, i * 5 + 2, none⟩) hbl).trans a2
    have b3 := (hB.cell (p := ⟨b, i * 5 + 3, none⟩) hbl).trans a3
    have hnext := bestOf_snoc arc head pre ⟨(i : Nat), hx0, hx1⟩
    have hstep : bestStep arc head (bestOf arc head pre) ⟨(i : Nat), hx0, hx1⟩ = if (arc i).h = head ∧ (arc i).c = false ∧ (arc i).w < (bestOf arc head pre).1 then ((arc i).w, (i : Int)) else bestOf arc head pre := rfl
    rw [hstep] at hnext
    obtain ⟨⟨at_, ah, aw, ac⟩, har⟩ : ∃ y, arc i = y := ⟨_, rfl⟩
    rw [har] at b0 b1 b2 b3 hnext
    have HN := hid hnext
    have HB := hid hB
    have Z6 := hid z6
    have Z7 := hid z7
    have hsw : w.heap.size ≤ W.heap.size := hB.size
    simp only at b0 b1 b2 b3 HN
    obtain ⟨⟨cw, ci⟩, hacc⟩ : ∃ y, bestOf arc head pre = y := ⟨_, rfl⟩
    rw [hacc] at e6 e7 HN
    simp only at e6 e7 HN
    clear c3 c5 c6 c7 d6 d7 cg cv a0 a1 a2 a3 hnext hstep har hB hacc
    have h7 : w.heap.size + 1 + 1 + 1 < W.heap.size := cell_lt e7
    have h3 : w.heap.size < W.heap.size := by omega
    have h5 : w.heap.size + 1 < W.heap.size := by omega
    have h6 : w.heap.size + 1 + 1 < W.heap.size := by omega
    have A0 := fun o => (Fr.refl No W).alloc o
    by_cases q1 : ah = head
    · subst q1
      cases ac with
      | false =>
        by_cases q3 : aw < cw
        · have hn : bestOf arc ah (pre ++ [⟨(i : Nat), hx0, hx1⟩]) = (aw, (i : Int)) := by rw [HN.out, if_pos ⟨rfl, rfl, q3⟩]
          have HNN := hid hn
          have HA0 := hid A0
          clear hn A0
          gi_wp2
          have k1 : Below w.heap.size W (((W.setCell ⟨w.heap.size + 1 + 1, 0, none⟩ (.int .i64 aw)).setCell ⟨w.heap.size + 1 + 1 + 1, 0, none⟩ (.int .i64 (i : Nat))).alloc (Obj.cells #[.int .i64 at_, .int .i64 ah, .int .i64 aw, .bool false] 49)) :=
            (((Below.refl w.heap.size W).setCell (p := ⟨w.heap.size + 1 + 1, 0, none⟩) (by show w.heap.size ≤ w.heap.size + 1 + 1; omega) _).setCell (p := ⟨w.heap.size + 1 + 1 + 1, 0, none⟩) (by show w.heap.size ≤ w.heap.size + 1 + 1 + 1; omega) _).alloc (by simp; omega) _
          have A1 := fun o => (Fr.refl No ((W.setCell ⟨w.heap.size + 1 + 1, 0, none⟩ (.int .i64 aw)).setCell ⟨w.heap.size + 1 + 1 + 1, 0, none⟩ (.int .i64 (i : Nat)))).alloc o
          refine ⟨((KeepsOthers.setCell _ _ _).trans (KeepsOthers.setCell _ _ _)).trans (KeepsOthers.alloc _ _), k1, ⟨⟨⟨?_, ?_, ?_, ?_⟩, ?_, ?_⟩, HB.out.trans k1⟩⟩
          · refine (A1 _).cell_some ?_ (fun h => h)
            rw [World.cell?_setCell_other _ _ _ _ (by simp <;> omega), World.cell?_setCell_other _ _ _ _ (by simp <;> omega)]; exact e3
          · refine (A1 _).cell_some ?_ (fun h => h)
            rw [World.cell?_setCell_other _ _ _ _ (by simp <;> omega), World.cell?_setCell_other _ _ _ _ (by simp <;> omega)]; exact e5
          · rw [HNN.out]
            refine (A1 _).cell_some ?_ (fun h => h)
            rw [World.cell?_setCell_other _ _ _ _ (by simp <;> omega)]; exact World.cell?_setCell_same' _ _ _ (by rw [e6]; rfl)
          · rw [HNN.out]
            refine (A1 _).cell_some ?_ (fun h => h)
            exact World.cell?_setCell_same' _ _ _ (by rw [World.cell?_setCell_other _ _ _ _ (by simp <;> omega), e7]; rfl)
          · refine ((A1 _).frozen (p := ⟨w.heap.size + 1 + 1, 0, none⟩) (by simp; omega) (fun h => h)).trans ?_
            rw [World.frozen?_setCell, World.frozen?_setCell]; exact Z6.out
          · refine ((A1 _).frozen (p := ⟨w.heap.size + 1 + 1 + 1, 0, none⟩) (by simp; omega) (fun h => h)).trans ?_
            rw [World.frozen?_setCell, World.frozen?_setCell]; exact Z7.out
        · have hn : bestOf arc ah (pre ++ [⟨(i : Nat), hx0, hx1⟩]) = (cw, ci) := by rw [HN.out, if_neg (fun h => q3 h.2.2)]
          have HNN := hid hn
          have HA0 := hid A0
          clear hn A0
          gi_wp2
          refine ⟨KeepsOthers.alloc _ _, (Below.refl _ W).alloc hsw _, ⟨⟨⟨(HA0.out _).cell_some e3 (fun h => h), (HA0.out _).cell_some e5 (fun h => h), ?_, ?_⟩, ?_, ?_⟩, HB.out.trans ((Below.refl _ W).alloc hsw _)⟩⟩
          · rw [HNN.out]; exact (HA0.out _).cell_some e6 (fun h => h)
          · rw [HNN.out]; exact (HA0.out _).cell_some e7 (fun h => h)
          · exact ((HA0.out _).frozen (p := ⟨w.heap.size + 1 + 1, 0, none⟩) h6 (fun h => h)).trans Z6.out
          · exact ((HA0.out _).frozen (p := ⟨w.heap.size + 1 + 1 + 1, 0, none⟩) h7 (fun h => h)).trans Z7.out
      | true =>
        have hn : bestOf arc ah (pre ++ [⟨(i : Nat), hx0, hx1⟩]) = (cw, ci) := by rw [HN.out, if_neg (fun h => by cases h.2.1)]
        have HNN := hid hn
        have HA0 := hid A0
        clear hn A0
        gi_wp2
        refine ⟨KeepsOthers.alloc _ _, (Below.refl _ W).alloc hsw _, ⟨⟨⟨(HA0.out _).cell_some e3 (fun h => h), (HA0.out _).cell_some e5 (fun h => h), ?_, ?_⟩, ?_, ?_⟩, HB.out.trans ((Below.refl _ W).alloc hsw _)⟩⟩
        · rw [HNN.out]; exact (HA0.out _).cell_some e6 (fun h => h)
        · rw [HNN.out]; exact (HA0.out _).cell_some e7 (fun h => h)
        · exact ((HA0.out _).frozen (p := ⟨w.heap.size + 1 + 1, 0, none⟩) h6 (fun h => h)).trans Z6.out
        · exact ((HA0.out _).frozen (p := ⟨w.heap.size + 1 + 1 + 1, 0, none⟩) h7 (fun h => h)).trans Z7.out
    · have hn : bestOf arc head (pre ++ [⟨(i : Nat), hx0, hx1⟩]) = (cw, ci) := by rw [HN.out, if_neg (fun h => q1 h.1)]
      have HNN := hid hn
      have HA0 := hid A0
      clear hn A0
      gi_wp2
      refine ⟨KeepsOthers.alloc _ _, (Below.refl _ W).alloc hsw _, ⟨⟨⟨(HA0.out _).cell_some e3 (fun h => h), (HA0.out _).cell_some e5 (fun h => h), ?_, ?_⟩, ?_, ?_⟩, HB.out.trans ((Below.refl _ W).alloc hsw _)⟩⟩
      · rw [HNN.out]; exact (HA0.out _).cell_some e6 (fun h => h)
      · rw [HNN.out]; exact (HA0.out _).cell_some e7 (fun h => h)
      · exact ((HA0.out _).frozen (p := ⟨w.heap.size + 1 + 1, 0, none⟩) h6 (fun h => h)).trans Z6.out
      · exact ((HA0.out _).frozen (p := ⟨w.heap.size + 1 + 1 + 1, 0, none⟩) h7 (fun h => h)).trans Z7.out

end Go.Proofs.YtoepbhacpidcbaaGreatDoor
