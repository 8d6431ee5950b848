/- All that wait, as an iterator, and as a set; walked. -/

import Derived.Test.YtoepbhacpidcbaaGreatDoorQBase
import Derived.Test.YtoepbhacpidcbaaGreatDoorQIdx
import Derived.Test.YtoepbhacpidcbaaGreatDoorQPerm
import Derived.Test.YtoepbhacpidcbaaGreatDoorQIdxB
import Derived.Test.YtoepbhacpidcbaaGreatDoorQRef
import Derived.Test.YtoepbhacpidcbaaGreatDoorQUnref
import Derived.Test.YtoepbhacpidcbaaGreatDoorQItr
import Derived.Test.YtoepbhacpidcbaaGreatDoorQUnE
import Derived.Test.YtoepbhacpidcbaaGreatDoorQDst
import Derived.Test.YtoepbhacpidcbaaGreatDoorQLnk
import Derived.Test.YtoepbhacpidcbaaGreatDoorQLks
import Derived.Test.YtoepbhacpidcbaaGreatDoorQMid
import Derived.Test.YtoepbhacpidcbaaGreatDoorQBig
import Derived.Test.YtoepbhacpidcbaaGreatDoorQCp2
import Derived.Test.YtoepbhacpidcbaaGreatDoorQGoes
import Derived.Test.YtoepbhacpidcbaaGreatDoorQGOps
import Derived.Test.YtoepbhacpidcbaaGreatDoorQGB
import Derived.Test.YtoepbhacpidcbaaGreatDoorQG8
import Derived.Test.YtoepbhacpidcbaaGreatDoorQWh
import Derived.Test.YtoepbhacpidcbaaGreatDoorQDMov
import Derived.Test.YtoepbhacpidcbaaGreatDoorQWk
import Derived.Test.YtoepbhacpidcbaaGreatDoorQBt1
import Derived.Test.YtoepbhacpidcbaaGreatDoorQHpK
import Derived.Test.YtoepbhacpidcbaaGreatDoorQOc
import Derived.Test.YtoepbhacpidcbaaGreatDoorQSqO
import Derived.Test.YtoepbhacpidcbaaGreatDoorQAps

set_option linter.unusedVariables false
set_option linter.unusedSimpArgs false
namespace Go.Proofs.YtoepbhacpidcbaaGreatDoor
open Go.RowKit Go.Shelf Go.Deep

attribute [local go_sem] Oper.semAt_some

set_option maxRecDepth 100000 in
set_option maxHeartbeats 1000000 in
theorem collect_O {α : Type} (f : α → Int) (L : List α) (hL : L.length ≤ 1000) (g : Nat) (lb : Array Value) (eg : ∀ args w, (callFunc g args).run Tryz.prog w = .ok (.enter g args) w) (w : World) (c : Nat)
    (hseq : ∀ (W1 : World) (F : Nat → Prop), Fr No w W1 → (∀ k, k < w.heap.size → ¬ F k) → (∀ k, W1.heap.size + 2 ≤ k → k < W1.heap.size + 2 + c → ¬ F k) → SeqO Fence.wide 6 Tryz.prog g lb (fun el => #[.int .i64 (f el)]) (Fr F) (fun ys => ys = L) (fun pre => pre <+: L) L.length (W1.heap.size + 2) c W1) :
    Calls Tryz.prog 161 #[.func (.func g) #[] lb] w fun e w' => ∃ v, e = .returned v ∧ w'.ownsRow w.heap.size 3 1 v L.length (L.map fun el => .int .i64 (f el)) ∧ (v = .slice none 0 0 ↔ L = []) ∧ Fr No w w' := by
  have H := hid (appseq_O f L hL g lb eg w c hseq)
  clear hseq eg
  go_enter Tryz.func161, Tryz.ntmps161
  go_wp2_with fail
  refine H.out.mono ?_
  rintro e w1 ⟨v, rfl, h1, h2, h3⟩
  go_wp2
  go_ret
  exact ⟨v, rfl, h1, h2, h3⟩

theorem own_intsQ {w : World} {base : Nat} {v : Value} {l : List Int} (h : w.ownsRow base 3 1 v l.length (l.map (Value.int .i64))) : ∃ A c, v = .slice A l.length c ∧ IntsF w A l.length (fun j => l.getD j 0) := by
  rcases h.2 with ⟨e, h0⟩ | ⟨g, cap, cur, e, _⟩
  · exact ⟨none, 0, by rw [e, h0], fun hh => by omega⟩
  · subst e
    refine ⟨_, cap, rfl, fun h0 => ⟨g, 0, rfl, fun j hj => ?_⟩⟩
    rw [Nat.zero_add, h.cellAt j (by omega)]
    simp [List.getElem?_eq_getElem hj]

def qyEnc (by_ : Nat → Nat) (s : Nat) (el : BitEl s) : Array Value := #[.int .i64 (by_ el.1 : Nat)]

set_option maxRecDepth 100000 in
set_option maxHeartbeats 4000000 in
theorem qall1_seq {Q : QLoc} {n : Nat} {rk by_ : Nat → Nat} {d : Nat → Bool} (hn2 : n ≤ 24) {s : Nat} (hS : SetOf s (fun r => r < n ∧ d (by_ r) = true)) (Bq : Nat) (F : Nat → Prop) (f1 : ¬ F Q.b) (f2 : ¬ F Q.qy) (f3 : ¬ F 1) (f4 : ¬ F Bq) (w : World)
    (hblk : Blk w Q.b 3 164 (qV Q n s)) (hny : Nums w Q.qy n by_) (hT : TzVar w) (hbq : w.cell? ⟨Bq, 0, none⟩ = some (.pointer (some ⟨Q.b, 0, none⟩))) (N0 : Nat) (hF : ∀ k, N0 ≤ k → k < N0 + 2 → ¬ F k) :
    SeqO Fence.wide 6 Tryz.prog 207 #[.pointer (some ⟨Bq, 0, none⟩)] (qyEnc by_ s) (Fr F) (fun ys => ys = sbs s) (fun pre => pre <+: sbs s) (sbs s).length N0 2 w := fun l J Jx W hW hN hJ hJx hY h0 => by
  subst hN
  have hf0 := Fr.of_below hW
  have cq := hf0.cell_some hbq (fun h => h)
  have cs : W.cell? ⟨Q.b, 2, none⟩ = some (.int .u64 (s : Nat)) := hf0.cell_some (hblk.cell (i := 2) (by omega)) (fun h => h)
  have cy : W.cell? ⟨Q.b, 1, none⟩ = some (.slice (some ⟨Q.qy, 0, none⟩) n Q.cy) := hf0.cell_some (hblk.cell (i := 1) (by omega)) (fun h => h)
  have lq := cell_lt cq
  have lb := cell_lt cs
  simp only at lq lb
  have HT := hid (hT.no hf0)
  have HNY := hid (show ∀ r, r < n → W.cell? ⟨Q.qy, r, none⟩ = some (.int .i64 (by_ r : Nat)) from fun r hr => hf0.cell_some (hny r hr) (fun h => h))
  have HJ := hid hJ
  have HJX := hid hJx
  have HY := hid hY
  have H0 := hid h0
  have HFF := hid hF
  have HSS := hid hS
  clear hW hJ hJx hY h0 hblk hny hT hbq hf0 hF hS
  refine (callsIn_wide (n := 6)).2 ((callsIn_wide (n := 7)).1 ?_)
  refine callsIn_of_wp_marks Tryz.func207 rfl trivial ?_ rfl
  refine wpIn_wide.2 ?_
  simp only [Tryz.ntmps207, List.size_toArray, List.length_cons, List.length_nil, Nat.reduceAdd, Nat.reduceSub, Array.replicate_succ, Array.replicate_zero, List.push_toArray, List.append_toArray, List.nil_append, List.cons_append]
  go_wp2_with fail
  have fa : Fr No W (W.alloc (.cells #[.func (.yield l) #[] #[]] 41)) := (Fr.refl No W).alloc _
  refine (sall_calls s _).mono ?_
  rintro e W3 ⟨rfl, hf3, hlt3, hc3⟩
  have hsa : (W.alloc (.cells #[.func (.yield l) #[] #[]] 41)).heap.size = W.heap.size + 1 := by simp
  rw [hsa] at hlt3 hc3 ⊢
  have c23 : W3.cell? ⟨W.heap.size, 0, none⟩ = some (.func (.yield l) #[] #[]) := hf3.cell_some (by simp [go_sem]) (fun h => h)
  have F3 := hid (fa.trans hf3)
  have cq3 := F3.out.cell_some cq (fun h => h)
  have cs3 := F3.out.cell_some cs (fun h => h)
  have cy3 := F3.out.cell_some cy (fun h => h)
  have hj3 : J [] W3 := HJ.out _ _ _ none H0.out (fr_grownBy F3.out) (fun r e => by cases e)
  have HJ3 := hid hj3
  have HC3 := hid hc3
  have p1 : ¬ F W.heap.size := HFF.out _ (by omega) (by omega)
  have p2 : ¬ F (W.heap.size + 1) := HFF.out _ (by omega) (by omega)
  have q1 : Bq < W3.heap.size := by omega
  have q2 : Q.b < W3.heap.size := by omega
  have hT3 := HT.out.no F3.out
  have q4 := hT3.lt
  have HT3 := hid hT3
  have hs24 := HSS.out.lt
  have hny3 : ∀ r, r < n → W3.cell? ⟨Q.qy, r, none⟩ = some (.int .i64 (by_ r : Nat)) := fun r hr => F3.out.cell_some (HNY.out r hr) (fun h => h)
  have HNY3 := hid hny3
  have q5 : 0 < n → Q.qy < W3.heap.size := fun h => cell_lt (hny3 0 h)
  have HQ5 := hid q5
  clear fa hf3 hsa hj3 hc3 cq cs cy H0 hT3 hny3 q5
  go_wp2
  refine (wpIn_wide (n := 7)).1 ?_
  refine wpIn_rangeFunc_ownS rfl (by omega) (gf := 205) (lb := #[.pointer (some ⟨W.heap.size + 1, 0, none⟩)]) rfl trivial (enters_of Tryz.func205 (by kernel_rfl) rfl)
    (sall1_any s hs24 6 (by omega) (W.heap.size + 1) (fun k => F k ∨ W3.heap.size ≤ k) (by rintro (h | h); exact f3 h; omega) W3 HT3.out HC3.out)
    (fun h k => Fr.trans h k) (fun W l o o' hl _ _ _ => fr_putObj W l o' (.inr hl)) (fun W => Fr.refl _ W) (Below.refl _ _) (fun _ => rfl)
    (fun pre W' => J pre W' ∧ Fr (fun k => F k ∨ W3.heap.size ≤ k) W3 W')
    (fun c pre W' => c = .ret ∧ Jx pre W')
    (OwnFrom.both (OwnFrom.later HJ.out (by omega)) (fun s A B row hs hg hr => ownFrom_fr _ W3 s A B row hs hg hr))
    (fun c s A B row hs hg hr => ⟨hs.1, OwnFrom.later HJX.out (show W.heap.size ≤ W3.heap.size by omega) s A B row hs.2 hg hr⟩)
    ⟨HJ3.out, Fr.refl _ _⟩
    (fun el T => T.setIfInBounds 3 (.int .i64 (el.1 : Nat))) ?assign ?body ?done ?stop
  case assign =>
    intro l el W K hK
    simp only [sbEnc]
    gi_wp2
    simpa [sbEnc] using hK
  case stop =>
    rintro D c pre W' hD hSp ⟨rfl, hjx⟩ hKD
    refine wpIn_wide.2 ?_
    go_wp2
    refine ⟨by simp, .inl ⟨D, _, rfl, run_takeDeferred hKD, ?_⟩⟩
    exact ⟨_, results_none rfl _ _ _, ⟨_, rfl⟩, .inr ⟨pre, hSp, OwnFrom.putObj (OwnFrom.later HJX.out (show W.heap.size ≤ W3.heap.size by omega)) _ hjx hD hKD rfl⟩⟩
  case done =>
    rintro D ys W' hD hS ⟨hj, hf⟩ hKD
    go_wp2
    refine ⟨by simp, .inl ⟨D, _, rfl, run_takeDeferred hKD, ?_⟩⟩
    exact ⟨_, results_none rfl _ _ _, ⟨_, rfl⟩, .inl ⟨ys, hS, OwnFrom.putObj (OwnFrom.later HJ.out (show W.heap.size ≤ W3.heap.size by omega)) _ hj hD hKD rfl, by have := hf.size; simp; omega⟩⟩
  case body =>
    rintro l' pre el W' hl hloop ⟨hj, hf⟩ hlen
    have hyk : ∀ w5, Fr No W' w5 → YieldAt Fence.wide (6 - 1) Tryz.prog l #[.int .i64 (by_ el.1 : Nat)] w5 fun e W'_1 => ((e = Ending.returned (.bool true) ∧ J (pre ++ [el]) W'_1 ∧ Fr F w5 W'_1) ∨ (e = Ending.returned (.bool false) ∧ Jx (pre ++ [el]) W'_1)) ∧ KeepsFrom W.heap.size w5 W'_1 := fun w5 h5 =>
      HY.out pre el w5 (HJ.out _ _ _ none hj (fr_grownBy h5) (fun r e => by cases e)) hlen (by have := hf.size; have := h5.size; omega)
    have c24 := hf.cell_some c23 (fun h => h.elim p1 (fun h => by simp only at h; omega))
    have cq4 := hf.cell_some cq3 (fun h => h.elim f4 (fun h => by simp only at h; omega))
    have cy4 := hf.cell_some cy3 (fun h => h.elim f1 (fun h => by simp only at h; omega))
    have hel := (HSS.out.bit el.1).1 el.2
    have hqy := HQ5.out (by omega)
    have ck := hf.cell_some (HNY3.out el.1 hel.1) (fun h => h.elim f2 (fun h => by simp only at h; omega))
    have HFW := hid hf
    have hKN : ∀ w5 W5, Fr No W' w5 → KeepsFrom W.heap.size w5 W5 → KeepsFrom W3.heap.size W' W5 := fun w5 W5 h5 h => ⟨Nat.le_trans h5.size h.size, fun k o hk ho hn => h.same k o (by omega) ((h5.block k (heap_lt ho) (fun h => h)).trans ho) hn⟩
    have HKN := hid hKN
    obtain ⟨r, hr⟩ : ∃ r, el.1 = r := ⟨_, rfl⟩
    rw [hr] at hyk ck hel
    have hr2 : (r : Int) < n := by omega
    have HR1 := hid hr
    have HYK := hid hyk
    have kk1 : ∀ nn : Fam W', nn.v.cell? ⟨W.heap.size, 0, none⟩ = some (.func (.yield l) #[] #[]) := Fam.cell c24
    have kk2 : ∀ nn : Fam W', nn.v.cell? ⟨Bq, 0, none⟩ = some (.pointer (some ⟨Q.b, 0, none⟩)) := Fam.cell cq4
    have kk3 : ∀ nn : Fam W', nn.v.cell? ⟨Q.b, 1, none⟩ = some (.slice (some ⟨Q.qy, 0, none⟩) n Q.cy) := Fam.cell cy4
    have kk4 : ∀ nn : Fam W', nn.v.cell? ⟨Q.qy, r, none⟩ = some (.int .i64 (by_ r : Nat)) := Fam.cell ck
    clear hyk hj hf hloop hKN c24 cq4 cy4 ck hel hr
    simp only [sbEnc, HR1.out, List.zip_toArray, List.foldl_toArray, List.zip_cons_cons, List.zip_nil_left, List.zip_nil_right, List.foldl_cons, List.foldl_nil, List.setIfInBounds_toArray, List.set_cons_zero, List.set_cons_succ]
    gi_wp2_with fail
    refine wpIn_region_fam_tail 8 (by kernel_rfl) (by kernel_rfl) (by kernel_rfl) ?_
    simp only [List.take_succ_cons, List.take_zero, List.drop_succ_cons, List.drop_zero]
    repeat (go_big_quiet_step (fail))
    refine wpQuiet_nil ?_
    rintro w5 ⟨⟨w5, hf5⟩, rfl⟩
    have HF5 := hid hf5
    obtain ⟨fn, tm, asg, bd, hyr, hR⟩ := YieldAt.round (l0 := l') (YieldAt.deep (m' := 4) (HYK.out w5 hf5))
    have HR := hid hR
    clear hf5 kk1 kk2 kk3 kk4 hR
    gi_wp2_with fail
    refine HR.out.mono ?_
    clear hyr
    rintro e W5 ⟨(⟨rfl, hj5, hk5⟩ | ⟨rfl, hj5⟩), hkf⟩
    · have HJ5 := hid hj5
      have HK5 := hid (HF5.out.no.trans hk5)
      have HKF := hid hkf
      clear hj5 hk5 hkf
      gi_wp2
      exact ⟨HKN.out _ _ HF5.out HKF.out, HK5.out.mono (fun k _ h => .inl h), HJ5.out, HFW.out.trans (HK5.out.mono (fun k _ h => .inl h))⟩
    · have HJ5 := hid hj5
      have HKF := hid hkf
      clear hj5 hkf
      gi_wp2
      exact ⟨HKN.out _ _ HF5.out HKF.out, rfl, HJ5.out⟩

set_option maxRecDepth 100000 in
set_option maxHeartbeats 2000000 in
theorem bof_calls {w : World} (A : Option Addr) (n c : Nat) (f : Nat → Int) (h : IntsF w A n f) (hn : n ≤ 1000) (hb : ∀ j, j < n → 0 ≤ f j ∧ f j < 24) :
    Calls Tryz.prog 160 #[.slice A n c] w fun e w' => ∃ t : Nat, e = .returned (.int .u64 (t : Nat)) ∧ SetOf t (fun i => ∃ j, j < n ∧ f j = (i : Nat)) ∧ Fr No w w' := by
  have H := hid h
  have HB := hid hb
  clear h hb
  go_enter Tryz.func160, Tryz.ntmps160
  go_wp2
  go_loopg [3, 8] (n + 1) (fun g p q wr => ∃ (k t : Nat), p = .int .u64 (t : Nat) ∧ q = .int .i64 k ∧ k ≤ n ∧ g = n + 1 - k ∧ SetOf t (fun i => ∃ j, j < k ∧ f j = (i : Nat)) ∧ Fr No w wr)
  case atStart => exact ⟨0, 0, rfl, rfl, by omega, rfl, SetOf.nil (fun i ⟨j, hj, _⟩ => by omega), Fr.refl _ _⟩
  case round =>
    obtain ⟨k, t, rfl, rfl, hk, hg, hS, hf⟩ := hrel
    have HG := hid hg
    have HS := hid hS
    have HF := hid hf
    clear hg hS hf
    by_cases hlt : k < n
    · have hlt2 : (k : Int) < n := by omega
      obtain ⟨b, off, rfl, hc⟩ := H.out (by omega)
      have q0 := HF.out.cell_some (hc k hlt) (fun h => h)
      obtain ⟨hx0, hx1⟩ := HB.out k hlt
      obtain ⟨x, hx⟩ := Int.eq_ofNat_of_zero_le hx0
      rw [hx] at q0 hx1
      have hx24 : x < 24 := by omega
      have hor := or_pow HS.out.lt hx24
      have hS' : SetOf (t ||| 2 ^ x) (fun i => ∃ j, j < k + 1 ∧ f j = (i : Nat)) := HS.out.or hx24 (fun i => by
        constructor
        · rintro ⟨j, hj, e⟩
          rcases Nat.lt_or_ge j k with h | h
          · exact .inl ⟨j, h, e⟩
          · obtain rfl : j = k := by omega
            exact .inr (by omega)
        · rintro (⟨j, hj, e⟩ | rfl)
          · exact ⟨j, by omega, e⟩
          · exact ⟨k, by omega, hx⟩)
      have HS' := hid hS'
      have HOR := hid hor
      have HX := hid hx
      clear hS' hor hx hx0 hx1 hc
      go_wp2_with fail
      refine (bit_calls x hx24 _).mono ?_
      rintro e w1 ⟨rfl, hf1⟩
      have HF1 := hid (HF.out.trans hf1)
      clear hf1 q0
      go_wp2_with fail
      go_roundg (n + 1 - (k + 1))
      case measure => have := HG.out; omega
      case rel => exact ⟨k + 1, t ||| 2 ^ x, by rw [HOR.out], by go_num, by omega, rfl, HS'.out, HF1.out⟩
    · obtain rfl : k = n := by omega
      go_wp2
      go_ret
      exact ⟨t, rfl, HS.out, HF.out⟩

set_option maxRecDepth 100000 in
set_option maxHeartbeats 1000000 in
theorem qall_calls (b : Nat) (w : World) :
    Calls Tryz.prog 162 #[.pointer (some ⟨b, 0, none⟩)] w fun e w' => e = .returned (.func (.func 207) #[] #[.pointer (some ⟨w.heap.size, 0, none⟩)]) ∧ Fr No w w' ∧ w.heap.size < w'.heap.size ∧ w'.cell? ⟨w.heap.size, 0, none⟩ = some (.pointer (some ⟨b, 0, none⟩)) := by
  go_enter Tryz.func162, Tryz.ntmps162
  go_wp2
  go_ret
  exact ⟨rfl, (Fr.refl _ _).alloc _, by simp, by simp [go_sem]⟩

theorem sbs_len (s : Nat) : (sbs s).length ≤ 24 := by
  have h1 := congrArg List.length (sbTo_map s 24)
  rw [List.length_map] at h1
  have h2 := List.length_filter_le (fun i => s.testBit i) (List.range 24)
  rw [List.length_range] at h2
  unfold sbs
  omega
def sbL (by_ : Nat → Nat) (s : Nat) : List Int := (sbs s).map fun el => ((by_ el.1 : Nat) : Int)
theorem sbL_len (by_ : Nat → Nat) (s : Nat) : (sbL by_ s).length = (sbs s).length := by unfold sbL; rw [List.length_map]
theorem sbL_get (by_ : Nat → Nat) (s j : Nat) (hj : j < (sbL by_ s).length) : ∃ el : BitEl s, (sbL by_ s).getD j 0 = (by_ el.1 : Nat) := by
  rw [List.getD, List.getElem?_eq_getElem hj, Option.getD_some]
  have hm := List.getElem_mem hj
  unfold sbL at hm
  obtain ⟨el, _, h2⟩ := List.mem_map.1 hm
  exact ⟨el, by rw [h2]; rfl⟩
theorem sbL_set {n : Nat} {rk by_ : Nat → Nat} {d : Nat → Bool} (ho : Od n rk by_) {s : Nat} (hS : SetOf s (fun r => r < n ∧ d (by_ r) = true)) (v : Nat) : (v < n ∧ d v = true) ↔ ∃ j, j < (sbL by_ s).length ∧ (sbL by_ s).getD j 0 = (v : Nat) := by
  have hn2 := ho.n2
  constructor
  · rintro ⟨hv, hd⟩
    have hrv := ho.rk v hv
    have hbit := (hS.bit (rk v)).2 ⟨hrv.1, by rw [hrv.2]; exact hd⟩
    have hmem : (⟨rk v, hbit⟩ : BitEl s) ∈ sbs s := (sbTo_mem s 24 _).2 (by show rk v < 24; omega)
    have hm2 : ((by_ (rk v) : Nat) : Int) ∈ sbL by_ s := List.mem_map.2 ⟨_, hmem, rfl⟩
    obtain ⟨j, hj, e⟩ := List.getElem_of_mem hm2
    refine ⟨j, hj, ?_⟩
    rw [List.getD, List.getElem?_eq_getElem hj, Option.getD_some, e, hrv.2]
  · rintro ⟨j, hj, e⟩
    obtain ⟨el, e2⟩ := sbL_get by_ s j hj
    have hb := (hS.bit el.1).1 el.2
    have : by_ el.1 = v := by omega
    rw [← this]
    exact ⟨(ho.by_ el.1 hb.1).1, hb.2⟩

set_option maxRecDepth 100000 in
set_option maxHeartbeats 2000000 in
theorem qset_calls {w : World} {Q : QLoc} {n : Nat} {rk by_ : Nat → Nat} {d : Nat → Bool} (ho : Od n rk by_) (h : QMem w Q n rk by_ d) :
    Calls Tryz.prog 85 #[.pointer (some ⟨Q.b, 0, none⟩)] w fun e w' => ∃ t : Nat, e = .returned (.int .u64 (t : Nat)) ∧ SetOf t (fun v => v < n ∧ d v = true) ∧ Fr No w w' := by
  have H := hid h
  have HO := hid ho
  have hn2 := ho.n2
  have lqb := h.lt
  have lqy := h.hy.1
  have ltz := h.tz.lt
  clear h ho
  go_enter Tryz.func85, Tryz.ntmps85
  go_wp2_with fail
  refine (qall_calls Q.b w).mono ?_
  rintro e w1 ⟨rfl, hf1, hlt1, hc1⟩
  have hq1 := H.out.no hf1
  obtain ⟨s, hs1, hs2⟩ := hq1.s
  have hcol := collect_O (fun el : BitEl s => ((by_ el.1 : Nat) : Int)) (sbs s) (Nat.le_trans (sbs_len s) (by decide)) 207 #[.pointer (some ⟨w.heap.size, 0, none⟩)] (enters_of Tryz.func207 (by kernel_rfl) rfl) w1 2 (fun W1 F hW1 hF1 hF2 => 
    qall1_seq (rk := rk) hn2 hs2 w.heap.size F (hF1 _ (by omega)) (hF1 _ (by omega)) (hF1 _ (by omega)) (hF1 _ (by omega)) W1 (hs1.fr hW1 (fun h => h)) (fun r hr => hW1.cell_some (hq1.ny r hr) (fun h => h)) (hq1.tz.no hW1) (hW1.cell_some hc1 (fun h => h)) _ hF2)
  have HCOL := hid hcol
  have HSET := hid (sbL_set HO.out hs2)
  have hbd : ∀ j, j < (sbL by_ s).length → 0 ≤ (sbL by_ s).getD j 0 ∧ (sbL by_ s).getD j 0 < 24 := fun j hj => by
    obtain ⟨el, e⟩ := sbL_get by_ s j hj
    have := HO.out.by_ el.1 ((hs2.bit el.1).1 el.2).1
    omega
  have HBD := hid hbd
  have hlen : (sbL by_ s).length ≤ 1000 := by rw [sbL_len]; exact Nat.le_trans (sbs_len s) (by decide)
  have F1 := hid hf1
  clear hf1 hq1 hs1 hs2 hc1 hcol hbd H HO
  go_wp2_with fail
  refine HCOL.out.mono ?_
  rintro e w2 ⟨v, rfl, hown, hnil, hf2⟩
  have hown2 : w2.ownsRow w1.heap.size 3 1 v (sbL by_ s).length ((sbL by_ s).map (Value.int .i64)) := by
    rw [sbL_len]
    unfold sbL
    rw [List.map_map]
    exact hown
  obtain ⟨A, c, rfl, hint⟩ := own_intsQ hown2
  obtain ⟨l, hl⟩ : ∃ l, sbL by_ s = l := ⟨_, rfl⟩
  rw [hl] at HSET HBD hlen hint ⊢
  have HIN := hid hint
  have F2 := hid (F1.out.trans hf2)
  clear hown hown2 hnil hf2 hint HCOL hl
  go_wp2_with fail
  refine (bof_calls A _ c _ HIN.out hlen HBD.out).mono ?_
  rintro e w3 ⟨t, rfl, hS, hf3⟩
  have HST := hid hS
  have F3 := hid (F2.out.trans hf3)
  clear hS hf3
  go_wp2
  go_ret
  exact ⟨t, rfl, HST.out.congr (fun i => (HSET.out i).symm), F3.out⟩

end Go.Proofs.YtoepbhacpidcbaaGreatDoor
/- A keeper: how it lies in memory; how it is made; what is noted; walked. -/
set_option linter.unusedVariables false
set_option linter.unusedSimpArgs false
namespace Go.Proofs.YtoepbhacpidcbaaGreatDoor
open Go.RowKit Go.Shelf Go.Deep

structure KLoc where
  b : Nat
  Q : QLoc
  L : IxLoc
/-- The blocks that a keeper's steps turn. -/
def KLoc.own (k : KLoc) (j : Nat) : Prop := j = k.Q.b ∨ j = k.L.b
structure KMem (w : World) (k : KLoc) (K : Kp) : Prop where
  ok : K.Ok
  c : Blk w k.b 2 77 (fun i => if i = 0 then .pointer (some ⟨k.Q.b, 0, none⟩) else .pointer (some ⟨k.L.b, 0, none⟩))
  q : QMem w k.Q K.x.n K.x.rk K.x.by_ K.d
  x : IxMem w k.L K.x
  cap : K.x.n ≤ k.L.cb
  s1 : k.Q.b ≠ k.L.b ∧ k.Q.b ≠ k.L.br ∧ k.Q.b ≠ k.L.bb ∧ k.Q.b ≠ 0
  s2 : k.L.b ≠ k.Q.qr ∧ k.L.b ≠ k.Q.qy ∧ k.L.b ≠ 1
  s3 : k.b ≠ k.Q.b ∧ k.b ≠ k.L.b
theorem KMem.fr {w w' : World} {k : KLoc} {K : Kp} (h : KMem w k K) {F : Nat → Prop} (hf : Fr F w w') (h0 : ¬ F k.b) (h1 : ¬ F k.Q.b) (h2 : ¬ F k.Q.qr) (h3 : ¬ F k.Q.qy) (h4 : ¬ F 1) (h5 : ¬ F k.L.b) (h6 : ¬ F k.L.br) (h7 : ¬ F k.L.bb) (h8 : ¬ F 0) : KMem w' k K :=
  ⟨h.ok, h.c.fr hf h0, h.q.fr hf h1 h2 h3 h4, h.x.fr hf h5 h6 h7 h8, h.cap, h.s1, h.s2, h.s3⟩
theorem KMem.no {w w' : World} {k : KLoc} {K : Kp} (h : KMem w k K) (hf : Fr No w w') : KMem w' k K := h.fr hf (fun h => h) (fun h => h) (fun h => h) (fun h => h) (fun h => h) (fun h => h) (fun h => h) (fun h => h) (fun h => h)
theorem KMem.cq {w : World} {k : KLoc} {K : Kp} (h : KMem w k K) : w.cell? ⟨k.b, 0, none⟩ = some (.pointer (some ⟨k.Q.b, 0, none⟩)) := h.c.cell (i := 0) (by omega)
theorem KMem.cx {w : World} {k : KLoc} {K : Kp} (h : KMem w k K) : w.cell? ⟨k.b, 1, none⟩ = some (.pointer (some ⟨k.L.b, 0, none⟩)) := h.c.cell (i := 1) (by omega)
/-- Another set of dirty vertices. -/
theorem KMem.dirty {w w' : World} {k : KLoc} {K : Kp} (h : KMem w k K) {d' : Nat → Bool} (hf : Fr (One k.Q.b) w w') (hq : QMem w' k.Q K.x.n K.x.rk K.x.by_ d') (hd : ∀ z, d' z = true → z < K.x.n) : KMem w' k ⟨K.x, d'⟩ :=
  ⟨⟨h.ok.ok, h.ok.fit, hd⟩, h.c.fr hf h.s3.1, hq, h.x.fr hf (fun e => h.s1.1 e.symm) (fun e => h.s1.2.1 e.symm) (fun e => h.s1.2.2.1 e.symm) (fun e => h.s1.2.2.2 e.symm), h.cap, h.s1, h.s2, h.s3⟩
set_option maxRecDepth 100000 in
set_option maxHeartbeats 2000000 in
theorem kindex_calls {w : World} {k : KLoc} {K : Kp} (h : KMem w k K) :
    Calls Tryz.prog 37 #[.pointer (some ⟨k.b, 0, none⟩)] w fun e w' => ∃ C : IxLoc, e = .returned (.pointer (some ⟨C.b, 0, none⟩)) ∧ Fr No w w' ∧ IxMem w' C K.x ∧ w.heap.size ≤ C.b ∧ w.heap.size ≤ C.br ∧ w.heap.size ≤ C.bb ∧ C.br ≠ C.b ∧ C.bb ≠ C.b ∧ K.x.n ≤ C.cb := by
  have c1 := h.cx
  have H := hid h
  clear h
  go_enter Tryz.func37, Tryz.ntmps37
  go_wp2_with fail
  refine (copy2_calls H.out.x).mono ?_
  rintro e w1 ⟨C, rfl, h1, h2, h3⟩
  go_wp2
  go_ret
  exact ⟨C, rfl, h1, h2, h3⟩

set_option maxRecDepth 100000 in
set_option maxHeartbeats 2000000 in
theorem kdirty_calls {w : World} {k : KLoc} {K : Kp} (h : KMem w k K) :
    Calls Tryz.prog 33 #[.pointer (some ⟨k.b, 0, none⟩)] w fun e w' => ∃ t : Nat, e = .returned (.int .u64 (t : Nat)) ∧ SetOf t (fun v => K.d v = true) ∧ Fr No w w' := by
  have c0 := h.cq
  have H := hid h
  clear h
  go_enter Tryz.func33, Tryz.ntmps33
  go_wp2_with fail
  refine (qset_calls H.out.ok.ok.od H.out.q).mono ?_
  rintro e w1 ⟨t, rfl, h1, h2⟩
  go_wp2
  go_ret
  exact ⟨t, rfl, h1.congr fun v => ⟨fun h => h.2, fun h => ⟨H.out.ok.d v h, h⟩⟩, h2⟩

theorem Ix.low_int {x : Ix} (u v : Int) : x.low u v = -1 ∨ ∃ z : Nat, x.low u v = z ∧ z < x.n := by
  unfold Ix.low
  split
  · rename_i ht
    obtain ⟨_, h1, h2, h3, h4⟩ := two_iff ht
    right
    split
    · exact ⟨u.toNat, by omega, by omega⟩
    · exact ⟨v.toNat, by omega, by omega⟩
  · exact .inl rfl

set_option maxRecDepth 100000 in
set_option maxHeartbeats 2000000 in
theorem knote_calls {w : World} {k : KLoc} {K : Kp} (h : KMem w k K) (u v : Int) :
    Calls Tryz.prog 72 #[.pointer (some ⟨k.b, 0, none⟩), .int .i64 u, .int .i64 v] w fun e w' => e = .returned (.int .i64 (if K.x.low u v < 0 then 1 else 0)) ∧ Fr k.own w w' ∧ KMem w' k (K.note u v) := by
  have c1 := h.cx
  have H := hid h
  clear h
  have hlow := low_calls H.out.x u v
  rcases K.x.low_int u v with e | ⟨z, e, hz⟩
  · have hnote : K.note u v = K := by
      unfold Kp.note
      have : (fun z : Nat => K.d z || decide (K.x.low u v = (z : Nat))) = K.d := by
        funext z
        rw [e, decide_eq_false (by omega), Bool.or_false]
      rw [this]
    have HN := hid hnote
    rw [e] at hlow
    have HL := hid hlow
    rw [e]
    clear hlow e hnote
    go_enter Tryz.func72, Tryz.ntmps72
    go_wp2_with fail
    refine HL.out.mono ?_
    rintro e w1 ⟨rfl, kk, rfl⟩
    go_wp2
    go_ret
    exact ⟨rfl, (Fr.of_drewN kk).no, by rw [HN.out]; exact H.out.no (Fr.of_drewN kk)⟩
  · have hnote : K.note u v = ⟨K.x, fun y => K.d y || decide (y = z)⟩ := by
      unfold Kp.note
      congr 1
      funext y
      rw [e]
      by_cases hy : y = z
      · subst hy; simp
      · rw [decide_eq_false hy, decide_eq_false (show ¬ ((z : Nat) : Int) = (y : Nat) by omega)]
    have HN := hid hnote
    rw [e] at hlow
    have HL := hid hlow
    rw [e, if_neg (by omega)]
    clear hlow e hnote
    go_enter Tryz.func72, Tryz.ntmps72
    go_wp2_with fail
    refine HL.out.mono ?_
    rintro e w1 ⟨rfl, kk, rfl⟩
    have H1 := hid (H.out.no (Fr.of_drewN kk))
    have c0 := H1.out.cq
    go_wp2_with fail
    refine (qput_calls H1.out.ok.ok.od H1.out.q z hz).mono ?_
    rintro e w2 ⟨rfl, hf, hq⟩
    have HF := hid hf
    have HQ := hid hq
    clear hf hq
    generalize (if K.d z = true then (5 : Int) else 0) = cc
    go_wp2
    go_ret
    refine ⟨rfl, (Fr.of_drewN kk).no.trans (HF.out.mono fun j _ h => .inl h), ?_⟩
    rw [HN.out]
    refine H1.out.dirty HF.out HQ.out (fun y hy => ?_)
    rw [Bool.or_eq_true, decide_eq_true_eq] at hy
    rcases hy with hy | rfl
    · exact H1.out.ok.d y hy
    · exact hz

end Go.Proofs.YtoepbhacpidcbaaGreatDoor
/- A keeper is made: of an index, of a copy, of an order; walked. -/
set_option linter.unusedVariables false
set_option linter.unusedSimpArgs false
namespace Go.Proofs.YtoepbhacpidcbaaGreatDoor
open Go.RowKit Go.Shelf Go.Deep

theorem Ix.Ok.perm {x : Ix} (h : x.Ok) : PermF x.n (fun i => ((x.rk i : Nat) : Int)) := ⟨h.n2, fun j hj => by
  have := h.rk j hj
  show (0 : Int) ≤ (x.rk j : Nat) ∧ ((x.rk j : Nat) : Int) < x.n
  omega, fun i j hij hj e => by
  have e : ((x.rk i : Nat) : Int) = (x.rk j : Nat) := e
  have := h.inj (show i < x.n by omega) hj (by omega)
  omega⟩

set_option maxRecDepth 100000 in
set_option maxHeartbeats 4000000 in
theorem keeper_calls {w : World} {L : IxLoc} {x : Ix} (h : IxMem w L x) (hcap : x.n ≤ L.cb) (hfit : x.Fit) (hT : TzVar w) (hsep : L.b ≠ 1) :
    Calls Tryz.prog 74 #[.pointer (some ⟨L.b, 0, none⟩)] w fun e w' => ∃ k : KLoc, k.L = L ∧ e = .returned (.pointer (some ⟨k.b, 0, none⟩)) ∧ Fr No w w' ∧ KMem w' k ⟨x, fun _ => false⟩ ∧ w.heap.size ≤ k.b ∧ w.heap.size ≤ k.Q.b ∧ w.heap.size ≤ k.Q.qr ∧ w.heap.size ≤ k.Q.qy := by
  have H := hid h
  have HFIT := hid hfit
  have HT := hid hT
  have hn1 := h.ok.n1
  have hn2 := h.ok.n2
  have hmk := fun w => run_make_row' (P := Tryz.prog) 34 3 (.int .i64 0) 8 Tryz.underlying34 info_int rfl .i64 .i64 x.n (by omega) (by omega) w
  clear h hfit hT
  go_enter Tryz.func74, Tryz.ntmps74
  go_wp2_with fail
  refine (vertices_calls H.out).mono ?_
  rintro e w1 ⟨rfl, hf1⟩
  have F1 := hid hf1
  clear hf1
  go_wp2_with fail
  have hb := Blk.made w1 x.n (.int .i64 0) 3
  have hfa : Fr No w1 (w1.alloc (.cells (madeCells #[.int .i64 0] x.n) 3)) := (Fr.refl No w1).alloc _
  have hsa : w1.heap.size < (w1.alloc (.cells (madeCells #[.int .i64 0] x.n) 3)).heap.size := by simp
  generalize (w1.alloc (.cells (madeCells #[.int .i64 0] x.n) 3)) = W2 at hb hfa hsa ⊢
  have HB := hid hb
  have FA := hid hfa
  clear hb hfa hmk
  go_loopg [12] (x.n + 1) (fun g p wr => ∃ k : Nat, p = .int .i64 k ∧ k ≤ x.n ∧ g = x.n + 1 - k ∧ Blk wr w1.heap.size x.n 3 (fun i => .int .i64 (if i < k then (x.rk i : Nat) else 0 : Nat)) ∧ Fr (One w1.heap.size) W2 wr)
  case atStart => exact ⟨0, rfl, by omega, rfl, HB.out.congr (fun i hi => by rw [if_neg (by omega)]; rfl), Fr.refl _ _⟩
  case round =>
    obtain ⟨k, rfl, hk, hg, hblk, hf⟩ := hrel
    have HG := hid hg
    have HBK := hid hblk
    have HF := hid hf
    have FW := hid (FA.out.trans' hf (fun j hj (e : j = w1.heap.size) => by omega))
    clear hg hblk hf
    by_cases hlt : k < x.n
    · have hlt2 : (k : Int) < x.n := by omega
      have hrank : x.rank (k : Nat) = (x.rk k : Nat) := by unfold Ix.rank; rw [if_pos ⟨by omega, by omega⟩, Int.toNat_natCast]
      have hrc := rank_calls (H.out.no (F1.out.trans FW.out)) ((k : Nat) : Int)
      rw [hrank] at hrc
      have HRC := hid hrc
      clear hrank hrc
      go_wp2_with fail
      refine HRC.out.mono ?_
      rintro e w3 ⟨rfl, hw⟩
      subst hw
      have q0 := HBK.out.cell hlt
      have z0 := HBK.out.frozen k
      have lb := HBK.out.lt
      go_wp2
      go_roundg (x.n + 1 - (k + 1))
      case measure => have := HG.out; omega
      case rel =>
        refine ⟨k + 1, by go_num, by omega, rfl, (HBK.out.setCell k _).congr (fun i hi => ?_), HF.out.set1 k _⟩
        unfold upd
        by_cases e : i = k
        · subst e; rw [if_pos rfl, if_pos (by omega)]
        · rw [if_neg e]
          show Value.int .i64 ((if i < k then x.rk i else 0 : Nat) : Int) = Value.int .i64 ((if i < k + 1 then x.rk i else 0 : Nat) : Int)
          by_cases h2 : i < k
          · rw [if_pos h2, if_pos (by omega)]
          · rw [if_neg h2, if_neg (by omega)]
    · obtain rfl : k = x.n := by omega
      have hints : IntsF wr (some ⟨w1.heap.size, 0, none⟩) x.n (fun i => ((x.rk i : Nat) : Int)) := fun _ => ⟨w1.heap.size, 0, rfl, fun j hj => by rw [Nat.zero_add, HBK.out.cell hj, if_pos hj]⟩
      have HIN := hid hints
      have FZ := hid (F1.out.trans FW.out)
      have hok := H.out.ok
      have HOK := hid hok
      have hq := fun w (hI : IntsF w (some ⟨w1.heap.size, 0, none⟩) x.n (fun i => ((x.rk i : Nat) : Int))) (hT : TzVar w) => qnew_calls (some ⟨w1.heap.size, 0, none⟩) x.n x.n (fun i => ((x.rk i : Nat) : Int)) hI hn1 hok.perm x.by_ (fun i hi => by rw [Int.toNat_natCast]; exact (hok.rk i hi).2) (fun r hr => ⟨(hok.by_ r hr).1, by rw [(hok.by_ r hr).2]⟩) hT
      have HQ := hid (hq wr HIN.out (HT.out.no FZ.out))
      clear hints hq hok
      go_wp2_with fail
      refine HQ.out.mono ?_
      rintro e w4 ⟨Q, rfl, hf4, hq4, h1, h2, h3⟩
      have hqq : QMem w4 Q x.n x.rk x.by_ (fun _ => false) := by
        have e1 : (fun i => (((x.rk i : Nat) : Int)).toNat) = x.rk := by funext i; exact Int.toNat_natCast _
        rw [e1] at hq4
        exact hq4
      have HQQ := hid hqq
      have F4 := hid (FZ.out.trans hf4)
      have s0 := FZ.out.size
      have s4 := hf4.size
      clear hf4 hq4 hqq HQ
      go_wp2
      go_ret
      have f5 := (Fr.refl No w4).alloc (.cells #[.pointer (some ⟨Q.b, 0, none⟩), .pointer (some ⟨L.b, 0, none⟩)] 77)
      have l1 := H.out.lt
      have l2 := H.out.hr.1
      have l3 := H.out.hb.1
      have l4 := H.out.gn.lt
      have l5 := HT.out.lt
      have l6 := HQQ.out.lt
      refine ⟨⟨w4.heap.size, Q, L⟩, rfl, rfl, F4.out.trans f5, ⟨⟨HOK.out, HFIT.out, fun z hz => by cases hz⟩, ⟨_, heap_new _ _, rfl, fun i hi => ?_⟩, HQQ.out.no f5, (H.out.no F4.out).no f5, hcap, ?_, ?_, ?_⟩, ?_, ?_, ?_, ?_⟩
      · match i, hi with
        | 0, _ => rfl
        | 1, _ => rfl
      · show Q.b ≠ L.b ∧ Q.b ≠ L.br ∧ Q.b ≠ L.bb ∧ Q.b ≠ _; omega
      · show L.b ≠ Q.qr ∧ L.b ≠ Q.qy ∧ L.b ≠ _
        exact ⟨by omega, by omega, hsep⟩
      · show w4.heap.size ≠ Q.b ∧ w4.heap.size ≠ L.b; omega
      · show w.heap.size ≤ w4.heap.size; omega
      · show w.heap.size ≤ Q.b; omega
      · show w.heap.size ≤ Q.qr; omega
      · show w.heap.size ≤ Q.qy; omega

structure KLoc.From (k : KLoc) (N : Nat) : Prop where
  b : N ≤ k.b
  qb : N ≤ k.Q.b
  qr : N ≤ k.Q.qr
  qy : N ≤ k.Q.qy
  lb : N ≤ k.L.b
  lr : N ≤ k.L.br
  ly : N ≤ k.L.bb

set_option maxRecDepth 100000 in
set_option maxHeartbeats 2000000 in
theorem knew_calls {w : World} (A : Option Addr) (n c : Nat) (f : Nat → Int) (h : IntsF w A n f) (h0 : 0 < n) (hd : PermF n f) (g : Nat → Nat) (hg1 : ∀ i, i < n → g (f i).toNat = i) (hg2 : ∀ r, r < n → g r < n ∧ f (g r) = r) (hN : NoneVar w) (hT : TzVar w) :
    Calls Tryz.prog 28 #[.slice A n c] w fun e w' => ∃ k : KLoc, e = .returned (.tuple #[.pointer (some ⟨k.b, 0, none⟩), .int .i64 0]) ∧ Fr No w w' ∧ KMem w' k ⟨Ix.new n f g, fun z => decide (z < n)⟩ ∧ k.From w.heap.size := by
  have hnew := new_yes A n c f w h h0 hd g hg1 hg2 hN
  have HNEW := hid hnew
  have HT := hid hT
  have lt := hT.lt
  have hx0 : (Ix.new n f g).n = n := rfl
  have HX0 := hid hx0
  obtain ⟨x, hx⟩ : ∃ x, Ix.new n f g = x := ⟨_, rfl⟩
  have hfit : x.Fit := by rw [← hx]; exact Ix.Fit.new n f g
  have HFIT := hid hfit
  rw [hx] at HNEW HX0 ⊢
  clear h hd hg1 hg2 hN hT hnew hx hfit hx0
  go_enter Tryz.func28, Tryz.ntmps28
  go_wp2_with fail
  refine HNEW.out.mono ?_
  rintro e w1 ⟨L, rfl, hf1, hxm, h1, h2, h3, hcb⟩
  have s1 := hf1.size
  have HX := hid hxm
  have F1 := hid hf1
  have HCB := hid hcb
  clear hf1 hxm hcb
  go_wp2_with fail
  refine (keeper_calls HX.out (by rw [HCB.out, HX0.out]; exact Nat.le_refl _) HFIT.out (HT.out.no F1.out) (by omega)).mono ?_
  rintro e w2 ⟨k, hL, rfl, hf2, hk, k1, k2, k3, k4⟩
  subst hL
  have HK := hid hk
  have F2 := hid (F1.out.trans hf2)
  have c0 := hk.cq
  have s2 := F2.out.size
  clear hf2 hk
  go_wp2_with fail
  refine (qfill_calls HK.out.ok.ok.od HK.out.q).mono ?_
  rintro e w3 ⟨⟨v, rfl⟩, hf3, hq3⟩
  have HF3 := hid hf3
  have HQ3 := hid hq3
  clear hf3 hq3
  go_wp2
  go_ret2
  refine ⟨k, rfl, F2.out.trans' HF3.out (fun j hj (e : j = k.Q.b) => by omega), ?_, ⟨by omega, by omega, by omega, by omega, h1, h2, h3⟩⟩
  have := HK.out.dirty HF3.out HQ3.out (fun z hz => by simpa using hz)
  rw [show (fun z => decide (z < n)) = (fun z => decide (z < x.n)) by rw [HX0.out]]
  exact this

set_option maxRecDepth 100000 in
set_option maxHeartbeats 2000000 in
theorem knew_no {w : World} (A : Option Addr) (n c : Nat) (f : Nat → Int) (h : IntsF w A n f) (hn : n ≤ 140737488351232) (hd : ¬ (0 < n ∧ PermF n f)) :
    Calls Tryz.prog 28 #[.slice A n c] w fun e w' => e = .returned (.tuple #[.pointer none, .int .i64 1]) ∧ Fr No w w' := by
  have HNEW := hid (new_no A n c f w h hn hd)
  clear h hd
  go_enter Tryz.func28, Tryz.ntmps28
  go_wp2_with fail
  refine HNEW.out.mono ?_
  rintro e w1 ⟨rfl, hf1⟩
  go_wp2
  go_ret2
  exact ⟨rfl, hf1⟩

end Go.Proofs.YtoepbhacpidcbaaGreatDoor
/- What an entry became is counted; the entries between a vertex and higher ones, as an iterator; walked. -/
set_option linter.unusedVariables false
set_option linter.unusedSimpArgs false
namespace Go.Proofs.YtoepbhacpidcbaaGreatDoor
open Go.RowKit Go.Shelf Go.Deep

def wkF (v c w t m : Nat) (i : Nat) : Value :=
  if i = 0 then .int .i64 (v : Nat) else if i = 1 then .int .i64 (c : Nat) else if i = 2 then .int .i64 (w : Nat) else if i = 3 then .int .i64 (t : Nat) else .int .u64 (m : Nat)
/-- A work lies at B. -/
def WkAt (W : World) (B v c w t m : Nat) : Prop := Blk W B 5 81 (wkF v c w t m)
theorem WkAt.fr {W W' : World} {B v c w t m : Nat} (h : WkAt W B v c w t m) {F : Nat → Prop} (hf : Fr F W W') (hF : ¬ F B) : WkAt W' B v c w t m := Blk.fr h hf hF
theorem WkAt.c1 {W : World} {B v c w t m : Nat} (h : WkAt W B v c w t m) : W.cell? ⟨B, 1, none⟩ = some (.int .i64 (c : Nat)) := Blk.cell h (i := 1) (by omega)
theorem WkAt.c2 {W : World} {B v c w t m : Nat} (h : WkAt W B v c w t m) : W.cell? ⟨B, 2, none⟩ = some (.int .i64 (w : Nat)) := Blk.cell h (i := 2) (by omega)
theorem WkAt.c3 {W : World} {B v c w t m : Nat} (h : WkAt W B v c w t m) : W.cell? ⟨B, 3, none⟩ = some (.int .i64 (t : Nat)) := Blk.cell h (i := 3) (by omega)
theorem WkAt.c4 {W : World} {B v c w t m : Nat} (h : WkAt W B v c w t m) : W.cell? ⟨B, 4, none⟩ = some (.int .u64 (m : Nat)) := Blk.cell h (i := 4) (by omega)
theorem WkAt.came {W : World} {B v c w t m : Nat} (h : WkAt W B v c w t m) (c' : Nat) : WkAt (W.setCell ⟨B, 1, none⟩ (.int .i64 (c' : Nat))) B v c' w t m := (Blk.setCell h 1 _).congr fun i hi => by
  match i, hi with
  | 0, _ => rfl
  | 1, _ => rfl
  | 2, _ => rfl
  | 3, _ => rfl
  | 4, _ => rfl
theorem WkAt.went {W : World} {B v c w t m : Nat} (h : WkAt W B v c w t m) (w' : Nat) : WkAt (W.setCell ⟨B, 2, none⟩ (.int .i64 (w' : Nat))) B v c w' t m := (Blk.setCell h 2 _).congr fun i hi => by
  match i, hi with
  | 0, _ => rfl
  | 1, _ => rfl
  | 2, _ => rfl
  | 3, _ => rfl
  | 4, _ => rfl
theorem WkAt.turned {W : World} {B v c w t m : Nat} (h : WkAt W B v c w t m) (t' : Nat) : WkAt (W.setCell ⟨B, 3, none⟩ (.int .i64 (t' : Nat))) B v c w t' m := (Blk.setCell h 3 _).congr fun i hi => by
  match i, hi with
  | 0, _ => rfl
  | 1, _ => rfl
  | 2, _ => rfl
  | 3, _ => rfl
  | 4, _ => rfl
theorem WkAt.marked {W : World} {B v c w t m : Nat} (h : WkAt W B v c w t m) (m' : Nat) : WkAt (W.setCell ⟨B, 4, none⟩ (.int .u64 (m' : Nat))) B v c w t m' := (Blk.setCell h 4 _).congr fun i hi => by
  match i, hi with
  | 0, _ => rfl
  | 1, _ => rfl
  | 2, _ => rfl
  | 3, _ => rfl
  | 4, _ => rfl
theorem wkAt_new (W : World) (v : Nat) : WkAt (W.alloc (.cells #[.int .i64 (v : Nat), .int .i64 0, .int .i64 0, .int .i64 0, .int .u64 0] 81)) W.heap.size v 0 0 0 0 := ⟨_, heap_new _ _, rfl, fun i hi => by
  match i, hi with
  | 0, _ => rfl
  | 1, _ => rfl
  | 2, _ => rfl
  | 3, _ => rfl
  | 4, _ => rfl⟩

attribute [local go_sem high] run_eql_en run_neq_en

set_option maxRecDepth 100000 in
set_option maxHeartbeats 4000000 in
theorem wcount_calls {W : World} {B v c w t m : Nat} (h : WkAt W B v c w t m) (hc : c ≤ 1000) (hw : w ≤ 1000) (ht : t ≤ 1000) (a b : En) (ha : a.w = 4611686018427387906 ↔ a = En.none) (hb : b.w = 4611686018427387906 ↔ b = En.none) :
    Calls Tryz.prog 149 #[.pointer (some ⟨B, 0, none⟩), a.val, b.val] W fun e W' => (∃ v, e = .returned v) ∧ Fr (One B) W W' ∧ WkAt W' B v (c + qCame a b) (w + qWent a b) (t + qTurn a b) m := by
  have H := hid h
  have hlt := h.lt
  have hz := Blk.frozen h
  by_cases hab : a = b
  · subst hab
    have e1 : qCame a a = 0 := if_neg (fun h => h.1 rfl)
    have e2 : qWent a a = 0 := if_neg (fun h => h.1 rfl)
    have e3 : qTurn a a = 0 := if_neg (fun h => h.1 rfl)
    rw [e1, e2, e3]
    obtain ⟨a0, a1, a2⟩ := a
    have g1 : eq3 a0 a1 a2 a0 a1 a2 = true := by simp [eq3]
    simp only [En.val]
    clear h ha hb e1 e2 e3
    go_enter Tryz.func149, Tryz.ntmps149
    go_wp2
    go_end0
    exact ⟨⟨_, rfl⟩, ((Fr.refl _ W).alloc _).alloc _, (H.out.fr ((Fr.refl No W).alloc _) (fun h => h)).fr ((Fr.refl No _).alloc _) (fun h => h)⟩
  · have g0 := eq3_en a b
    rw [decide_eq_false hab] at g0
    by_cases hA : a = En.none
    · have e1 : qCame a b = 1 := if_pos ⟨hab, hA⟩
      have e2 : qWent a b = 0 := if_neg (fun h => h.2.1 hA)
      have e3 : qTurn a b = 0 := if_neg (fun h => h.2.1 hA)
      rw [e1, e2, e3]
      have hA2 := ha.2 hA
      obtain ⟨a0, a1, a2⟩ := a
      obtain ⟨b0, b1, b2⟩ := b
      simp only at hA2 g0
      subst hA2
      simp only [En.val]
      have c1 := H.out.c1
      clear h ha hb e1 e2 e3 hab hA
      go_enter Tryz.func149, Tryz.ntmps149
      go_wp2
      go_end0
      exact ⟨⟨_, rfl⟩, (((Fr.refl (One B) W).set1 1 _).alloc _).alloc _, ((H.out.came (c + 1)).fr ((Fr.refl No _).alloc _) (fun h => h)).fr ((Fr.refl No _).alloc _) (fun h => h)⟩
    · have hA2 : ¬ a.w = 4611686018427387906 := fun h => hA (ha.1 h)
      have e1 : qCame a b = 0 := if_neg (fun h => hA h.2)
      by_cases hB : b = En.none
      · have e2 : qWent a b = 1 := if_pos ⟨hab, hA, hB⟩
        have e3 : qTurn a b = 0 := if_neg (fun h => h.2.2 hB)
        rw [e1, e2, e3]
        have hB2 := hb.2 hB
        obtain ⟨a0, a1, a2⟩ := a
        obtain ⟨b0, b1, b2⟩ := b
        simp only at hA2 hB2 g0
        subst hB2
        simp only [En.val]
        have g1 : (a0 == 4611686018427387906) = false := by simpa using hA2
        have c2 := H.out.c2
        clear h ha hb e1 e2 e3 hab hA hB
        go_enter Tryz.func149, Tryz.ntmps149
        go_wp2
        go_end0
        exact ⟨⟨_, rfl⟩, (((Fr.refl (One B) W).set1 2 _).alloc _).alloc _, ((H.out.went (w + 1)).fr ((Fr.refl No _).alloc _) (fun h => h)).fr ((Fr.refl No _).alloc _) (fun h => h)⟩
      · have e2 : qWent a b = 0 := if_neg (fun h => hB h.2.2)
        have e3 : qTurn a b = 1 := if_pos ⟨hab, hA, hB⟩
        rw [e1, e2, e3]
        have hB2 : ¬ b.w = 4611686018427387906 := fun h => hB (hb.1 h)
        obtain ⟨a0, a1, a2⟩ := a
        obtain ⟨b0, b1, b2⟩ := b
        simp only at hA2 hB2 g0
        simp only [En.val]
        have g1 : (a0 == 4611686018427387906) = false := by simpa using hA2
        have g2 : (b0 == 4611686018427387906) = false := by simpa using hB2
        have c3 := H.out.c3
        clear h ha hb e1 e2 e3 hab hA hB
        go_enter Tryz.func149, Tryz.ntmps149
        go_wp2
        go_end0
        exact ⟨⟨_, rfl⟩, (((Fr.refl (One B) W).set1 3 _).alloc _).alloc _, ((H.out.turned (t + 1)).fr ((Fr.refl No _).alloc _) (fun h => h)).fr ((Fr.refl No _).alloc _) (fun h => h)⟩

end Go.Proofs.YtoepbhacpidcbaaGreatDoor
/- The entries between a vertex and higher ones, as an iterator; walked. -/
set_option linter.unusedVariables false
set_option linter.unusedSimpArgs false
namespace Go.Proofs.YtoepbhacpidcbaaGreatDoor
open Go.RowKit Go.Shelf Go.Deep

attribute [local go_sem] Oper.semAt_some

/-- A pair of ranks of one lower rank. -/
abbrev LoEl (n lo : Nat) := { p : Nat × Nat // p.1 < n ∧ p.2 < n ∧ p.1 ≠ p.2 ∧ min p.1 p.2 = lo }
def loA {n lo b : Nat} (h1 : lo < b) (h2 : b < n) : LoEl n lo := ⟨(lo, b), by show lo < n; omega, h2, by show lo ≠ b; omega, by show min lo b = lo; omega⟩
def loB {n lo b : Nat} (h1 : lo < b) (h2 : b < n) : LoEl n lo := ⟨(b, lo), h2, by show lo < n; omega, by show b ≠ lo; omega, by show min b lo = lo; omega⟩
def prL (n lo : Nat) : Nat → List (LoEl n lo)
  | 0 => []
  | b + 1 => if h : lo < b ∧ b < n then prL n lo b ++ [loA h.1 h.2, loB h.1 h.2] else prL n lo b
theorem prL_succ (n lo b : Nat) : prL n lo (b + 1) = if h : lo < b ∧ b < n then prL n lo b ++ [loA h.1 h.2, loB h.1 h.2] else prL n lo b := rfl
theorem prL_low (n lo : Nat) : ∀ k, k ≤ lo + 1 → prL n lo k = []
  | 0, _ => rfl
  | k + 1, h => by rw [prL_succ, dif_neg (fun hh => by omega), prL_low n lo k (by omega)]
theorem prL_pre (n lo b : Nat) : ∀ d, prL n lo b <+: prL n lo (b + d)
  | 0 => List.prefix_refl _
  | d + 1 => by
    have := prL_pre n lo b d
    show prL n lo b <+: prL n lo ((b + d) + 1)
    rw [prL_succ]
    split
    · exact this.trans (List.prefix_append _ _)
    · exact this
theorem prL_preN (n lo b : Nat) (hb : b ≤ n) : prL n lo b <+: prL n lo n := by
  have := prL_pre n lo b (n - b)
  rwa [show b + (n - b) = n by omega] at this
theorem prL_mem (n lo : Nat) : ∀ k (el : LoEl n lo), el ∈ prL n lo k ↔ max el.1.1 el.1.2 < k
  | 0, el => by simp [prL]
  | k + 1, el => by
    obtain ⟨⟨a, b⟩, ha, hb, hne, hm⟩ := el
    simp only at ha hb hne hm
    rw [prL_succ]
    split
    · rename_i h
      rw [List.mem_append, prL_mem n lo k]
      simp only [List.mem_cons, List.not_mem_nil, or_false, loA, loB, Subtype.mk.injEq, Prod.mk.injEq]
      omega
    · rename_i h
      rw [prL_mem n lo k]
      simp only
      omega
def loEnc (bf : Nat → Nat) {n lo : Nat} (el : LoEl n lo) : Array Value := #[.int .i64 (bf el.1.1 : Nat), .int .i64 (bf el.1.2 : Nat)]

set_option maxRecDepth 100000 in
set_option maxHeartbeats 4000000 in
theorem kpairs1_any {L : IxLoc} {n : Nat} (hn24 : n ≤ 24) {bf : Nat → Nat} (m : Nat) (hm : 1 ≤ m) (Bk Bv kb lo : Nat) (hlo : lo < n) (F : Nat → Prop) (f5 : ¬ F Bk) (f6 : ¬ F Bv) (f7 : ¬ F kb) (w : World) (h : Shape L n bf w)
    (hk : w.cell? ⟨Bk, 0, none⟩ = some (.pointer (some ⟨kb, 0, none⟩))) (hv : w.cell? ⟨Bv, 0, none⟩ = some (.int .i64 (bf lo : Nat))) (hx : w.cell? ⟨kb, 1, none⟩ = some (.pointer (some ⟨L.b, 0, none⟩))) :
    SeqStopsK Fence.wide m Tryz.prog 202 #[.pointer (some ⟨Bk, 0, none⟩), .pointer (some ⟨Bv, 0, none⟩)] (loEnc bf) (PK F L n bf) (fun ys => ys = prL n lo n) (fun pre => pre <+: prL n lo n) (prL n lo n).length w := fun l J Jx W hW hJ hJx hY h0 => by
  have hf0 := Fr.of_below hW
  have HS := hid (h.no hf0)
  have hk' := hf0.cell_some hk (fun h => h)
  have hv' := hf0.cell_some hv (fun h => h)
  have hx' := hf0.cell_some hx (fun h => h)
  have HBK := hid hk'
  have HBV := hid hv'
  have HBX := hid hx'
  have HJ := hid hJ
  have HY := hid hY
  have H0 := hid h0
  clear hW hJ hJx hY h0 h hk hv hx hf0
  refine callsIn_of_wp Tryz.func202 rfl trivial ?_ rfl
  simp only [Tryz.ntmps202, List.size_toArray, List.length_cons, List.length_nil, Nat.reduceAdd, Nat.reduceSub, Array.replicate_succ, Array.replicate_zero, List.push_toArray, List.append_toArray, List.nil_append, List.cons_append]
  obtain ⟨y, hy, hyn, hyb⟩ := HS.out
  have hrk : y.rank (bf lo : Nat) = (lo : Nat) := by
    have := hy.ok.by_ lo (by omega)
    rw [hyb] at this
    unfold Ix.rank
    rw [if_pos ⟨by omega, by omega⟩, Int.toNat_natCast, this.2]
  have hb0 : ∀ nn : Fam W, Calls Tryz.prog 102 #[.pointer (some ⟨L.b, 0, none⟩), .int .i64 (bf lo : Nat)] nn.v fun e w' => e = .returned (.int .i64 (lo : Nat)) ∧ Fr No nn.v w' := fun nn => (rank_calls (hy.no nn.h) (bf lo : Nat)).mono fun e w' ⟨h1, h2⟩ => ⟨by rw [h1, hrk], by rw [h2]; exact Fr.refl _ _⟩
  have kk1 : ∀ nn : Fam W, nn.v.cell? ⟨Bk, 0, none⟩ = some (.pointer (some ⟨kb, 0, none⟩)) := Fam.cell hk'
  have kk2 : ∀ nn : Fam W, nn.v.cell? ⟨Bv, 0, none⟩ = some (.int .i64 (bf lo : Nat)) := Fam.cell hv'
  have kk3 : ∀ nn : Fam W, nn.v.cell? ⟨kb, 1, none⟩ = some (.pointer (some ⟨L.b, 0, none⟩)) := Fam.cell hx'
  clear hy hyn hyb hrk y hk' hv' hx'
  gi_wp2_with fail
  refine wpIn_wide.2 (wp_region_fam (by kernel_rfl) (by kernel_rfl) ?_)
  repeat (go_big_quiet_step (exact Calls.fam (hb0 _)))
  refine wpQuiet_nil ?_
  rintro W1 ⟨⟨W1, hf1⟩, rfl⟩
  have HF1 := hid hf1
  have HJ1 := hid (HJ.out _ _ _ none H0.out (fr_grownBy hf1) (fun r h => by cases h))
  clear hf1 hb0 kk1 kk2 kk3
  gi_wp2
  gi_loopw [4] (fun i wr => ∃ b : Nat, b ≤ n ∧ lo < b ∧ i = .int .i64 b ∧ J (prL n lo b) wr ∧ Fr F W wr ∧ Shape L n bf wr) (fun i _ => 24 - (intOf i).toNat)
  case atStart => exact ⟨lo + 1, by omega, by omega, by go_num, by rw [prL_low _ _ _ (Nat.le_refl _)]; exact HJ1.out, HF1.out.no, HS.out.no HF1.out⟩
  case round =>
    obtain ⟨b, hb, hkb, rfl, hj, hf, hs⟩ := hrel
    have HJK := hid hj
    have HF := hid hf
    have HSK := hid hs
    have bk := hf.cell_some HBK.out f5
    have bv := hf.cell_some HBV.out f6
    have bx := hf.cell_some HBX.out f7
    obtain ⟨y, hy, hyn, hyb⟩ := hs
    have hvc := vertices_calls hy
    rw [hyn] at hvc
    have HVC := hid hvc
    clear hj hf hy hyn hyb hvc
    gi_wp2
    refine ⟨trivial, callsIn_wide.2 (HVC.out.mono ?_)⟩
    rintro e w2 ⟨rfl, hf2⟩
    have HF2 := hid (HF.out.trans hf2.no)
    have HS2 := hid (HSK.out.no hf2)
    have HJ2 := hid (HJ.out _ _ _ none HJK.out (fr_grownBy hf2) (fun r h => by cases h))
    have bk2 := hf2.cell_some bk (fun h => h)
    have bv2 := hf2.cell_some bv (fun h => h)
    have bx2 := hf2.cell_some bx (fun h => h)
    clear hf2 bk bv bx HF HJK HSK HVC
    by_cases hltb : b < n
    · have hltb2 : (b : Int) < n := by omega
      have hst := prL_succ n lo b
      rw [dif_pos ⟨hkb, hltb⟩] at hst
      have hpre := prL_preN n lo (b + 1) hltb
      rw [hst] at hpre
      have hle := hpre.length_le
      simp only [List.length_append, List.length_cons, List.length_nil] at hle
      have HY1 : Hid (∀ w5, Fr No w2 w5 → YieldAt Fence.wide (m - 1) Tryz.prog l #[.int .i64 (bf lo : Nat), .int .i64 (bf b : Nat)] w5 fun e W' => ∃ r : Bool, e = .returned (.bool r) ∧ ((r = true ∧ J (prL n lo b ++ [loA hkb hltb]) W' ∧ PK F L n bf w5 W') ∨ (r = false ∧ Jx (prL n lo b ++ [loA hkb hltb]) W'))) := hid fun w5 h5 => by
        have := HY.out (prL n lo b) (loA hkb hltb) w5 (HJ.out _ _ _ none HJ2.out (fr_grownBy h5) (fun r h => by cases h)) (by omega)
        refine YieldAt.mono this ?_
        rintro e W' (⟨rfl, h1, h2⟩ | ⟨rfl, h1⟩)
        · exact ⟨true, rfl, .inl ⟨rfl, h1, h2⟩⟩
        · exact ⟨false, rfl, .inr ⟨rfl, h1⟩⟩
      have HY2 : Hid (∀ w5, J (prL n lo b ++ [loA hkb hltb]) w5 → YieldAt Fence.wide (m - 1) Tryz.prog l #[.int .i64 (bf b : Nat), .int .i64 (bf lo : Nat)] w5 fun e W' => ∃ r : Bool, e = .returned (.bool r) ∧ ((r = true ∧ J (prL n lo (b + 1)) W' ∧ PK F L n bf w5 W') ∨ (r = false ∧ Jx (prL n lo (b + 1)) W'))) := hid fun w5 h5 => by
        have := HY.out _ (loB hkb hltb) w5 h5 (by simp only [List.length_append, List.length_cons, List.length_nil]; omega)
        rw [hst]
        refine YieldAt.mono this ?_
        rintro e W' (⟨rfl, h1, h2⟩ | ⟨rfl, h1⟩)
        · exact ⟨true, rfl, .inl ⟨rfl, by simpa using h1, h2⟩⟩
        · exact ⟨false, rfl, .inr ⟨rfl, by simpa using h1⟩⟩
      have HP1 : Hid (prL n lo b ++ [loA hkb hltb] <+: prL n lo n) := hid (List.IsPrefix.trans ((List.prefix_append_right_inj _).2 ⟨[_], rfl⟩) hpre)
      have HP2 : Hid (prL n lo (b + 1) <+: prL n lo n) := hid (prL_preN n lo (b + 1) hltb)
      obtain ⟨y, hy, hyn, hyb⟩ := HS2.out
      have hbc := by_calls hy (b : Nat)
      rw [hy.ok.byr_nat (by omega), hyb] at hbc
      have HBC := hid hbc
      clear hst hpre hle hy hyn hyb hbc
      gi_wp2
      refine ⟨trivial, callsIn_wide.2 (HBC.out.mono ?_)⟩
      rintro e w3 ⟨rfl, hw⟩
      subst hw
      obtain ⟨fn, tmps, assign, body, hy, hR⟩ := HY1.out w2 (Fr.refl _ _)
      gi_wp2_with fail
      refine hR.mono ?_
      rintro e W6 ⟨r, rfl, hres⟩
      have HRES := hid hres
      clear hres hR hy HY1
      rcases HRES.out with ⟨rfl, hj6, hp6⟩ | ⟨rfl, hj6⟩
      · have HJ6 := hid hj6
        have HP6 := hid hp6
        have bv6 := hp6.1.cell_some bv2 f6
        obtain ⟨fn, tmps, assign, body, hy, hR⟩ := HY2.out W6 hj6
        clear hj6 hp6 HRES
        gi_wp2_with fail
        refine hR.mono ?_
        rintro e W7 ⟨r, rfl, hres⟩
        have HRES := hid hres
        clear hres hR hy HY2
        rcases HRES.out with ⟨rfl, hj7, hp7⟩ | ⟨rfl, hj7⟩
        · have HJ7 := hid hj7
          have HP7 := hid hp7
          clear hj7 hp7 HRES
          gi_wp2
          go_roundw
          case rel => exact ⟨b + 1, by omega, by omega, by go_num, HJ7.out, HF2.out.trans (HP6.out.1.trans HP7.out.1), HP7.out.2 (HP6.out.2 HS2.out)⟩
          case measure => simp [intOf]; omega
        · have HJ7 := hid hj7
          clear hj7 HRES
          gi_wp2
          refine bodyPost_ret (results_none rfl _ _ _) rfl ?_
          exact ⟨⟨_, rfl⟩, .inr ⟨_, HP2.out, HJ7.out⟩⟩
      · have HJ6 := hid hj6
        clear hj6 HRES
        gi_wp2
        refine ⟨(fun f hf => by cases hf), ?_⟩
        gi_wp2
        refine bodyPost_ret (results_none rfl _ _ _) rfl ?_
        exact ⟨⟨_, rfl⟩, .inr ⟨_, HP1.out, HJ6.out⟩⟩
    · obtain rfl : b = n := by omega
      gi_wp2
      go_end0
      exact ⟨⟨_, rfl⟩, .inl ⟨_, rfl, HJ2.out⟩⟩

set_option maxRecDepth 100000 in
set_option maxHeartbeats 1000000 in
theorem kpairs_calls (b v : Nat) (w : World) :
    Calls Tryz.prog 148 #[.pointer (some ⟨b, 0, none⟩), .int .i64 (v : Nat)] w fun e w' => e = .returned (.func (.func 202) #[] #[.pointer (some ⟨w.heap.size, 0, none⟩), .pointer (some ⟨w.heap.size + 1, 0, none⟩)]) ∧ Fr No w w' ∧ w.heap.size + 2 ≤ w'.heap.size ∧ w'.cell? ⟨w.heap.size, 0, none⟩ = some (.pointer (some ⟨b, 0, none⟩)) ∧ w'.cell? ⟨w.heap.size + 1, 0, none⟩ = some (.int .i64 (v : Nat)) := by
  go_enter Tryz.func148, Tryz.ntmps148
  go_wp2
  go_ret
  exact ⟨rfl, ((Fr.refl _ _).alloc _).alloc _, by simp, by simp [go_sem], by simp [go_sem]⟩

end Go.Proofs.YtoepbhacpidcbaaGreatDoor
/- A vertex's entries set anew in the order of ranks, or of vertices, and counted; plain. -/
set_option linter.unusedVariables false
set_option linter.unusedSimpArgs false
namespace Go.Proofs.YtoepbhacpidcbaaGreatDoor
open Go.RowKit Go.Shelf Go.Deep

/-- The pairs that have come. -/
def doneL (bf : Nat → Nat) {n lo : Nat} (pre : List (LoEl n lo)) (a b : Nat) : Bool := pre.any fun el => decide (a = bf el.1.1) && decide (b = bf el.1.2)
theorem doneL_snoc (bf : Nat → Nat) {n lo : Nat} (pre : List (LoEl n lo)) (el : LoEl n lo) : doneL bf (pre ++ [el]) = fun a b => doneL bf pre a b || (decide (a = bf el.1.1) && decide (b = bf el.1.2)) := by
  funext a b
  unfold doneL
  rw [List.any_append]
  simp
theorem doneL_nil (bf : Nat → Nat) {n lo : Nat} : doneL bf ([] : List (LoEl n lo)) = fun _ _ => false := rfl
theorem Ix.Ok.lo_low {x : Ix} (h : x.Ok) {lo : Nat} (hlo : lo < x.n) (el : LoEl x.n lo) : x.low (x.by_ el.1.1 : Nat) (x.by_ el.1.2 : Nat) = (x.by_ lo : Nat) ∧ x.by_ el.1.1 < x.n ∧ x.by_ el.1.2 < x.n ∧ x.by_ el.1.1 ≠ x.by_ el.1.2 := by
  obtain ⟨⟨a, b⟩, ha, hb, hne, hm⟩ := el
  simp only at ha hb hne hm ⊢
  have h1 := h.by_ a ha
  have h2 := h.by_ b hb
  have hnb : x.by_ a ≠ x.by_ b := fun e => hne (h.by_inj ha hb e)
  refine ⟨?_, h1.1, h2.1, hnb⟩
  rw [Ix.low_eq h1.1 h2.1 hnb, h1.2, h2.2]
  split
  · rw [show a = lo by omega]
  · rw [show b = lo by omega]
theorem Ix.Ok.part_all {x : Ix} (h : x.Ok) (G : Gr) {lo : Nat} (hlo : lo < x.n) : x.part G (x.by_ lo) (doneL x.by_ (prL x.n lo x.n)) = x.redo G (x.by_ lo) := by
  refine Ix.part_congr fun a b hl => ?_
  obtain ⟨ha, hb, hne, hrk, _⟩ := Ix.low_is hl
  rw [(h.by_ lo hlo).2] at hrk
  have h1 := h.rk a ha
  have h2 := h.rk b hb
  have hmem : (⟨(x.rk a, x.rk b), h1.1, h2.1, fun e => hne (h.inj ha hb e), hrk.symm⟩ : LoEl x.n lo) ∈ prL x.n lo x.n := (prL_mem _ _ _ _).2 (by show max (x.rk a) (x.rk b) < x.n; omega)
  unfold doneL
  rw [List.any_eq_true]
  exact ⟨_, hmem, by simp only [h1.2, h2.2, decide_true, Bool.and_self]⟩
/-- What an entry between two ranks becomes. -/
def Ix.qAt (x : Ix) (G : Gr) (q : En → En → Nat) {n lo : Nat} (el : LoEl n lo) : Nat := q (x.ent (x.by_ el.1.1) (x.by_ el.1.2)) (x.best (x.by_ el.1.1 : Nat) (x.by_ el.1.2 : Nat) (G.best (x.by_ el.1.1 : Nat) (x.by_ el.1.2 : Nat)))
def Ix.cntR (x : Ix) (G : Gr) (q : En → En → Nat) {n lo : Nat} : List (LoEl n lo) → Nat
  | [] => 0
  | el :: r => Ix.cntR x G q r + if el ∈ r then 0 else x.qAt G q el
/-- What the entries that have come became; what comes again counts no more. -/
def Ix.cntL (x : Ix) (G : Gr) (q : En → En → Nat) {n lo : Nat} (pre : List (LoEl n lo)) : Nat := x.cntR G q pre.reverse
theorem Ix.cntL_snoc (x : Ix) (G : Gr) (q : En → En → Nat) {n lo : Nat} (pre : List (LoEl n lo)) (el : LoEl n lo) : x.cntL G q (pre ++ [el]) = x.cntL G q pre + if el ∈ pre then 0 else x.qAt G q el := by
  unfold Ix.cntL
  rw [List.reverse_append]
  show x.cntR G q pre.reverse + (if el ∈ pre.reverse then 0 else x.qAt G q el) = _
  simp only [List.mem_reverse]
theorem Ix.Ok.doneL_iff {x : Ix} (h : x.Ok) {lo : Nat} (pre : List (LoEl x.n lo)) (el : LoEl x.n lo) : doneL x.by_ pre (x.by_ el.1.1) (x.by_ el.1.2) = true ↔ el ∈ pre := by
  unfold doneL
  rw [List.any_eq_true]
  constructor
  · rintro ⟨e, he, hh⟩
    rw [Bool.and_eq_true, decide_eq_true_eq, decide_eq_true_eq] at hh
    have h1 := h.by_inj el.2.1 e.2.1 hh.1
    have h2 := h.by_inj el.2.2.1 e.2.2.1 hh.2
    have : el = e := Subtype.ext (Prod.ext h1 h2)
    rw [this]; exact he
  · exact fun he => ⟨el, he, by simp⟩
theorem Ix.Ok.cntL_to {x : Ix} (h : x.Ok) (G : Gr) (q : En → En → Nat) {lo : Nat} (hlo : lo < x.n) : ∀ k, k ≤ x.n → x.cntL G q (prL x.n lo k) = sumN (fun r => x.tal G (x.by_ lo) q (x.by_ r)) k := by
  intro k
  induction k with
  | zero => intro _; rfl
  | succ k ih =>
    intro hk
    rw [prL_succ]
    have hrl := (h.by_ lo hlo).2
    have hrk := (h.by_ k hk).2
    have hs : sumN (fun r => x.tal G (x.by_ lo) q (x.by_ r)) (k + 1) = sumN (fun r => x.tal G (x.by_ lo) q (x.by_ r)) k + x.tal G (x.by_ lo) q (x.by_ k) := rfl
    rw [hs, ← ih (by omega)]
    unfold Ix.tal
    rw [hrl, hrk]
    split
    · rename_i hlk
      have n1 : (loA hlk.1 hlk.2 : LoEl x.n lo) ∉ prL x.n lo k := fun hm => by
        have := (prL_mem _ _ _ _).1 hm
        have : max lo k < k := this
        omega
      have n2 : (loB hlk.1 hlk.2 : LoEl x.n lo) ∉ prL x.n lo k ++ [loA hlk.1 hlk.2] := fun hm => by
        rcases List.mem_append.1 hm with hm | hm
        · have : max k lo < k := (prL_mem _ _ _ _).1 hm
          omega
        · have := congrArg (fun e : LoEl x.n lo => e.1.1) (List.mem_singleton.1 hm)
          have : k = lo := this
          omega
      rw [if_pos hlk.1, show prL x.n lo k ++ [loA hlk.1 hlk.2, loB hlk.1 hlk.2] = (prL x.n lo k ++ [loA hlk.1 hlk.2]) ++ [loB hlk.1 hlk.2] by simp, Ix.cntL_snoc, Ix.cntL_snoc, if_neg n1, if_neg n2, Nat.add_assoc]
      rfl
    · rename_i hlk
      rw [if_neg (fun hh => hlk ⟨hh, hk⟩)]; rfl
theorem Ix.Ok.cntL_all {x : Ix} (h : x.Ok) (G : Gr) (q : En → En → Nat) {lo : Nat} (hlo : lo < x.n) : x.cntL G q (prL x.n lo x.n) = sumN (x.tal G (x.by_ lo) q) x.n := by
  rw [h.cntL_to G q hlo x.n (Nat.le_refl _)]
  exact (sumN_perm h _).symm
theorem prL_len (n lo : Nat) : ∀ k, (prL n lo k).length ≤ 2 * k
  | 0 => Nat.le_refl _
  | k + 1 => by
    have := prL_len n lo k
    rw [prL_succ]
    split
    · rw [List.length_append]; simp; omega
    · omega
theorem qCame_le (a b : En) : qCame a b ≤ 1 := by unfold qCame; split <;> omega
theorem qWent_le (a b : En) : qWent a b ≤ 1 := by unfold qWent; split <;> omega
theorem qTurn_le (a b : En) : qTurn a b ≤ 1 := by unfold qTurn; split <;> omega
theorem Ix.cntR_le (x : Ix) (G : Gr) (q : En → En → Nat) (hq : ∀ a b, q a b ≤ 1) {n lo : Nat} : ∀ r : List (LoEl n lo), x.cntR G q r ≤ r.length
  | [] => Nat.le_refl _
  | el :: r => by
    have ih := Ix.cntR_le x G q hq r
    show x.cntR G q r + (if el ∈ r then 0 else x.qAt G q el) ≤ r.length + 1
    have h1 : x.qAt G q el ≤ 1 := hq _ _
    split <;> omega
theorem Ix.cntL_le (x : Ix) (G : Gr) (q : En → En → Nat) (hq : ∀ a b, q a b ≤ 1) {n lo : Nat} (pre : List (LoEl n lo)) : x.cntL G q pre ≤ pre.length := by
  have := Ix.cntR_le x G q hq pre.reverse
  rw [List.length_reverse] at this
  exact this
/-- No weight, no entry. -/
theorem May.none_iff {x : Ix} {u v : Int} {e : En} (h : x.May u v e) : e.w = 4611686018427387906 ↔ e = En.none := by
  constructor
  · intro hw
    rcases h with ⟨h1, h2, h3⟩ | ⟨h1, h2, _⟩
    · obtain ⟨a, b, c⟩ := e
      simp only at h1 h2 h3
      rw [h1, h2, h3]; rfl
    · omega
  · intro e; rw [e]; rfl
theorem Ix.Ok.best_none {x : Ix} (h : x.Ok) {G : Gr} (hw : G.Wt) {a b : Nat} (ht : x.two (a : Nat) (b : Nat) = true) : (x.best (a : Nat) (b : Nat) (G.best (a : Nat) (b : Nat))).w = 4611686018427387906 ↔ x.best (a : Nat) (b : Nat) (G.best (a : Nat) (b : Nat)) = En.none := May.none_iff (h.best_may ht (G.best_wt hw _ _))
theorem Ix.Fit.ent_none {x : Ix} (h : x.Fit) {a b : Nat} (ht : x.two (a : Nat) (b : Nat) = true) : (x.ent a b).w = 4611686018427387906 ↔ x.ent a b = En.none := May.none_iff (h a b ht)
end Go.Proofs.YtoepbhacpidcbaaGreatDoor
