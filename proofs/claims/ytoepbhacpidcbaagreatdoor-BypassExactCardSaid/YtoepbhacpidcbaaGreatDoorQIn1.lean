/- What is far is made nearer till nothing changes: plain. -/
import Derived.Deep.Cut
import Derived.Deep.RegionHeld3
import Derived.Test.YtoepbhacpidcbaaGreatDoorQBase
import Derived.Test.YtoepbhacpidcbaaGreatDoorQIdx
import Derived.Test.YtoepbhacpidcbaaGreatDoorQIdxB
import Derived.Test.YtoepbhacpidcbaaGreatDoorQPerm
import Derived.Test.YtoepbhacpidcbaaGreatDoorQRef
import Derived.Test.YtoepbhacpidcbaaGreatDoorQBig
import Derived.Test.YtoepbhacpidcbaaGreatDoorQUnref
import Derived.Test.YtoepbhacpidcbaaGreatDoorQUnE
import Derived.Test.YtoepbhacpidcbaaGreatDoorQItr
import Derived.Test.YtoepbhacpidcbaaGreatDoorQDst
import Derived.Test.YtoepbhacpidcbaaGreatDoorQLnk
import Derived.Test.YtoepbhacpidcbaaGreatDoorQRow2
import Derived.Test.YtoepbhacpidcbaaGreatDoorQGr
import Derived.Test.YtoepbhacpidcbaaGreatDoorQGOps
import Derived.Test.YtoepbhacpidcbaaGreatDoorQBld
import Derived.Test.YtoepbhacpidcbaaGreatDoorQBW
import Derived.Test.YtoepbhacpidcbaaGreatDoorQHpK
import Derived.Test.YtoepbhacpidcbaaGreatDoorQG8
import Derived.Test.YtoepbhacpidcbaaGreatDoorQSqO
import Derived.Test.YtoepbhacpidcbaaGreatDoorQGoes
import Derived.Test.YtoepbhacpidcbaaGreatDoorQUp
import Derived.Test.YtoepbhacpidcbaaGreatDoorQSetP
import Derived.Test.YtoepbhacpidcbaaGreatDoorQWay

set_option linter.unusedVariables false
namespace Go.Proofs.YtoepbhacpidcbaaGreatDoor

/-- The least sums from s by steps as long as M says. -/
structure Lst (n : Nat) (M : Mat) (s : Nat) (U : Nat → Int) : Prop where
  b : ∀ v, v < n → Bd (U v)
  s0 : U s = 0
  tri : ∀ u w, u < n → w < n → u ≠ w → U w ≤ tw (U u) (M u w)
  low : ∀ K : Nat → Int, (∀ v, v < n → Bd (K v)) → K s = 0 → (∀ u w, u < n → w < n → u ≠ w → K w ≤ tw (K u) (M u w)) → ∀ v, v < n → K v ≤ U v
def cw (p : Nat → Bool) : Nat → Nat
  | 0 => 0
  | k + 1 => cw p k + if p k = true then 1 else 0
theorem cw_le (p : Nat → Bool) : ∀ k, cw p k ≤ k
  | 0 => Nat.le_refl _
  | k + 1 => by have := cw_le p k; unfold cw; split <;> omega
theorem cw_zero {p : Nat → Bool} : ∀ {k : Nat}, cw p k = 0 → ∀ v, v < k → p v = false
  | 0, _, v, h => by omega
  | k + 1, h, v, hv => by
    unfold cw at h
    cases e : p k with
    | true => rw [e, if_pos rfl] at h; omega
    | false =>
      rw [e, if_neg (by simp)] at h
      rcases Nat.lt_or_ge v k with h1 | h1
      · exact cw_zero (by omega) v h1
      · rw [show v = k by omega]; exact e
theorem cw_mono {p q : Nat → Bool} : ∀ {k : Nat}, (∀ v, v < k → q v = true → p v = true) → cw q k ≤ cw p k
  | 0, _ => Nat.le_refl _
  | k + 1, h => by
    have := cw_mono (k := k) (fun v hv => h v (by omega))
    unfold cw
    cases e : q k with
    | true => rw [if_pos rfl, if_pos (h k (by omega) e)]; omega
    | false => rw [if_neg (by simp)]; split <;> omega
theorem cw_less {p q : Nat → Bool} : ∀ {k : Nat}, (∀ v, v < k → q v = true → p v = true) → (∃ v, v < k ∧ p v = true ∧ q v = false) → cw q k + 1 ≤ cw p k
  | 0, _, ⟨v, hv, _⟩ => by omega
  | k + 1, h, ⟨v, hv, h1, h2⟩ => by
    have hm := cw_mono (k := k) (fun v hv => h v (by omega))
    unfold cw
    rcases Nat.lt_or_ge v k with h3 | h3
    · have := cw_less (k := k) (fun v hv => h v (by omega)) ⟨v, h3, h1, h2⟩
      cases e : q k with
      | true => rw [if_pos rfl, if_pos (h k (by omega) e)]; omega
      | false => rw [if_neg (by simp)]; split <;> omega
    · obtain rfl : v = k := by omega
      rw [h1, h2, if_pos rfl, if_neg (by simp)]; omega

theorem least_ex (p : Nat → Prop) (U : Nat → Int) : ∀ n, (∃ v, v < n ∧ p v) → ∃ v, v < n ∧ p v ∧ ∀ w, w < n → p w → U v ≤ U w
  | 0, ⟨v, hv, _⟩ => by omega
  | n + 1, ⟨v, hv, hp⟩ => by
    by_cases h : ∃ v, v < n ∧ p v
    · obtain ⟨m, hm, hpm, hl⟩ := least_ex p U n h
      by_cases hn : p n ∧ U n < U m
      · exact ⟨n, by omega, hn.1, fun w hw hpw => by
          rcases Nat.lt_or_ge w n with h1 | h1
          · have := hl w h1 hpw; omega
          · rw [show w = n by omega]; exact Int.le_refl _⟩
      · exact ⟨m, by omega, hpm, fun w hw hpw => by
          rcases Nat.lt_or_ge w n with h1 | h1
          · exact hl w h1 hpw
          · obtain rfl : w = n := by omega
            by_cases h2 : U w < U m
            · exact absurd ⟨hpw, h2⟩ hn
            · omega⟩
    · have hvn : v = n := by
        rcases Nat.lt_or_ge v n with h1 | h1
        · exact absurd ⟨v, h1, hp⟩ h
        · omega
      subst hvn
      exact ⟨v, by omega, hp, fun w hw hpw => by
        rcases Nat.lt_or_ge w v with h1 | h1
        · exact absurd ⟨w, h1, hpw⟩ h
        · rw [show w = v by omega]; exact Int.le_refl _⟩

/-- While one is too far there is one whose last step begins at one that isn't. -/
theorem Lst.next {n : Nat} {M : Mat} {s : Nat} {U d : Nat → Int} (h : Lst n M s U) (hM : ∀ i j, Bd (M i j)) (hd : ∀ v, v < n → Bd (d v) ∧ U v ≤ d v) (hs : d s = 0) (hw : ∃ v, v < n ∧ d v ≠ U v) :
    ∃ v, v < n ∧ d v ≠ U v ∧ ∃ u, u < n ∧ u ≠ v ∧ d u = U u ∧ tw (U u) (M u v) ≤ U v := by
  obtain ⟨m, hm, hpm, hl⟩ := least_ex (fun v => d v ≠ U v) U n hw
  refine Classical.byContradiction fun hno => ?_
  have hml : U m + 1 ≤ 4611686018427387906 := by
    have := (hd m hm).2
    have := (hd m hm).1.2
    omega
  have hm0 := (h.b m hm).1
  have hk := h.low (fun v => if d v ≠ U v ∧ U v = U m then U m + 1 else U v) (fun v hv => by
    show Bd (if d v ≠ U v ∧ U v = U m then U m + 1 else U v)
    split
    · exact ⟨by omega, hml⟩
    · exact h.b v hv) (by
    show (if d s ≠ U s ∧ U s = U m then U m + 1 else U s) = 0
    rw [if_neg (fun e => e.1 (by rw [hs, h.s0]))]
    exact h.s0) (fun u w hu hw' hne => by
    show (if d w ≠ U w ∧ U w = U m then U m + 1 else U w) ≤ tw (if d u ≠ U u ∧ U u = U m then U m + 1 else U u) (M u w)
    have hKu : U u ≤ (if d u ≠ U u ∧ U u = U m then U m + 1 else U u) := by split <;> omega
    have hKb : Bd (if d u ≠ U u ∧ U u = U m then U m + 1 else U u) := by
      split
      · exact ⟨by omega, hml⟩
      · exact h.b u hu
    by_cases hA : d w ≠ U w ∧ U w = U m
    · rw [if_pos hA]
      by_cases hB : d u = U u
      · rw [if_neg (fun e => e.1 hB)]
        by_cases ht : tw (U u) (M u w) ≤ U w
        · exact absurd ⟨w, hw', hA.1, u, hu, hne, hB, ht⟩ hno
        · have := hA.2; omega
      · have hlu := hl u hu hB
        have : U m + 1 ≤ (if d u ≠ U u ∧ U u = U m then U m + 1 else U u) := by
          split
          · omega
          · rename_i e
            have : U u ≠ U m := fun e2 => e ⟨hB, e2⟩
            omega
        exact Int.le_trans this (tw_le hKb (hM u w))
    · rw [if_neg hA]
      exact Int.le_trans (h.tri u w hu hw' hne) (tw_mono (h.b u hu).1 (hM u w).1 hKu (Int.le_refl _) hKb.2 (hM u w).2)) m hm
  change (if d m ≠ U m ∧ U m = U m then U m + 1 else U m) ≤ U m at hk
  rw [if_pos ⟨hpm, rfl⟩] at hk
  omega

/-- Behind c rounds: at most n - c are too far. -/
structure BfI (n s : Nat) (U : Nat → Int) (c : Nat) (d : Nat → Int) : Prop where
  b : ∀ v, v < n → Bd (d v) ∧ U v ≤ d v
  s0 : d s = 0
  cnt : cw (fun v => decide (d v ≠ U v)) n + c ≤ n
/-- Within a round: the steps with P were looked at. -/
structure BfR (n s : Nat) (M : Mat) (U d0 : Nat → Int) (P : Nat → Nat → Prop) (d : Nat → Int) : Prop where
  b : ∀ v, v < n → Bd (d v) ∧ U v ≤ d v ∧ d v ≤ d0 v
  s0 : d s = 0
  done : ∀ a b, a < n → b < n → P a b → a ≠ b → d b ≤ tw (d0 a) (M a b)
section
variable {n s : Nat} {M : Mat} {U d0 d : Nat → Int} {P P' : Nat → Nat → Prop}
theorem BfI.first (h : Lst n M s U) : BfI n s U 0 (fun v => if v = s then 0 else 4611686018427387906) :=
  ⟨fun v hv => by
    have := h.b v hv
    show Bd (if v = s then 0 else 4611686018427387906) ∧ U v ≤ if v = s then 0 else 4611686018427387906
    by_cases e : v = s
    · rw [if_pos e, e, h.s0]; exact ⟨⟨by omega, by omega⟩, by omega⟩
    · rw [if_neg e]; exact ⟨⟨by omega, by omega⟩, this.2⟩, if_pos rfl, cw_le _ _⟩
theorem BfI.round {c : Nat} (h : BfI n s U c d0) (hP : ∀ a b, ¬ P a b) : BfR n s M U d0 P d0 := ⟨fun v hv => ⟨(h.b v hv).1, (h.b v hv).2, Int.le_refl _⟩, h.s0, fun a b _ _ h2 => absurd h2 (hP a b)⟩
theorem BfR.same {u w : Nat} (h : BfR n s M U d0 P d) (hM : ∀ i j, Bd (M i j)) (hd0 : ∀ v, v < n → Bd (d0 v)) (hP : ∀ a b, P' a b → P a b ∨ (a = u ∧ b = w)) (hno : ¬ (u ≠ w ∧ tw (d u) (M u w) < d w)) : BfR n s M U d0 P' d :=
  ⟨h.b, h.s0, fun a b ha hb h2 hne => by
    rcases hP a b h2 with e | ⟨rfl, rfl⟩
    · exact h.done a b ha hb e hne
    · have h3 : d b ≤ tw (d a) (M a b) := by
        by_cases h4 : tw (d a) (M a b) < d b
        · exact absurd ⟨hne, h4⟩ hno
        · omega
      exact Int.le_trans h3 (tw_mono (h.b a ha).1.1 (hM a b).1 (h.b a ha).2.2 (Int.le_refl _) (hd0 a ha).2 (hM a b).2)⟩
theorem BfR.step {u w : Nat} (h : BfR n s M U d0 P d) (hL : Lst n M s U) (hM : ∀ i j, Bd (M i j)) (hd0 : ∀ v, v < n → Bd (d0 v)) (hP : ∀ a b, P' a b → P a b ∨ (a = u ∧ b = w)) (hu : u < n) (hw : w < n) (hne : u ≠ w) (hlt : tw (d u) (M u w) < d w) :
    BfR n s M U d0 P' (updI d w (tw (d u) (M u w))) := by
  have hb := tw_b (h.b u hu).1 (hM u w)
  have hup : U w ≤ tw (d u) (M u w) := Int.le_trans (hL.tri u w hu hw hne) (tw_mono (hL.b u hu).1 (hM u w).1 (h.b u hu).2.1 (Int.le_refl _) (h.b u hu).1.2 (hM u w).2)
  have hle : ∀ v, updI d w (tw (d u) (M u w)) v ≤ d v := fun v => by
    show (if v = w then tw (d u) (M u w) else d v) ≤ d v
    split
    · rename_i e; rw [e]; omega
    · exact Int.le_refl _
  refine ⟨fun v hv => ?_, ?_, fun a b ha hb' h2 hne' => ?_⟩
  · have h0 := h.b v hv
    have h1 := hle v
    refine ⟨?_, ?_, by omega⟩
    · show Bd (if v = w then tw (d u) (M u w) else d v)
      split
      · exact hb
      · exact h0.1
    · show U v ≤ (if v = w then tw (d u) (M u w) else d v)
      split
      · rename_i e; rw [e]; exact hup
      · exact h0.2.1
  · show (if s = w then tw (d u) (M u w) else d s) = 0
    split
    · rename_i e
      have h1 := h.s0
      rw [e] at h1
      have := hb.1
      omega
    · exact h.s0
  · rcases hP a b h2 with e | ⟨rfl, rfl⟩
    · exact Int.le_trans (hle b) (h.done a b ha hb' e hne')
    · show (if b = b then tw (d a) (M a b) else d b) ≤ _
      rw [if_pos rfl]
      exact tw_mono (h.b a ha).1.1 (hM a b).1 (h.b a ha).2.2 (Int.le_refl _) (hd0 a ha).2 (hM a b).2
theorem BfR.congr (h : BfR n s M U d0 P d) (hP : ∀ a b, a < n → b < n → P' a b → P a b) : BfR n s M U d0 P' d := ⟨h.b, h.s0, fun a b ha hb h2 hne => h.done a b ha hb (hP a b ha hb h2) hne⟩
theorem BfR.last {c : Nat} (h : BfR n s M U d0 P d) (hP : ∀ a b, a < n → b < n → P a b) (h0 : BfI n s U c d0) (hL : Lst n M s U) (hM : ∀ i j, Bd (M i j)) (hcn : c < n) : BfI n s U (c + 1) d := by
  refine ⟨fun v hv => ⟨(h.b v hv).1, (h.b v hv).2.1⟩, h.s0, ?_⟩
  have hsub : ∀ v, v < n → (fun v => decide (d v ≠ U v)) v = true → (fun v => decide (d0 v ≠ U v)) v = true := fun v hv e => by
    simp only [decide_eq_true_eq] at e ⊢
    have := h.b v hv
    omega
  by_cases hw : ∃ v, v < n ∧ d0 v ≠ U v
  · obtain ⟨v, hv, hvw, u, hu, hne, hru, ht⟩ := hL.next hM h0.b h0.s0 hw
    have hdone := h.done u v hu hv (hP u v hu hv) hne
    rw [hru] at hdone
    have hb := h.b v hv
    have := cw_less hsub ⟨v, hv, by simp only [decide_eq_true_eq]; exact hvw, by simp only [decide_eq_false_iff_not, Decidable.not_not]; omega⟩
    have := h0.cnt
    omega
  · have hz : cw (fun v => decide (d v ≠ U v)) n = 0 := by
      have h1 : ∀ k, k ≤ n → cw (fun v => decide (d v ≠ U v)) k = 0 := fun k hk => by
        induction k with
        | zero => rfl
        | succ k ih =>
          unfold cw
          rw [ih (by omega), if_neg]
          simp only [decide_eq_true_eq, Decidable.not_not]
          have h2 : d0 k = U k := Classical.byContradiction fun e => hw ⟨k, by omega, e⟩
          have := h.b k (by omega)
          omega
      exact h1 n (Nat.le_refl _)
    omega
theorem BfI.last (h : BfI n s U n d) {v : Nat} (hv : v < n) : d v = U v := by
  have := cw_zero (p := fun v => decide (d v ≠ U v)) (k := n) (by have := h.cnt; omega) v hv
  simpa using this
end

/-- The floor, as it counts. -/
def flr (n : Nat) (floor : Int) : Nat := if floor < 0 then 0 else if (n : Int) < floor then n else floor.toNat
/-- How long the step of ways out is, and of ways in (as a step the other way). -/
def oM (G : Gr) (x : Ix) (fl : Nat) : Mat := fun u w => if x.rk u < fl then (if x.rk u < x.rk w then (x.at_ (u : Nat) (w : Nat)).w else 4611686018427387906) else if x.rk w < fl then (x.at_ (u : Nat) (w : Nat)).w else G.bst u w
def iM (x : Ix) (fl : Nat) : Mat := fun w u => if x.rk w < fl ∧ x.rk w < x.rk u then (x.at_ (u : Nat) (w : Nat)).w else 4611686018427387906
theorem oM_b {G : Gr} {x : Ix} (hok : x.Ok) (hw : G.Wt) (fl i j : Nat) : Bd (oM G x fl i j) := by
  have h1 := hok.at_b (i : Nat) (j : Nat)
  have h2 := Gr.bst_b hw i j
  unfold oM
  unfold Bd at *
  split
  · split <;> omega
  · split <;> omega
theorem iM_b {x : Ix} (hok : x.Ok) (fl i j : Nat) : Bd (iM x fl i j) := by
  have h1 := hok.at_b (j : Nat) (i : Nat)
  unfold iM
  unfold Bd at *
  split <;> omega

end Go.Proofs.YtoepbhacpidcbaaGreatDoor
/- bypass: roads, their ground, the steps' ends; walked. -/
set_option linter.unusedVariables false
set_option linter.unusedSimpArgs false
namespace Go.Proofs.YtoepbhacpidcbaaGreatDoor
open Go.RowKit Go.Deep

/-- Roads: a graph or none, an index, a floor. -/
structure RdM (w : World) (rb : Nat) (gp : Option Addr) (L : IxLoc) (fl : Nat) : Prop where
  g : w.cell? ⟨rb, 0, none⟩ = some (.pointer gp)
  x : w.cell? ⟨rb, 1, none⟩ = some (.pointer (some ⟨L.b, 0, none⟩))
  f : w.cell? ⟨rb, 2, none⟩ = some (.int .i64 (fl : Nat))
theorem RdM.fr {w w' : World} {rb : Nat} {gp : Option Addr} {L : IxLoc} {fl : Nat} (h : RdM w rb gp L fl) {F : Nat → Prop} (hf : Fr F w w') (hF : ¬ F rb) : RdM w' rb gp L fl :=
  ⟨hf.cell_some h.g hF, hf.cell_some h.x hF, hf.cell_some h.f hF⟩
theorem RdM.no {w w' : World} {rb : Nat} {gp : Option Addr} {L : IxLoc} {fl : Nat} (h : RdM w rb gp L fl) (hf : Fr No w w') : RdM w' rb gp L fl := h.fr hf (fun h => h)

set_option maxRecDepth 100000 in
set_option maxHeartbeats 1000000 in
theorem entry_ends (a b : Int) (w : World) :
    Calls Tryz.prog 249 #[.agg #[.int .i64 a, .int .i64 b]] w fun e w' => e = .returned (.tuple #[.int .i64 a, .int .i64 b]) ∧ Fr No w w' := by
  go_enter Tryz.func249, Tryz.ntmps249
  go_wp2_with fail
  have hf := (Fr.refl No w).alloc (.cells #[.int .i64 a, .int .i64 b] 224)
  have c0 := cell_of (heap_new w (.cells #[.int .i64 a, .int .i64 b] 224)) 0
  have c1 := cell_of (heap_new w (.cells #[.int .i64 a, .int .i64 b] 224)) 1
  generalize w.alloc (.cells #[.int .i64 a, .int .i64 b] 224) = W at hf c0 c1 ⊢
  have k0 : ∀ nn : Fam W, nn.v.cell? ⟨w.heap.size, 0, none⟩ = some (.int .i64 a) := Fam.cell c0
  have k1 : ∀ nn : Fam W, nn.v.cell? ⟨w.heap.size, 1, none⟩ = some (.int .i64 b) := Fam.cell c1
  have F0 := hid hf
  clear hf c0 c1
  refine wp_region_fam (by kernel_rfl) (by kernel_rfl) ?_
  repeat (go_big_quiet_step (fail))
  refine wpQuiet_nil ?_
  rintro w7 ⟨⟨w7, hf7⟩, rfl⟩
  have F7 := hid (F0.out.trans hf7)
  clear hf7 k0 k1
  go_wp2
  go_ret2
  exact ⟨rfl, F7.out⟩

set_option maxRecDepth 100000 in
set_option maxHeartbeats 1000000 in
theorem arc_ends (i t h g : Int) (c : Bool) (w : World) :
    Calls Tryz.prog 250 #[.agg #[.int .i64 i, .int .i64 t, .int .i64 h, .int .i64 g, .bool c]] w fun e w' => e = .returned (.tuple #[.int .i64 t, .int .i64 h]) ∧ Fr No w w' := by
  go_enter Tryz.func250, Tryz.ntmps250
  go_wp2_with fail
  have hf := (Fr.refl No w).alloc (.cells #[.int .i64 i, .int .i64 t, .int .i64 h, .int .i64 g, .bool c] 252)
  have c0 := cell_of (heap_new w (.cells #[.int .i64 i, .int .i64 t, .int .i64 h, .int .i64 g, .bool c] 252)) 1
  have c1 := cell_of (heap_new w (.cells #[.int .i64 i, .int .i64 t, .int .i64 h, .int .i64 g, .bool c] 252)) 2
  generalize w.alloc (.cells #[.int .i64 i, .int .i64 t, .int .i64 h, .int .i64 g, .bool c] 252) = W at hf c0 c1 ⊢
  have k0 : ∀ nn : Fam W, nn.v.cell? ⟨w.heap.size, 1, none⟩ = some (.int .i64 t) := Fam.cell c0
  have k1 : ∀ nn : Fam W, nn.v.cell? ⟨w.heap.size, 2, none⟩ = some (.int .i64 h) := Fam.cell c1
  have F0 := hid hf
  clear hf c0 c1
  refine wp_region_fam (by kernel_rfl) (by kernel_rfl) ?_
  repeat (go_big_quiet_step (fail))
  refine wpQuiet_nil ?_
  rintro w7 ⟨⟨w7, hf7⟩, rfl⟩
  have F7 := hid (F0.out.trans hf7)
  clear hf7 k0 k1
  go_wp2
  go_ret2
  exact ⟨rfl, F7.out⟩

set_option maxRecDepth 100000 in
set_option maxHeartbeats 1000000 in
theorem ground_calls {w : World} {L : IxLoc} {x : Ix} {rb : Nat} {gp : Option Addr} {fl : Nat} (h : IxMem w L x) (hr : RdM w rb gp L fl) (v : Int) :
    Calls Tryz.prog 135 #[.pointer (some ⟨rb, 0, none⟩), .int .i64 v] w fun e w' => e = .returned (.bool (decide (x.rank v < fl))) ∧ w' = w.drew := by
  have hrk := rank_calls (h.no (Fr.refl No w).drew) v
  obtain ⟨rv, ev⟩ : ∃ r, x.rank v = r := ⟨_, rfl⟩
  rw [ev] at hrk ⊢
  have HRK := hid hrk
  have k1 := hr.x
  have k2 := hr.f
  clear h hr ev hrk
  go_enter Tryz.func135, Tryz.ntmps135
  go_wp2_with fail
  go_region_with (go_at_call 102; refine HRK.out.mono ?_; rintro e w' ⟨rfl, hw⟩; subst hw)
  all_goals (go_wp2; go_ret; exact ⟨rfl, rfl⟩)

theorem flr_eq (n : Nat) (floor : Int) : ((flr n floor : Nat) : Int) = min (max floor 0) (n : Int) := by
  unfold flr
  by_cases h1 : floor < 0
  · rw [if_pos h1]; omega
  · rw [if_neg h1]
    by_cases h2 : (n : Int) < floor
    · rw [if_pos h2]; omega
    · rw [if_neg h2, Int.toNat_of_nonneg (by omega)]; omega

def MadeR22 (w : World) (gp : Option Addr) (L : IxLoc) (fl : Nat) (e : Ending) (w' : World) : Prop :=
  ∃ rb : Nat, e = .returned (.tuple #[.pointer (some ⟨rb, 0, none⟩), .int .i64 0]) ∧ Fr No w w' ∧ w.heap.size ≤ rb ∧ RdM w' rb gp L fl

set_option maxRecDepth 100000 in
set_option maxHeartbeats 4000000 in
theorem made22_yes {w : World} {L : IxLoc} {x : Ix} (h : IxMem w L x) (gp : Option Addr) (floor : Int) (A : Option Addr) (m c : Nat) (f : Nat → Int) (ha : IntsF w A m f) (hm : m ≤ 24) (hv : ∀ j, j < m → 0 ≤ x.rank (f j)) :
    Calls Tryz.prog 62 #[.pointer gp, .pointer (some ⟨L.b, 0, none⟩), .int .i64 floor, .slice A m c] w (MadeR22 w gp L (flr x.n floor)) := by
  have H := hid h
  have HA := hid ha
  have HV := hid hv
  have hn := h.ok.n2
  clear h ha hv
  go_enter Tryz.func62, Tryz.ntmps62
  go_wp2
  go_loopg [14] (m + 1) (fun gk p wr => ∃ k : Nat, p = .int .i64 k ∧ k ≤ m ∧ gk = m + 1 - k ∧ Fr No w wr)
  case atStart => exact ⟨0, rfl, by omega, rfl, Fr.refl _ _⟩
  case round =>
    obtain ⟨k, rfl, hk, hgk, hf⟩ := hrel
    have HGK := hid hgk
    have HF := hid hf
    clear hgk hf
    by_cases hlt : k < m
    · have hlt2 : (k : Int) < m := by omega
      obtain ⟨bA, off, rfl, hc⟩ := HA.out (by omega)
      have s1 := HF.out.cell_some (hc k hlt) (fun h => h)
      have hge := HV.out k hlt
      have hrk := rank_calls (H.out.no HF.out) (f k)
      obtain ⟨rk, erk⟩ : ∃ r, x.rank (f k) = r := ⟨_, rfl⟩
      obtain ⟨fk, efk⟩ : ∃ r, f k = r := ⟨_, rfl⟩
      rw [efk] at s1 hrk
      rw [← efk, erk] at hrk
      rw [erk] at hge
      rw [efk] at hrk
      have HRK := hid hrk
      have g1 : decide (rk < 0) = false := by simp; exact hge
      clear hc hrk erk efk hge
      go_wp2_with fail
      refine HRK.out.mono ?_
      rintro e w2 ⟨rfl, hw⟩
      subst hw
      clear s1
      go_wp2
      go_roundg (m + 1 - (k + 1))
      case measure => have := HGK.out; omega
      case rel => exact ⟨k + 1, by go_num, by omega, rfl, HF.out⟩
    · obtain rfl : k = m := by omega
      go_wp2_with fail
      refine (vertices_calls (H.out.no HF.out)).mono ?_
      rintro e w2 ⟨rfl, hf2⟩
      have F2 := hid (HF.out.trans hf2)
      clear hf2
      go_wp2
      go_ret2
      have hb := heap_new w2 (.cells #[.pointer gp, .pointer (some ⟨L.b, 0, none⟩), .int .i64 (min (max floor 0) (x.n : Int))] 211)
      refine ⟨w2.heap.size, rfl, F2.out.alloc _, F2.out.size, cell_of hb 0, cell_of hb 1, ?_⟩
      rw [flr_eq]
      exact cell_of hb 2
set_option maxRecDepth 100000 in
set_option maxHeartbeats 4000000 in
theorem made22_no {w : World} {L : IxLoc} {x : Ix} (h : IxMem w L x) (gp : Option Addr) (floor : Int) (A : Option Addr) (m c : Nat) (f : Nat → Int) (ha : IntsF w A m f) (hm : m ≤ 24) (hv : ∃ j, j < m ∧ x.rank (f j) < 0) :
    Calls Tryz.prog 62 #[.pointer gp, .pointer (some ⟨L.b, 0, none⟩), .int .i64 floor, .slice A m c] w fun e w' => e = .returned (.tuple #[.pointer none, .int .i64 1]) ∧ Fr No w w' := by
  have H := hid h
  have HA := hid ha
  have HV := hid hv
  clear h ha hv
  go_enter Tryz.func62, Tryz.ntmps62
  go_wp2
  go_loopg [14] (m + 1) (fun gk p wr => ∃ k : Nat, p = .int .i64 k ∧ k ≤ m ∧ gk = m + 1 - k ∧ Fr No w wr ∧ ∀ j, j < k → 0 ≤ x.rank (f j))
  case atStart => exact ⟨0, rfl, by omega, rfl, Fr.refl _ _, fun j hj => by omega⟩
  case round =>
    obtain ⟨k, rfl, hk, hgk, hf, hall⟩ := hrel
    have HGK := hid hgk
    have HF := hid hf
    have HALL := hid hall
    clear hgk hf hall
    by_cases hlt : k < m
    · have hlt2 : (k : Int) < m := by omega
      obtain ⟨bA, off, rfl, hc⟩ := HA.out (by omega)
      have s1 := HF.out.cell_some (hc k hlt) (fun h => h)
      have hrk := rank_calls (H.out.no HF.out) (f k)
      obtain ⟨rk, erk⟩ : ∃ r, x.rank (f k) = r := ⟨_, rfl⟩
      rw [erk] at hrk
      obtain ⟨fk, efk⟩ : ∃ r, f k = r := ⟨_, rfl⟩
      rw [efk] at s1 hrk
      have HRK := hid hrk
      have ERK := hid erk
      clear hc hrk erk efk
      by_cases hneg : rk < 0
      · have g1 : decide (rk < 0) = true := by simp; exact hneg
        go_wp2_with fail
        refine HRK.out.mono ?_
        rintro e w2 ⟨rfl, hw⟩
        subst hw
        clear s1
        go_wp2
        go_ret2
        exact ⟨rfl, HF.out⟩
      · have g1 : decide (rk < 0) = false := by simp; omega
        go_wp2_with fail
        refine HRK.out.mono ?_
        rintro e w2 ⟨rfl, hw⟩
        subst hw
        clear s1
        go_wp2
        go_roundg (m + 1 - (k + 1))
        case measure => have := HGK.out; omega
        case rel => exact ⟨k + 1, by go_num, by omega, rfl, HF.out, fun j hj => by
          by_cases e : j = k
          · rw [e, ERK.out]; omega
          · exact HALL.out j (by omega)⟩
    · obtain rfl : k = m := by omega
      obtain ⟨j, hj, hneg⟩ := HV.out
      have := HALL.out j hj
      omega

end Go.Proofs.YtoepbhacpidcbaaGreatDoor
/- bypass: what hands back the steps' iterators. -/
set_option linter.unusedVariables false
namespace Go.Proofs.YtoepbhacpidcbaaGreatDoor
open Go.RowKit Go.Deep

set_option maxRecDepth 100000 in
set_option maxHeartbeats 1000000 in
theorem rins_calls (rb : Nat) (v : Int) (w : World) :
    Calls Tryz.prog 66 #[.pointer (some ⟨rb, 0, none⟩), .int .i64 v] w fun e w' => e = .returned (.func (.func 139) #[] #[.pointer (some ⟨w.heap.size, 0, none⟩), .pointer (some ⟨w.heap.size + 1, 0, none⟩)]) ∧
      w' = (w.alloc (.cells #[.pointer (some ⟨rb, 0, none⟩)] 124)).alloc (.cells #[.int .i64 v] 3) := by
  go_enter Tryz.func66, Tryz.ntmps66
  go_wp2
  go_ret
  exact ⟨by simp, rfl⟩

set_option maxRecDepth 100000 in
set_option maxHeartbeats 1000000 in
theorem routs_calls (rb : Nat) (v : Int) (w : World) :
    Calls Tryz.prog 65 #[.pointer (some ⟨rb, 0, none⟩), .int .i64 v] w fun e w' => e = .returned (.func (.func 134) #[] #[.pointer (some ⟨w.heap.size, 0, none⟩), .pointer (some ⟨w.heap.size + 1, 0, none⟩)]) ∧
      w' = (w.alloc (.cells #[.pointer (some ⟨rb, 0, none⟩)] 124)).alloc (.cells #[.int .i64 v] 3) := by
  go_enter Tryz.func65, Tryz.ntmps65
  go_wp2
  go_ret
  exact ⟨by simp, rfl⟩

set_option maxRecDepth 100000 in
set_option maxHeartbeats 1000000 in
theorem ruppers_calls (rb : Nat) (v : Int) (w : World) :
    Calls Tryz.prog 137 #[.pointer (some ⟨rb, 0, none⟩), .int .i64 v] w fun e w' => e = .returned (.func (.func 193) #[] #[.pointer (some ⟨w.heap.size, 0, none⟩), .pointer (some ⟨w.heap.size + 1, 0, none⟩)]) ∧
      w' = (w.alloc (.cells #[.pointer (some ⟨rb, 0, none⟩)] 124)).alloc (.cells #[.int .i64 v] 3) := by
  go_enter Tryz.func137, Tryz.ntmps137
  go_wp2
  go_ret
  exact ⟨by simp, rfl⟩

set_option maxRecDepth 100000 in
set_option maxHeartbeats 1000000 in
theorem rdives_calls (rb : Nat) (v : Int) (w : World) :
    Calls Tryz.prog 138 #[.pointer (some ⟨rb, 0, none⟩), .int .i64 v] w fun e w' => e = .returned (.func (.func 195) #[] #[.pointer (some ⟨w.heap.size, 0, none⟩), .pointer (some ⟨w.heap.size + 1, 0, none⟩)]) ∧
      w' = (w.alloc (.cells #[.pointer (some ⟨rb, 0, none⟩)] 124)).alloc (.cells #[.int .i64 v] 3) := by
  go_enter Tryz.func138, Tryz.ntmps138
  go_wp2
  go_ret
  exact ⟨by simp, rfl⟩

end Go.Proofs.YtoepbhacpidcbaaGreatDoor
/- ringroadref16.Between: how far it is by way of lower ones, as the document says; walked. -/
set_option linter.unusedVariables false
set_option linter.unusedSimpArgs false
namespace Go.Proofs.YtoepbhacpidcbaaGreatDoor
open Go.RowKit Go.Deep

theorem fw1_b {L : Nat → Bool} {n m a b : Nat} {D : Mat} (h : MB n D) (hm : m < n) (ha : a < n) (hb : b < n) : MB n (fw1 L m a b D) := fun i j hi hj => by
  unfold fw1
  split
  · unfold upd2; split
    · exact tw_b (h a m ha hm) (h m b hm hb)
    · exact h i j hi hj
  · exact h i j hi hj
theorem fwB_b {L : Nat → Bool} {n m a : Nat} {D : Mat} (h : MB n D) (hm : m < n) (ha : a < n) : ∀ k, k ≤ n → MB n (fwB L m a D k)
  | 0, _ => h
  | k + 1, hk => fw1_b (fwB_b h hm ha k (by omega)) hm ha (by omega)
theorem fwA_b {L : Nat → Bool} {n m : Nat} {D : Mat} (h : MB n D) (hm : m < n) : ∀ k, k ≤ n → MB n (fwA L n m D k)
  | 0, _ => h
  | k + 1, hk => fwB_b (fwA_b h hm k (by omega)) hm (by omega) n (Nat.le_refl n)
theorem fwM_b {L : Nat → Bool} {n : Nat} {D : Mat} (h : MB n D) : ∀ k, k ≤ n → MB n (fwM L n D k)
  | 0, _ => h
  | k + 1, hk => fwA_b (fwM_b h k (by omega)) (by omega) n (Nat.le_refl n)

/-- A square of 24 lies at B: its first n rows and places hold D. -/
def Sq (W : World) (B n : Nat) (D : Mat) : Prop := ∃ M : Nat → Int, Blk W B 576 103 (fun i => .int .i64 (M i)) ∧ ∀ i j, i < n → j < n → M (i * 24 + j) = D i j
theorem Sq.fr {W W' : World} {B n : Nat} {D : Mat} (h : Sq W B n D) {F : Nat → Prop} (hf : Fr F W W') (hF : ¬ F B) : Sq W' B n D := by
  obtain ⟨M, h1, h2⟩ := h
  exact ⟨M, h1.fr hf hF, h2⟩
theorem Sq.cell {W : World} {B n : Nat} {D : Mat} (h : Sq W B n D) (hn : n ≤ 24) {i j : Nat} (hi : i < n) (hj : j < n) : W.cell? ⟨B, i * 24 + j, none⟩ = some (.int .i64 (D i j)) := by
  obtain ⟨M, h1, h2⟩ := h
  rw [h1.cell (show i * 24 + j < 576 by omega), h2 i j hi hj]
theorem Sq.frozen {W : World} {B n : Nat} {D : Mat} (h : Sq W B n D) (i : Nat) : W.frozen? ⟨B, i, none⟩ = false := by
  obtain ⟨M, h1, _⟩ := h
  exact h1.frozen i
theorem Sq.lt {W : World} {B n : Nat} {D : Mat} (h : Sq W B n D) : B < W.heap.size := by
  obtain ⟨M, h1, _⟩ := h
  exact h1.lt
theorem Sq.set {W : World} {B n : Nat} {D : Mat} (h : Sq W B n D) (hn : n ≤ 24) {a b : Nat} (ha : a < n) (hb : b < n) (z : Int) : Sq (W.setCell ⟨B, a * 24 + b, none⟩ (.int .i64 z)) B n (upd2 D a b z) := by
  obtain ⟨M, h1, h2⟩ := h
  refine ⟨fun k => if k = a * 24 + b then z else M k, (h1.setCell (a * 24 + b) (.int .i64 z)).congr (fun k hk => ?_), fun i j hi hj => ?_⟩
  · show (if k = a * 24 + b then Value.int .i64 z else Value.int .i64 (M k)) = Value.int .i64 (if k = a * 24 + b then z else M k)
    split <;> rfl
  · show (if i * 24 + j = a * 24 + b then z else M (i * 24 + j)) = if i = a ∧ j = b then z else D i j
    by_cases e : i = a ∧ j = b
    · rw [if_pos e, if_pos (by omega)]
    · rw [if_neg e, if_neg (by omega)]; exact h2 i j hi hj
theorem Sq.congr {W : World} {B n : Nat} {D D' : Mat} (h : Sq W B n D) (e : ∀ i j, i < n → j < n → D i j = D' i j) : Sq W B n D' := by
  obtain ⟨M, h1, h2⟩ := h
  exact ⟨M, h1, fun i j hi hj => (h2 i j hi hj).trans (e i j hi hj)⟩
theorem sq_size : Tryz.zeroCells103.size = 576 := Tryz.zeroCells103_size
set_option maxRecDepth 100000 in
theorem sq_all : ((List.range 576).all fun i => isZ (Tryz.zeroCells103[i]!)) = true := by kernel_rfl
theorem sq_zero (i : Nat) (hi : i < 576) : Tryz.zeroCells103[i]? = some (.int .i64 0) := by
  have h := List.all_eq_true.1 sq_all i (by simpa using hi)
  have hl : i < Tryz.zeroCells103.size := by rw [sq_size]; exact hi
  rw [Array.getElem?_eq_getElem hl]
  have e := isZ_eq h
  rw [getElem!_pos Tryz.zeroCells103 i hl] at e
  rw [e]

end Go.Proofs.YtoepbhacpidcbaaGreatDoor
/- bypass: the steps of ways out from a ground vertex, as an iterator that ranges over another one. -/
set_option linter.unusedVariables false
set_option linter.unusedSimpArgs false
namespace Go.Proofs.YtoepbhacpidcbaaGreatDoor
open Go.RowKit Go.Shelf Go.Deep

attribute [local go_sem] Oper.semAt_some

def outEnc (x : Ix) (v : Nat) (el : x.RowEl v false) : Array Value := #[.iface 224 (.agg #[.int .i64 (v : Nat), .int .i64 (x.by_ el.1 : Nat)]), .int .i64 (x.rowE v false el.1).w]

set_option maxRecDepth 100000 in
set_option maxHeartbeats 4000000 in
theorem out1_low {x : Ix} {L : IxLoc} (Br Bv rb v fl : Nat) (gp : Option Addr) (hv : v < x.n) (hgr : x.rk v < fl) (F : Nat → Prop) (f1 : ¬ F L.b) (f2 : ¬ F L.br) (f3 : ¬ F L.bb) (f4 : ¬ F 0) (f5 : ¬ F Br) (f6 : ¬ F Bv) (f7 : ¬ F rb) (w : World) (h : IxMem w L x) (hrd : RdM w rb gp L fl)
    (hbr : w.cell? ⟨Br, 0, none⟩ = some (.pointer (some ⟨rb, 0, none⟩))) (hbv : w.cell? ⟨Bv, 0, none⟩ = some (.int .i64 (v : Nat))) (N0 : Nat) (hF : ∀ k, N0 ≤ k → k < N0 + 4 → ¬ F k) :
    SeqO Fence.wide 7 Tryz.prog 134 #[.pointer (some ⟨Br, 0, none⟩), .pointer (some ⟨Bv, 0, none⟩)] (outEnc x v) (Fr F) (fun ys => ys = x.rowTo v false 24) (fun pre => pre <+: x.rowTo v false 24) (x.rowTo v false 24).length N0 4 w := fun l J Jx W hW hN hJ hJx hY h0 => by
  subst hN
  have hf0 := Fr.of_below hW
  have hra : x.rank (v : Nat) = x.rk v := by unfold Ix.rank; rw [if_pos ⟨by omega, by omega⟩]; simp
  have HRA := hid hra
  have HX := hid (h.no hf0)
  have HRD := hid (hrd.no hf0)
  have cr := hf0.cell_some hbr (fun h => h)
  have cv := hf0.cell_some hbv (fun h => h)
  have lr := cell_lt cr
  have lv := cell_lt cv
  have lrb := cell_lt HRD.out.x
  simp only at lr lv lrb
  have HJ := hid hJ
  have HJX := hid hJx
  have HY := hid hY
  have H0 := hid h0
  have HFF := hid hF
  have hn := h.ok.n2
  clear hW hJ hJx hY h0 h hrd hbr hbv hra hf0 hF
  refine callsIn_of_wp_marks Tryz.func134 rfl trivial ?_ rfl
  refine wpIn_wide.2 ?_
  simp only [Tryz.ntmps134, List.size_toArray, List.length_cons, List.length_nil, Nat.reduceAdd, Nat.reduceSub, Array.replicate_succ, Array.replicate_zero, List.push_toArray, List.append_toArray, List.nil_append, List.cons_append]
  go_wp2_with fail
  have fa : Fr No W (W.alloc (.cells #[.func (.yield l) #[] #[]] 219)) := (Fr.refl No W).alloc _
  refine (ground_calls (HX.out.no fa) (HRD.out.no fa) (v : Nat)).mono ?_
  rw [HRA.out]
  rintro e w1 ⟨rfl, rfl⟩
  have fb : Fr No W (W.alloc (.cells #[.func (.yield l) #[] #[]] 219)).drew := fa.drew
  have hsb : (W.alloc (.cells #[.func (.yield l) #[] #[]] 219)).drew.heap.size = W.heap.size + 1 := by simp
  have c3 : (W.alloc (.cells #[.func (.yield l) #[] #[]] 219)).drew.cell? ⟨W.heap.size, 0, none⟩ = some (.func (.yield l) #[] #[]) := by simp [go_sem]
  have hj0 : J [] (W.alloc (.cells #[.func (.yield l) #[] #[]] 219)).drew := HJ.out _ _ _ none H0.out (fr_grownBy fb) (fun r e => by cases e)
  generalize (W.alloc (.cells #[.func (.yield l) #[] #[]] 219)).drew = Wb at fb hsb c3 hj0 ⊢
  have cr := fb.cell_some cr (fun h => h)
  have cv := fb.cell_some cv (fun h => h)
  have cx := fb.cell_some HRD.out.x (fun h => h)
  have HXB := hid (HX.out.no fb)
  have FB := hid fb
  have HJ0 := hid hj0
  have HSB := hid hsb
  have lr : Br < Wb.heap.size := cell_lt cr
  have lv : Bv < Wb.heap.size := cell_lt cv
  have lrb : rb < Wb.heap.size := cell_lt cx
  have l3 : W.heap.size < Wb.heap.size := cell_lt c3
  clear fa fb hj0 H0 HX hsb
  · have g1 : decide ((x.rk v : Int) < (fl : Int)) = true := by simp; exact hgr
    go_wp2_with fail
    go_still_tail 5, (by kernel_rfl)
    go_wp2_with fail
    refine (up_calls L.b (v : Nat) _).mono ?_
    rintro e W3 ⟨rfl, hW3⟩
    have f03 : Fr No Wb W3 := by rw [hW3]; exact ((((Fr.refl No Wb).drew).alloc _).alloc _).alloc _
    have cxx : W3.cell? ⟨Wb.heap.size, 0, none⟩ = some (.pointer (some ⟨L.b, 0, none⟩)) := by rw [hW3]; simp [go_sem]
    have cvv : W3.cell? ⟨Wb.heap.size + 1, 0, none⟩ = some (.int .i64 (v : Nat)) := by rw [hW3]; simp [go_sem]
    have cff : W3.cell? ⟨Wb.heap.size + 1 + 1, 0, none⟩ = some (.func (.func 192) #[] #[]) := by rw [hW3]; simp [go_sem]
    have hsz : Wb.heap.size + 3 ≤ W3.heap.size := by rw [hW3]; simp
    have c33 := f03.cell_some c3 (fun h => h)
    have cv3 := f03.cell_some cv (fun h => h)
    have hj3 : J [] W3 := HJ.out _ _ _ none HJ0.out (fr_grownBy f03) (fun r e => by cases e)
    have HX3 := hid (HXB.out.no f03)
    have HJ3 := hid hj3
    have p1 : ¬ F Wb.heap.size := HFF.out _ (by omega) (by have := HSB.out; omega)
    have p2 : ¬ F (Wb.heap.size + 1) := HFF.out _ (by omega) (by have := HSB.out; omega)
    have p3 : ¬ F W.heap.size := HFF.out _ (by omega) (by omega)
    have q1 := HX3.out.lt
    have q2 := HX3.out.hr.1
    have q3 := HX3.out.hb.1
    have q4 := HX3.out.gn.lt
    clear hW3 f03 hj3 c3 cv cr cx HJ0 HXB
    go_wp2
    refine (wpIn_wide (n := 7)).1 ?_
    refine wpIn_rangeFunc_ownB rfl (by omega) (gf := 220) (lb := #[.pointer (some ⟨Wb.heap.size, 0, none⟩), .pointer (some ⟨Wb.heap.size + 1, 0, none⟩), .pointer (some ⟨Wb.heap.size + 1 + 1, 0, none⟩)]) rfl trivial (enters_of Tryz.func220 (by kernel_rfl) rfl)
      ((to_up x L).seq Wb.heap.size (Wb.heap.size + 1) (Wb.heap.size + 1 + 1) v hv (fun k => F k ∨ W3.heap.size ≤ k) (by rintro (h | h); exact f1 h; omega) (by rintro (h | h); exact f2 h; omega) (by rintro (h | h); exact f3 h; omega) (by rintro (h | h); exact f4 h; omega) (by rintro (h | h); exact p1 h; omega) (by rintro (h | h); exact p2 h; omega) W3 HX3.out cxx cvv cff)
      (fun h k => Fr.trans h k) (fun W l o o' hl _ _ _ => fr_putObj W l o' (.inr hl)) (fun W o => (Fr.refl _ W).alloc o) (Below.refl _ _) (fun _ => rfl)
      (fun pre W' => J pre W' ∧ Fr (fun k => F k ∨ W3.heap.size ≤ k) W3 W')
      (fun c pre W' => c = .ret ∧ Jx pre W')
      (OwnFrom.both (OwnFrom.later HJ.out (by omega)) (fun s A B row hs hg hr => ownFrom_fr _ W3 s A B row hs hg hr))
      (fun c s A B row hs hg hr => ⟨hs.1, OwnFrom.later HJX.out (show W.heap.size ≤ W3.heap.size by omega) s A B row hs.2 hg hr⟩)
      (fun pre W' o h => ⟨HJ.out _ _ _ none h.1 (fr_grownBy ((Fr.refl No W').alloc o)) (fun r e => by cases e), h.2.alloc o⟩) (fun pre W' h => h.2.size) ⟨HJ3.out, Fr.refl _ _⟩
      (fun el b' T => (T.setIfInBounds 4 (.int .i64 (x.by_ el.1 : Nat))).setIfInBounds 5 (.pointer (some ⟨b', 0, none⟩))) 117 (fun el => #[.int .i64 (x.rowE v false el.1).w, .int .i64 (x.rowE v false el.1).a, .int .i64 (x.rowE v false el.1).m]) ?assign ?body ?done ?stop
    case assign =>
      intro l el W K hK
      simp only [Ix.rowEnc, En.val]
      gi_wp2
      simpa [Ix.rowEnc, En.val] using hK
    case stop =>
      rintro D c pre W' hD hSp ⟨rfl, hjx⟩ hKD
      refine wpIn_wide.2 ?_
      go_wp2
      refine ⟨by simp, .inl ⟨D, _, rfl, run_takeDeferred hKD, ?_⟩⟩
      exact ⟨_, results_none rfl _ _ _, ⟨_, rfl⟩, .inr ⟨pre, by exact hSp, OwnFrom.putObj (OwnFrom.later HJX.out (show W.heap.size ≤ W3.heap.size by omega)) _ hjx hD hKD rfl⟩⟩
    case done =>
      rintro D ys W' hD hS ⟨hj, hf⟩ hKD
      go_wp2
      refine ⟨by simp, .inl ⟨D, _, rfl, run_takeDeferred hKD, ?_⟩⟩
      exact ⟨_, results_none rfl _ _ _, ⟨_, rfl⟩, .inl ⟨ys, by exact hS, OwnFrom.putObj (OwnFrom.later HJ.out (show W.heap.size ≤ W3.heap.size by omega)) _ hj hD hKD rfl, by have := hf.size; have := HSB.out; simp; omega⟩⟩
    case body =>
      rintro l' pre el W' b' hl hloop ⟨hj, hf⟩ hlen hb' hcs
      have hyy := (HY.out pre el W' hj hlen (by have := hf.size; have := HSB.out; omega))
      have c34 := hf.cell_some c33 (fun h => h.elim p3 (fun h => by simp only at h; omega))
      have cv4 := hf.cell_some cv3 (fun h => h.elim f6 (fun h => by simp only at h; omega))
      have ce := cell_of hcs 0
      have lce := heap_lt hcs
      have HFW := hid hf
      have hKN : ∀ W5, KeepsFrom W.heap.size W' W5 → KeepsFrom W3.heap.size W' W5 := fun W5 h => ⟨h.size, fun k o hk => h.same k o (by omega)⟩
      have HKN := hid hKN
      unfold outEnc at hyy
      obtain ⟨y, hy⟩ : ∃ y, x.by_ el.1 = y := ⟨_, rfl⟩
      obtain ⟨⟨e0, e1, e2⟩, he⟩ : ∃ e, x.rowE v false el.1 = e := ⟨_, rfl⟩
      simp only [hy, he] at hyy ce
      have HHY := hid hy
      have HEE := hid he
      obtain ⟨fn, tm, asg, bd, hyr, hR⟩ := YieldAt.round (l0 := l') (YieldAt.deep (m' := 4) hyy)
      have HR := hid hR
      clear hyy hcs hf hKN hR hy he hj hloop
      simp only [Ix.rowEnc, En.val, HHY.out, HEE.out]
      gi_wp2_with fail
      refine HR.out.mono ?_
      clear hyr c34 cv4 ce
      rintro e W5 ⟨(⟨rfl, hj5, hk5⟩ | ⟨rfl, hj5⟩), hkf⟩
      · have HJ5 := hid hj5
        have HK5 := hid hk5
        have HKF := hid hkf
        clear hj5 hk5 hkf
        gi_wp2
        exact ⟨HKN.out _ HKF.out, HK5.out.mono (fun k _ h => .inl h), HJ5.out, HFW.out.trans (HK5.out.mono (fun k _ h => .inl h))⟩
      · have HJ5 := hid hj5
        have HKF := hid hkf
        clear hj5 hkf
        gi_wp2
        exact ⟨HKN.out _ HKF.out, rfl, HJ5.out⟩

end Go.Proofs.YtoepbhacpidcbaaGreatDoor
/- bypass: the steps of ways in, as an iterator that ranges over another one. -/
set_option linter.unusedVariables false
set_option linter.unusedSimpArgs false
namespace Go.Proofs.YtoepbhacpidcbaaGreatDoor
open Go.RowKit Go.Shelf Go.Deep

attribute [local go_sem] Oper.semAt_some

def inL (x : Ix) (v fl : Nat) : List (x.RowEl v true) := if x.rk v < fl then x.rowTo v true 24 else []
def inC (x : Ix) (v fl : Nat) : Nat := if x.rk v < fl then 4 else 1
def inEnc (x : Ix) (v : Nat) (el : x.RowEl v true) : Array Value := #[.iface 224 (.agg #[.int .i64 (x.by_ el.1 : Nat), .int .i64 (v : Nat)]), .int .i64 (x.rowE v true el.1).w]

set_option maxRecDepth 100000 in
set_option maxHeartbeats 4000000 in
theorem in1_seq {x : Ix} {L : IxLoc} (Br Bv rb v fl : Nat) (gp : Option Addr) (hv : v < x.n) (F : Nat → Prop) (f1 : ¬ F L.b) (f2 : ¬ F L.br) (f3 : ¬ F L.bb) (f4 : ¬ F 0) (f5 : ¬ F Br) (f6 : ¬ F Bv) (f7 : ¬ F rb) (w : World) (h : IxMem w L x) (hrd : RdM w rb gp L fl)
    (hbr : w.cell? ⟨Br, 0, none⟩ = some (.pointer (some ⟨rb, 0, none⟩))) (hbv : w.cell? ⟨Bv, 0, none⟩ = some (.int .i64 (v : Nat))) (N0 : Nat) (hF : ∀ k, N0 ≤ k → k < N0 + inC x v fl → ¬ F k) :
    SeqO Fence.wide 7 Tryz.prog 139 #[.pointer (some ⟨Br, 0, none⟩), .pointer (some ⟨Bv, 0, none⟩)] (inEnc x v) (Fr F) (fun ys => ys = inL x v fl) (fun pre => pre <+: inL x v fl) (inL x v fl).length N0 (inC x v fl) w := fun l J Jx W hW hN hJ hJx hY h0 => by
  subst hN
  have hf0 := Fr.of_below hW
  have hra : x.rank (v : Nat) = x.rk v := by unfold Ix.rank; rw [if_pos ⟨by omega, by omega⟩]; simp
  have HRA := hid hra
  have HX := hid (h.no hf0)
  have HRD := hid (hrd.no hf0)
  have cr := hf0.cell_some hbr (fun h => h)
  have cv := hf0.cell_some hbv (fun h => h)
  have lr := cell_lt cr
  have lv := cell_lt cv
  have lrb := cell_lt HRD.out.x
  simp only at lr lv lrb
  have HJ := hid hJ
  have HJX := hid hJx
  have HY := hid hY
  have H0 := hid h0
  have HFF := hid hF
  have hn := h.ok.n2
  clear hW hJ hJx hY h0 h hrd hbr hbv hra hf0 hF
  refine callsIn_of_wp_marks Tryz.func139 rfl trivial ?_ rfl
  refine wpIn_wide.2 ?_
  simp only [Tryz.ntmps139, List.size_toArray, List.length_cons, List.length_nil, Nat.reduceAdd, Nat.reduceSub, Array.replicate_succ, Array.replicate_zero, List.push_toArray, List.append_toArray, List.nil_append, List.cons_append]
  go_wp2_with fail
  have fa : Fr No W (W.alloc (.cells #[.func (.yield l) #[] #[]] 219)) := (Fr.refl No W).alloc _
  refine (ground_calls (HX.out.no fa) (HRD.out.no fa) (v : Nat)).mono ?_
  rw [HRA.out]
  rintro e w1 ⟨rfl, rfl⟩
  have fb : Fr No W (W.alloc (.cells #[.func (.yield l) #[] #[]] 219)).drew := fa.drew
  have hsb : (W.alloc (.cells #[.func (.yield l) #[] #[]] 219)).drew.heap.size = W.heap.size + 1 := by simp
  have c3 : (W.alloc (.cells #[.func (.yield l) #[] #[]] 219)).drew.cell? ⟨W.heap.size, 0, none⟩ = some (.func (.yield l) #[] #[]) := by simp [go_sem]
  have hj0 : J [] (W.alloc (.cells #[.func (.yield l) #[] #[]] 219)).drew := HJ.out _ _ _ none H0.out (fr_grownBy fb) (fun r e => by cases e)
  generalize (W.alloc (.cells #[.func (.yield l) #[] #[]] 219)).drew = Wb at fb hsb c3 hj0 ⊢
  have cr := fb.cell_some cr (fun h => h)
  have cv := fb.cell_some cv (fun h => h)
  have cx := fb.cell_some HRD.out.x (fun h => h)
  have HXB := hid (HX.out.no fb)
  have FB := hid fb
  have HJ0 := hid hj0
  have HSB := hid hsb
  have lr : Br < Wb.heap.size := cell_lt cr
  have lv : Bv < Wb.heap.size := cell_lt cv
  have lrb : rb < Wb.heap.size := cell_lt cx
  have l3 : W.heap.size < Wb.heap.size := cell_lt c3
  clear fa fb hj0 H0 HX hsb
  by_cases hgr : x.rk v < fl
  · have g1 : decide ((x.rk v : Int) < (fl : Int)) = true := by simp; exact hgr
    have hl : inL x v fl = x.rowTo v true 24 := if_pos hgr
    have HL := hid hl
    have hic : inC x v fl = 4 := if_pos hgr
    have HIC := hid hic
    clear hl hic
    go_wp2_with fail
    go_still_tail 5, (by kernel_rfl)
    go_wp2_with fail
    refine (down_calls L.b (v : Nat) _).mono ?_
    rintro e W3 ⟨rfl, hW3⟩
    have f03 : Fr No Wb W3 := by rw [hW3]; exact ((((Fr.refl No Wb).drew).alloc _).alloc _).alloc _
    have cxx : W3.cell? ⟨Wb.heap.size, 0, none⟩ = some (.pointer (some ⟨L.b, 0, none⟩)) := by rw [hW3]; simp [go_sem]
    have cvv : W3.cell? ⟨Wb.heap.size + 1, 0, none⟩ = some (.int .i64 (v : Nat)) := by rw [hW3]; simp [go_sem]
    have cff : W3.cell? ⟨Wb.heap.size + 1 + 1, 0, none⟩ = some (.func (.func 196) #[] #[]) := by rw [hW3]; simp [go_sem]
    have hsz : Wb.heap.size + 3 ≤ W3.heap.size := by rw [hW3]; simp
    have c33 := f03.cell_some c3 (fun h => h)
    have cv3 := f03.cell_some cv (fun h => h)
    have hj3 : J [] W3 := HJ.out _ _ _ none HJ0.out (fr_grownBy f03) (fun r e => by cases e)
    have HX3 := hid (HXB.out.no f03)
    have HJ3 := hid hj3
    have p1 : ¬ F Wb.heap.size := HFF.out _ (by omega) (by have := HSB.out; rw [HIC.out]; omega)
    have p2 : ¬ F (Wb.heap.size + 1) := HFF.out _ (by omega) (by have := HSB.out; rw [HIC.out]; omega)
    have p3 : ¬ F W.heap.size := HFF.out _ (by omega) (by rw [HIC.out]; omega)
    have q1 := HX3.out.lt
    have q2 := HX3.out.hr.1
    have q3 := HX3.out.hb.1
    have q4 := HX3.out.gn.lt
    clear hW3 f03 hj3 c3 cv cr cx HJ0 HXB
    go_wp2
    refine (wpIn_wide (n := 7)).1 ?_
    refine wpIn_rangeFunc_ownB rfl (by omega) (gf := 220) (lb := #[.pointer (some ⟨Wb.heap.size, 0, none⟩), .pointer (some ⟨Wb.heap.size + 1, 0, none⟩), .pointer (some ⟨Wb.heap.size + 1 + 1, 0, none⟩)]) rfl trivial (enters_of Tryz.func220 (by kernel_rfl) rfl)
      ((to_down x L).seq Wb.heap.size (Wb.heap.size + 1) (Wb.heap.size + 1 + 1) v hv (fun k => F k ∨ W3.heap.size ≤ k) (by rintro (h | h); exact f1 h; omega) (by rintro (h | h); exact f2 h; omega) (by rintro (h | h); exact f3 h; omega) (by rintro (h | h); exact f4 h; omega) (by rintro (h | h); exact p1 h; omega) (by rintro (h | h); exact p2 h; omega) W3 HX3.out cxx cvv cff)
      (fun h k => Fr.trans h k) (fun W l o o' hl _ _ _ => fr_putObj W l o' (.inr hl)) (fun W o => (Fr.refl _ W).alloc o) (Below.refl _ _) (fun _ => rfl)
      (fun pre W' => J pre W' ∧ Fr (fun k => F k ∨ W3.heap.size ≤ k) W3 W')
      (fun c pre W' => c = .ret ∧ Jx pre W')
      (OwnFrom.both (OwnFrom.later HJ.out (by omega)) (fun s A B row hs hg hr => ownFrom_fr _ W3 s A B row hs hg hr))
      (fun c s A B row hs hg hr => ⟨hs.1, OwnFrom.later HJX.out (show W.heap.size ≤ W3.heap.size by omega) s A B row hs.2 hg hr⟩)
      (fun pre W' o h => ⟨HJ.out _ _ _ none h.1 (fr_grownBy ((Fr.refl No W').alloc o)) (fun r e => by cases e), h.2.alloc o⟩) (fun pre W' h => h.2.size) ⟨HJ3.out, Fr.refl _ _⟩
      (fun el b' T => (T.setIfInBounds 4 (.int .i64 (x.by_ el.1 : Nat))).setIfInBounds 5 (.pointer (some ⟨b', 0, none⟩))) 117 (fun el => #[.int .i64 (x.rowE v true el.1).w, .int .i64 (x.rowE v true el.1).a, .int .i64 (x.rowE v true el.1).m]) ?assign ?body ?done ?stop
    case assign =>
      intro l el W K hK
      simp only [Ix.rowEnc, En.val]
      gi_wp2
      simpa [Ix.rowEnc, En.val] using hK
    case stop =>
      rintro D c pre W' hD hSp ⟨rfl, hjx⟩ hKD
      refine wpIn_wide.2 ?_
      go_wp2
      refine ⟨by simp, .inl ⟨D, _, rfl, run_takeDeferred hKD, ?_⟩⟩
      exact ⟨_, results_none rfl _ _ _, ⟨_, rfl⟩, .inr ⟨pre, by rw [HL.out]; exact hSp, OwnFrom.putObj (OwnFrom.later HJX.out (show W.heap.size ≤ W3.heap.size by omega)) _ hjx hD hKD rfl⟩⟩
    case done =>
      rintro D ys W' hD hS ⟨hj, hf⟩ hKD
      go_wp2
      refine ⟨by simp, .inl ⟨D, _, rfl, run_takeDeferred hKD, ?_⟩⟩
      exact ⟨_, results_none rfl _ _ _, ⟨_, rfl⟩, .inl ⟨ys, by rw [HL.out]; exact hS, OwnFrom.putObj (OwnFrom.later HJ.out (show W.heap.size ≤ W3.heap.size by omega)) _ hj hD hKD rfl, by have := hf.size; have := HSB.out; rw [HIC.out]; simp; omega⟩⟩
    case body =>
      rintro l' pre el W' b' hl hloop ⟨hj, hf⟩ hlen hb' hcs
      have hyy := (HY.out pre el W' hj (by rw [HL.out]; exact hlen) (by have := hf.size; have := HSB.out; rw [HIC.out]; omega))
      have c34 := hf.cell_some c33 (fun h => h.elim p3 (fun h => by simp only at h; omega))
      have cv4 := hf.cell_some cv3 (fun h => h.elim f6 (fun h => by simp only at h; omega))
      have ce := cell_of hcs 0
      have lce := heap_lt hcs
      have HFW := hid hf
      have hKN : ∀ W5, KeepsFrom W.heap.size W' W5 → KeepsFrom W3.heap.size W' W5 := fun W5 h => ⟨h.size, fun k o hk => h.same k o (by omega)⟩
      have HKN := hid hKN
      unfold inEnc at hyy
      obtain ⟨y, hy⟩ : ∃ y, x.by_ el.1 = y := ⟨_, rfl⟩
      obtain ⟨⟨e0, e1, e2⟩, he⟩ : ∃ e, x.rowE v true el.1 = e := ⟨_, rfl⟩
      simp only [hy, he] at hyy ce
      have HHY := hid hy
      have HEE := hid he
      obtain ⟨fn, tm, asg, bd, hyr, hR⟩ := YieldAt.round (l0 := l') (YieldAt.deep (m' := 4) hyy)
      have HR := hid hR
      clear hyy hcs hf hKN hR hy he hj hloop
      simp only [Ix.rowEnc, En.val, HHY.out, HEE.out]
      gi_wp2_with fail
      refine HR.out.mono ?_
      clear hyr c34 cv4 ce
      rintro e W5 ⟨(⟨rfl, hj5, hk5⟩ | ⟨rfl, hj5⟩), hkf⟩
      · have HJ5 := hid hj5
        have HK5 := hid hk5
        have HKF := hid hkf
        clear hj5 hk5 hkf
        gi_wp2
        exact ⟨HKN.out _ HKF.out, HK5.out.mono (fun k _ h => .inl h), HJ5.out, HFW.out.trans (HK5.out.mono (fun k _ h => .inl h))⟩
      · have HJ5 := hid hj5
        have HKF := hid hkf
        clear hj5 hkf
        gi_wp2
        exact ⟨HKN.out _ HKF.out, rfl, HJ5.out⟩
  · have g1 : decide ((x.rk v : Int) < (fl : Int)) = false := by simp; omega
    have hl : inL x v fl = [] := if_neg hgr
    have HL := hid hl
    clear hl
    go_wp2
    exact ⟨_, results_none rfl _ _ _, ⟨_, rfl⟩, .inl ⟨[], HL.out.symm, HJ0.out, by rw [show inC x v fl = 1 from if_neg hgr]; have := HSB.out; omega⟩⟩

end Go.Proofs.YtoepbhacpidcbaaGreatDoor
