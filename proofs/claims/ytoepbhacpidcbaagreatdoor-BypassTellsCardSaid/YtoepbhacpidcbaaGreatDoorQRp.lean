/- bypass: roads, their ground, the steps' ends; walked. -/
import Derived.Deep.Cut
import Derived.Deep.RegionHeld3
import Derived.Test.YtoepbhacpidcbaaGreatDoorQBase
import Derived.Test.YtoepbhacpidcbaaGreatDoorQIdx
import Derived.Test.YtoepbhacpidcbaaGreatDoorQIdxB
import Derived.Test.YtoepbhacpidcbaaGreatDoorQPerm
import Derived.Test.YtoepbhacpidcbaaGreatDoorQRef
import Derived.Test.YtoepbhacpidcbaaGreatDoorQBig
import Derived.Test.YtoepbhacpidcbaaGreatDoorQUnref
import Derived.Test.YtoepbhacpidcbaaGreatDoorQUnE
import Derived.Test.YtoepbhacpidcbaaGreatDoorQItr
import Derived.Test.YtoepbhacpidcbaaGreatDoorQDst
import Derived.Test.YtoepbhacpidcbaaGreatDoorQLnk
import Derived.Test.YtoepbhacpidcbaaGreatDoorQRow2
import Derived.Test.YtoepbhacpidcbaaGreatDoorQGr
import Derived.Test.YtoepbhacpidcbaaGreatDoorQGOps
import Derived.Test.YtoepbhacpidcbaaGreatDoorQBld
import Derived.Test.YtoepbhacpidcbaaGreatDoorQBW
import Derived.Test.YtoepbhacpidcbaaGreatDoorQHpK
import Derived.Test.YtoepbhacpidcbaaGreatDoorQG8
import Derived.Test.YtoepbhacpidcbaaGreatDoorQSqO
import Derived.Test.YtoepbhacpidcbaaGreatDoorQGoes
import Derived.Test.YtoepbhacpidcbaaGreatDoorQUp
import Derived.Test.YtoepbhacpidcbaaGreatDoorQSetP
import Derived.Test.YtoepbhacpidcbaaGreatDoorQBf

set_option linter.unusedVariables false
set_option linter.unusedSimpArgs false
namespace Go.Proofs.YtoepbhacpidcbaaGreatDoor
open Go.RowKit Go.Deep

/-- Roads: a graph or none, an index, a floor. -/
structure RdM (w : World) (rb : Nat) (gp : Option Addr) (L : IxLoc) (fl : Nat) : Prop where
  g : w.cell? ⟨rb, 0, none⟩ = some (.pointer gp)
  x : w.cell? ⟨rb, 1, none⟩ = some (.pointer (some ⟨L.b, 0, none⟩))
  f : w.cell? ⟨rb, 2, none⟩ = some (.int .i64 (fl : Nat))
theorem RdM.fr {w w' : World} {rb : Nat} {gp : Option Addr} {L : IxLoc} {fl : Nat} (h : RdM w rb gp L fl) {F : Nat → Prop} (hf : Fr F w w') (hF : ¬ F rb) : RdM w' rb gp L fl :=
  ⟨hf.cell_some h.g hF, hf.cell_some h.x hF, hf.cell_some h.f hF⟩
theorem RdM.no {w w' : World} {rb : Nat} {gp : Option Addr} {L : IxLoc} {fl : Nat} (h : RdM w rb gp L fl) (hf : Fr No w w') : RdM w' rb gp L fl := h.fr hf (fun h => h)

set_option maxRecDepth 100000 in
set_option maxHeartbeats 1000000 in
theorem entry_ends (a b : Int) (w : World) :
    Calls Tryz.prog 249 #[.agg #[.int .i64 a, .int .i64 b]] w fun e w' => e = .returned (.tuple #[.int .i64 a, .int .i64 b]) ∧ Fr No w w' := by
  go_enter Tryz.func249, Tryz.ntmps249
  go_wp2_with fail
  have hf := (Fr.refl No w).alloc (.cells #[.int .i64 a, .int .i64 b] 224)
  have c0 := cell_of (heap_new w (.cells #[.int .i64 a, .int .i64 b] 224)) 0
  have c1 := cell_of (heap_new w (.cells #[.int .i64 a, .int .i64 b] 224)) 1
  generalize w.alloc (.cells #[.int .i64 a, .int .i64 b] 224) = W at hf c0 c1 ⊢
  have k0 : ∀ nn : Fam W, nn.v.cell? ⟨w.heap.size, 0, none⟩ = some (.int .i64 a) := Fam.cell c0
  have k1 : ∀ nn : Fam W, nn.v.cell? ⟨w.heap.size, 1, none⟩ = some (.int .i64 b) := Fam.cell c1
  have F0 := hid hf
  clear hf c0 c1
  refine wp_region_fam (by kernel_rfl) (by kernel_rfl) ?_
  repeat (go_big_quiet_step (fail))
  refine wpQuiet_nil ?_
  rintro w7 ⟨⟨w7, hf7⟩, rfl⟩
  have F7 := hid (F0.out.trans hf7)
  clear hf7 k0 k1
  go_wp2
  go_ret2
  exact ⟨rfl, F7.out⟩

set_option maxRecDepth 100000 in
set_option maxHeartbeats 1000000 in
theorem arc_ends (i t h g : Int) (c : Bool) (w : World) :
    Calls Tryz.prog 250 #[.agg #[.int .i64 i, .int .i64 t, .int .i64 h, .int .i64 g, .bool c]] w fun e w' => e = .returned (.tuple #[.int .i64 t, .int .i64 h]) ∧ Fr No w w' := by
  go_enter Tryz.func250, Tryz.ntmps250
  go_wp2_with fail
  have hf := (Fr.refl No w).alloc (.cells #[.int .i64 i, .int .i64 t, .int .i64 h, .int .i64 g, .bool c] 252)
  have c0 := cell_of (heap_new w (.cells #[.int .i64 i, .int .i64 t, .int .i64 h, .int .i64 g, .bool c] 252)) 1
  have c1 := cell_of (heap_new w (.cells #[.int .i64 i, .int .i64 t, .int .i64 h, .int .i64 g, .bool c] 252)) 2
  generalize w.alloc (.cells #[.int .i64 i, .int .i64 t, .int .i64 h, .int .i64 g, .bool c] 252) = W at hf c0 c1 ⊢
  have k0 : ∀ nn : Fam W, nn.v.cell? ⟨w.heap.size, 1, none⟩ = some (.int .i64 t) := Fam.cell c0
  have k1 : ∀ nn : Fam W, nn.v.cell? ⟨w.heap.size, 2, none⟩ = some (.int .i64 h) := Fam.cell c1
  have F0 := hid hf
  clear hf c0 c1
  refine wp_region_fam (by kernel_rfl) (by kernel_rfl) ?_
  repeat (go_big_quiet_step (fail))
  refine wpQuiet_nil ?_
  rintro w7 ⟨⟨w7, hf7⟩, rfl⟩
  have F7 := hid (F0.out.trans hf7)
  clear hf7 k0 k1
  go_wp2
  go_ret2
  exact ⟨rfl, F7.out⟩

set_option maxRecDepth 100000 in
set_option maxHeartbeats 1000000 in
theorem ground_calls {w : World} {L : IxLoc} {x : Ix} {rb : Nat} {gp : Option Addr} {fl : Nat} (h : IxMem w L x) (hr : RdM w rb gp L fl) (v : Int) :
    Calls Tryz.prog 135 #[.pointer (some ⟨rb, 0, none⟩), .int .i64 v] w fun e w' => e = .returned (.bool (decide (x.rank v < fl))) ∧ w' = w.drew := by
  have hrk := rank_calls (h.no (Fr.refl No w).drew) v
  obtain ⟨rv, ev⟩ : ∃ r, x.rank v = r := ⟨_, rfl⟩
  rw [ev] at hrk ⊢
  have HRK := hid hrk
  have k1 := hr.x
  have k2 := hr.f
  clear h hr ev hrk
  go_enter Tryz.func135, Tryz.ntmps135
  go_wp2_with fail
  go_region_with (go_at_call 102; refine HRK.out.mono ?_; rintro e w' ⟨rfl, hw⟩; subst hw)
  all_goals (go_wp2; go_ret; exact ⟨rfl, rfl⟩)

theorem flr_eq (n : Nat) (floor : Int) : ((flr n floor : Nat) : Int) = min (max floor 0) (n : Int) := by
  unfold flr
  by_cases h1 : floor < 0
  · rw [if_pos h1]; omega
  · rw [if_neg h1]
    by_cases h2 : (n : Int) < floor
    · rw [if_pos h2]; omega
    · rw [if_neg h2, Int.toNat_of_nonneg (by omega)]; omega

def MadeR22 (w : World) (gp : Option Addr) (L : IxLoc) (fl : Nat) (e : Ending) (w' : World) : Prop :=
  ∃ rb : Nat, e = .returned (.tuple #[.pointer (some ⟨rb, 0, none⟩), .int .i64 0]) ∧ Fr No w w' ∧ w.heap.size ≤ rb ∧ RdM w' rb gp L fl

set_option maxRecDepth 100000 in
set_option maxHeartbeats 4000000 in
theorem made22_yes {w : World} {L : IxLoc} {x : Ix} (h : IxMem w L x) (gp : Option Addr) (floor : Int) (A : Option Addr) (m c : Nat) (f : Nat → Int) (ha : IntsF w A m f) (hm : m ≤ 24) (hv : ∀ j, j < m → 0 ≤ x.rank (f j)) :
    Calls Tryz.prog 62 #[.pointer gp, .pointer (some ⟨L.b, 0, none⟩), .int .i64 floor, .slice A m c] w (MadeR22 w gp L (flr x.n floor)) := by
  have H := hid h
  have HA := hid ha
  have HV := hid hv
  have hn := h.ok.n2
  clear h ha hv
  go_enter Tryz.func62, Tryz.ntmps62
  go_wp2
  go_loopg [14] (m + 1) (fun gk p wr => ∃ k : Nat, p = .int .i64 k ∧ k ≤ m ∧ gk = m + 1 - k ∧ Fr No w wr)
  case atStart => exact ⟨0, rfl, by omega, rfl, Fr.refl _ _⟩
  case round =>
    obtain ⟨k, rfl, hk, hgk, hf⟩ := hrel
    have HGK := hid hgk
    have HF := hid hf
    clear hgk hf
    by_cases hlt : k < m
    · have hlt2 : (k : Int) < m := by omega
      obtain ⟨bA, off, rfl, hc⟩ := HA.out (by omega)
      have s1 := HF.out.cell_some (hc k hlt) (fun h => h)
      have hge := HV.out k hlt
      have hrk := rank_calls (H.out.no HF.out) (f k)
      obtain ⟨rk, erk⟩ : ∃ r, x.rank (f k) = r := ⟨_, rfl⟩
      obtain ⟨fk, efk⟩ : ∃ r, f k = r := ⟨_, rfl⟩
      rw [efk] at s1 hrk
      rw [← efk, erk] at hrk
      rw [erk] at hge
      rw [efk] at hrk
      have HRK := hid hrk
      have g1 : decide (rk < 0) = false := by simp; exact hge
      clear hc hrk erk efk hge
      go_wp2_with fail
      refine HRK.out.mono ?_
      rintro e w2 ⟨rfl, hw⟩
      subst hw
      clear s1
      go_wp2
      go_roundg (m + 1 - (k + 1))
      case measure => have := HGK.out; omega
      case rel => exact ⟨k + 1, by go_num, by omega, rfl, HF.out⟩
    · obtain rfl : k = m := by omega
      go_wp2_with fail
      refine (vertices_calls (H.out.no HF.out)).mono ?_
      rintro e w2 ⟨rfl, hf2⟩
      have F2 := hid (HF.out.trans hf2)
      clear hf2
      go_wp2
      go_ret2
      have hb := heap_new w2 (.cells #[.pointer gp, .pointer (some ⟨L.b, 0, none⟩), .int .i64 (min (max floor 0) (x.n : Int))] 211)
      refine ⟨w2.heap.size, rfl, F2.out.alloc _, F2.out.size, cell_of hb 0, cell_of hb 1, ?_⟩
      rw [flr_eq]
      exact cell_of hb 2
set_option maxRecDepth 100000 in
set_option maxHeartbeats 4000000 in
theorem made22_no {w : World} {L : IxLoc} {x : Ix} (h : IxMem w L x) (gp : Option Addr) (floor : Int) (A : Option Addr) (m c : Nat) (f : Nat → Int) (ha : IntsF w A m f) (hm : m ≤ 24) (hv : ∃ j, j < m ∧ x.rank (f j) < 0) :
    Calls Tryz.prog 62 #[.pointer gp, .pointer (some ⟨L.b, 0, none⟩), .int .i64 floor, .slice A m c] w fun e w' => e = .returned (.tuple #[.pointer none, .int .i64 1]) ∧ Fr No w w' := by
  have H := hid h
  have HA := hid ha
  have HV := hid hv
  clear h ha hv
  go_enter Tryz.func62, Tryz.ntmps62
  go_wp2
  go_loopg [14] (m + 1) (fun gk p wr => ∃ k : Nat, p = .int .i64 k ∧ k ≤ m ∧ gk = m + 1 - k ∧ Fr No w wr ∧ ∀ j, j < k → 0 ≤ x.rank (f j))
  case atStart => exact ⟨0, rfl, by omega, rfl, Fr.refl _ _, fun j hj => by omega⟩
  case round =>
    obtain ⟨k, rfl, hk, hgk, hf, hall⟩ := hrel
    have HGK := hid hgk
    have HF := hid hf
    have HALL := hid hall
    clear hgk hf hall
    by_cases hlt : k < m
    · have hlt2 : (k : Int) < m := by omega
      obtain ⟨bA, off, rfl, hc⟩ := HA.out (by omega)
      have s1 := HF.out.cell_some (hc k hlt) (fun h => h)
      have hrk := rank_calls (H.out.no HF.out) (f k)
      obtain ⟨rk, erk⟩ : ∃ r, x.rank (f k) = r := ⟨_, rfl⟩
      rw [erk] at hrk
      obtain ⟨fk, efk⟩ : ∃ r, f k = r := ⟨_, rfl⟩
      rw [efk] at s1 hrk
      have HRK := hid hrk
      have ERK := hid erk
      clear hc hrk erk efk
      by_cases hneg : rk < 0
      · have g1 : decide (rk < 0) = true := by simp; exact hneg
        go_wp2_with fail
        refine HRK.out.mono ?_
        rintro e w2 ⟨rfl, hw⟩
        subst hw
        clear s1
        go_wp2
        go_ret2
        exact ⟨rfl, HF.out⟩
      · have g1 : decide (rk < 0) = false := by simp; omega
        go_wp2_with fail
        refine HRK.out.mono ?_
        rintro e w2 ⟨rfl, hw⟩
        subst hw
        clear s1
        go_wp2
        go_roundg (m + 1 - (k + 1))
        case measure => have := HGK.out; omega
        case rel => exact ⟨k + 1, by go_num, by omega, rfl, HF.out, fun j hj => by
          by_cases e : j = k
          · rw [e, ERK.out]; omega
          · exact HALL.out j (by omega)⟩
    · obtain rfl : k = m := by omega
      obtain ⟨j, hj, hneg⟩ := HV.out
      have := HALL.out j hj
      omega

end Go.Proofs.YtoepbhacpidcbaaGreatDoor
/- bypass: what hands back the steps' iterators. -/
set_option linter.unusedVariables false
namespace Go.Proofs.YtoepbhacpidcbaaGreatDoor
open Go.RowKit Go.Deep

set_option maxRecDepth 100000 in
set_option maxHeartbeats 1000000 in
theorem rins_calls (rb : Nat) (v : Int) (w : World) :
    Calls Tryz.prog 66 #[.pointer (some ⟨rb, 0, none⟩), .int .i64 v] w fun e w' => e = .returned (.func (.func 139) #[] #[.pointer (some ⟨w.heap.size, 0, none⟩), .pointer (some ⟨w.heap.size + 1, 0, none⟩)]) ∧
      w' = (w.alloc (.cells #[.pointer (some ⟨rb, 0, none⟩)] 124)).alloc (.cells #[.int .i64 v] 3) := by
  go_enter Tryz.func66, Tryz.ntmps66
  go_wp2
  go_ret
  exact ⟨by simp, rfl⟩

set_option maxRecDepth 100000 in
set_option maxHeartbeats 1000000 in
theorem routs_calls (rb : Nat) (v : Int) (w : World) :
    Calls Tryz.prog 65 #[.pointer (some ⟨rb, 0, none⟩), .int .i64 v] w fun e w' => e = .returned (.func (.func 134) #[] #[.pointer (some ⟨w.heap.size, 0, none⟩), .pointer (some ⟨w.heap.size + 1, 0, none⟩)]) ∧
      w' = (w.alloc (.cells #[.pointer (some ⟨rb, 0, none⟩)] 124)).alloc (.cells #[.int .i64 v] 3) := by
  go_enter Tryz.func65, Tryz.ntmps65
  go_wp2
  go_ret
  exact ⟨by simp, rfl⟩

set_option maxRecDepth 100000 in
set_option maxHeartbeats 1000000 in
theorem ruppers_calls (rb : Nat) (v : Int) (w : World) :
    Calls Tryz.prog 137 #[.pointer (some ⟨rb, 0, none⟩), .int .i64 v] w fun e w' => e = .returned (.func (.func 193) #[] #[.pointer (some ⟨w.heap.size, 0, none⟩), .pointer (some ⟨w.heap.size + 1, 0, none⟩)]) ∧
      w' = (w.alloc (.cells #[.pointer (some ⟨rb, 0, none⟩)] 124)).alloc (.cells #[.int .i64 v] 3) := by
  go_enter Tryz.func137, Tryz.ntmps137
  go_wp2
  go_ret
  exact ⟨by simp, rfl⟩

set_option maxRecDepth 100000 in
set_option maxHeartbeats 1000000 in
theorem rdives_calls (rb : Nat) (v : Int) (w : World) :
    Calls Tryz.prog 138 #[.pointer (some ⟨rb, 0, none⟩), .int .i64 v] w fun e w' => e = .returned (.func (.func 195) #[] #[.pointer (some ⟨w.heap.size, 0, none⟩), .pointer (some ⟨w.heap.size + 1, 0, none⟩)]) ∧
      w' = (w.alloc (.cells #[.pointer (some ⟨rb, 0, none⟩)] 124)).alloc (.cells #[.int .i64 v] 3) := by
  go_enter Tryz.func138, Tryz.ntmps138
  go_wp2
  go_ret
  exact ⟨by simp, rfl⟩

end Go.Proofs.YtoepbhacpidcbaaGreatDoor
/- ringroadref16.Between: how far it is by way of lower ones, as the document says; walked. -/
set_option linter.unusedVariables false
set_option linter.unusedSimpArgs false
namespace Go.Proofs.YtoepbhacpidcbaaGreatDoor
open Go.RowKit Go.Deep

/-- A square of 24 lies at B: its first n rows and places hold D. -/
def Sq (W : World) (B n : Nat) (D : Mat) : Prop := ∃ M : Nat → Int, Blk W B 576 103 (fun i => .int .i64 (M i)) ∧ ∀ i j, i < n → j < n → M (i * 24 + j) = D i j
theorem Sq.fr {W W' : World} {B n : Nat} {D : Mat} (h : Sq W B n D) {F : Nat → Prop} (hf : Fr F W W') (hF : ¬ F B) : Sq W' B n D := by
  obtain ⟨M, h1, h2⟩ := h
  exact ⟨M, h1.fr hf hF, h2⟩
theorem Sq.cell {W : World} {B n : Nat} {D : Mat} (h : Sq W B n D) (hn : n ≤ 24) {i j : Nat} (hi : i < n) (hj : j < n) : W.cell? ⟨B, i * 24 + j, none⟩ = some (.int .i64 (D i j)) := by
  obtain ⟨M, h1, h2⟩ := h
  rw [h1.cell (show i * 24 + j < 576 by omega), h2 i j hi hj]
theorem Sq.frozen {W : World} {B n : Nat} {D : Mat} (h : Sq W B n D) (i : Nat) : W.frozen? ⟨B, i, none⟩ = false := by
  obtain ⟨M, h1, _⟩ := h
  exact h1.frozen i
theorem Sq.lt {W : World} {B n : Nat} {D : Mat} (h : Sq W B n D) : B < W.heap.size := by
  obtain ⟨M, h1, _⟩ := h
  exact h1.lt
theorem Sq.set {W : World} {B n : Nat} {D : Mat} (h : Sq W B n D) (hn : n ≤ 24) {a b : Nat} (ha : a < n) (hb : b < n) (z : Int) : Sq (W.setCell ⟨B, a * 24 + b, none⟩ (.int .i64 z)) B n (upd2 D a b z) := by
  obtain ⟨M, h1, h2⟩ := h
  refine ⟨fun k => if k = a * 24 + b then z else M k, (h1.setCell (a * 24 + b) (.int .i64 z)).congr (fun k hk => ?_), fun i j hi hj => ?_⟩
  · show (if k = a * 24 + b then Value.int .i64 z else Value.int .i64 (M k)) = Value.int .i64 (if k = a * 24 + b then z else M k)
    split <;> rfl
  · show (if i * 24 + j = a * 24 + b then z else M (i * 24 + j)) = if i = a ∧ j = b then z else D i j
    by_cases e : i = a ∧ j = b
    · rw [if_pos e, if_pos (by omega)]
    · rw [if_neg e, if_neg (by omega)]; exact h2 i j hi hj
theorem Sq.congr {W : World} {B n : Nat} {D D' : Mat} (h : Sq W B n D) (e : ∀ i j, i < n → j < n → D i j = D' i j) : Sq W B n D' := by
  obtain ⟨M, h1, h2⟩ := h
  exact ⟨M, h1, fun i j hi hj => (h2 i j hi hj).trans (e i j hi hj)⟩
end Go.Proofs.YtoepbhacpidcbaaGreatDoor
/- bypass: the steps of ways out from a ground vertex, as an iterator that ranges over another one. -/
set_option linter.unusedVariables false
set_option linter.unusedSimpArgs false
namespace Go.Proofs.YtoepbhacpidcbaaGreatDoor
open Go.RowKit Go.Shelf Go.Deep

attribute [local go_sem] Oper.semAt_some

def outEnc (x : Ix) (v : Nat) (el : x.RowEl v false) : Array Value := #[.iface 224 (.agg #[.int .i64 (v : Nat), .int .i64 (x.by_ el.1 : Nat)]), .int .i64 (x.rowE v false el.1).w]

set_option maxRecDepth 100000 in
set_option maxHeartbeats 4000000 in
theorem out1_low {x : Ix} {L : IxLoc} (Br Bv rb v fl : Nat) (gp : Option Addr) (hv : v < x.n) (hgr : x.rk v < fl) (F : Nat → Prop) (f1 : ¬ F L.b) (f2 : ¬ F L.br) (f3 : ¬ F L.bb) (f4 : ¬ F 0) (f5 : ¬ F Br) (f6 : ¬ F Bv) (f7 : ¬ F rb) (w : World) (h : IxMem w L x) (hrd : RdM w rb gp L fl)
    (hbr : w.cell? ⟨Br, 0, none⟩ = some (.pointer (some ⟨rb, 0, none⟩))) (hbv : w.cell? ⟨Bv, 0, none⟩ = some (.int .i64 (v : Nat))) (N0 : Nat) (hF : ∀ k, N0 ≤ k → k < N0 + 4 → ¬ F k) :
    SeqO Fence.wide 7 Tryz.prog 134 #[.pointer (some ⟨Br, 0, none⟩), .pointer (some ⟨Bv, 0, none⟩)] (outEnc x v) (Fr F) (fun ys => ys = x.rowTo v false 24) (fun pre => pre <+: x.rowTo v false 24) (x.rowTo v false 24).length N0 4 w := fun l J Jx W hW hN hJ hJx hY h0 => by
  subst hN
  have hf0 := Fr.of_below hW
  have hra : x.rank (v : Nat) = x.rk v := by unfold Ix.rank; rw [if_pos ⟨by omega, by omega⟩]; simp
  have HRA := hid hra
  have HX := hid (h.no hf0)
  have HRD := hid (hrd.no hf0)
  have cr := hf0.cell_some hbr (fun h => h)
  have cv := hf0.cell_some hbv (fun h => h)
  have lr := cell_lt cr
  have lv := cell_lt cv
  have lrb := cell_lt HRD.out.x
  simp only at lr lv lrb
  have HJ := hid hJ
  have HJX := hid hJx
  have HY := hid hY
  have H0 := hid h0
  have HFF := hid hF
  have hn := h.ok.n2
  clear hW hJ hJx hY h0 h hrd hbr hbv hra hf0 hF
  refine callsIn_of_wp_marks Tryz.func134 rfl trivial ?_ rfl
  refine wpIn_wide.2 ?_
  simp only [Tryz.ntmps134, List.size_toArray, List.length_cons, List.length_nil, Nat.reduceAdd, Nat.reduceSub, Array.replicate_succ, Array.replicate_zero, List.push_toArray, List.append_toArray, List.nil_append, List.cons_append]
  go_wp2_with fail
  have fa : Fr No W (W.alloc (.cells #[.func (.yield l) #[] #[]] 219)) := (Fr.refl No W).alloc _
  refine (ground_calls (HX.out.no fa) (HRD.out.no fa) (v : Nat)).mono ?_
  rw [HRA.out]
  rintro e w1 ⟨rfl, rfl⟩
  have fb : Fr No W (W.alloc (.cells #[.func (.yield l) #[] #[]] 219)).drew := fa.drew
  have hsb : (W.alloc (.cells #[.func (.yield l) #[] #[]] 219)).drew.heap.size = W.heap.size + 1 := by simp
  have c3 : (W.alloc (.cells #[.func (.yield l) #[] #[]] 219)).drew.cell? ⟨W.heap.size, 0, none⟩ = some (.func (.yield l) #[] #[]) := by simp [go_sem]
  have hj0 : J [] (W.alloc (.cells #[.func (.yield l) #[] #[]] 219)).drew := HJ.out _ _ _ none H0.out (fr_grownBy fb) (fun r e => by cases e)
  generalize (W.alloc (.cells #[.func (.yield l) #[] #[]] 219)).drew = Wb at fb hsb c3 hj0 ⊢
  have cr := fb.cell_some cr (fun h => h)
  have cv := fb.cell_some cv (fun h => h)
  have cx := fb.cell_some HRD.out.x (fun h => h)
  have HXB := hid (HX.out.no fb)
  have FB := hid fb
  have HJ0 := hid hj0
  have HSB := hid hsb
  have lr : Br < Wb.heap.size := cell_lt cr
  have lv : Bv < Wb.heap.size := cell_lt cv
  have lrb : rb < Wb.heap.size := cell_lt cx
  have l3 : W.heap.size < Wb.heap.size := cell_lt c3
  clear fa fb hj0 H0 HX hsb
  · have g1 : decide ((x.rk v : Int) < (fl : Int)) = true := by simp; exact hgr
    go_wp2_with fail
    go_still_tail 5, (by kernel_rfl)
    go_wp2_with fail
    refine (up_calls L.b (v : Nat) _).mono ?_
    rintro e W3 ⟨rfl, hW3⟩
    have f03 : Fr No Wb W3 := by rw [hW3]; exact ((((Fr.refl No Wb).drew).alloc _).alloc _).alloc _
    have cxx : W3.cell? ⟨Wb.heap.size, 0, none⟩ = some (.pointer (some ⟨L.b, 0, none⟩)) := by rw [hW3]; simp [go_sem]
    have cvv : W3.cell? ⟨Wb.heap.size + 1, 0, none⟩ = some (.int .i64 (v : Nat)) := by rw [hW3]; simp [go_sem]
    have cff : W3.cell? ⟨Wb.heap.size + 1 + 1, 0, none⟩ = some (.func (.func 192) #[] #[]) := by rw [hW3]; simp [go_sem]
    have hsz : Wb.heap.size + 3 ≤ W3.heap.size := by rw [hW3]; simp
    have c33 := f03.cell_some c3 (fun h => h)
    have cv3 := f03.cell_some cv (fun h => h)
    have hj3 : J [] W3 := HJ.out _ _ _ none HJ0.out (fr_grownBy f03) (fun r e => by cases e)
    have HX3 := hid (HXB.out.no f03)
    have HJ3 := hid hj3
    have p1 : ¬ F Wb.heap.size := HFF.out _ (by omega) (by have := HSB.out; omega)
    have p2 : ¬ F (Wb.heap.size + 1) := HFF.out _ (by omega) (by have := HSB.out; omega)
    have p3 : ¬ F W.heap.size := HFF.out _ (by omega) (by omega)
    have q1 := HX3.out.lt
    have q2 := HX3.out.hr.1
    have q3 := HX3.out.hb.1
    have q4 := HX3.out.gn.lt
    clear hW3 f03 hj3 c3 cv cr cx HJ0 HXB
    go_wp2
    refine (wpIn_wide (n := 7)).1 ?_
    refine wpIn_rangeFunc_ownB rfl (by omega) (gf := 220) (lb := #[.pointer (some ⟨Wb.heap.size, 0, none⟩), .pointer (some ⟨Wb.heap.size + 1, 0, none⟩), .pointer (some ⟨Wb.heap.size + 1 + 1, 0, none⟩)]) rfl trivial (enters_of Tryz.func220 (by kernel_rfl) rfl)
      ((to_up x L).seq Wb.heap.size (Wb.heap.size + 1) (Wb.heap.size + 1 + 1) v hv (fun k => F k ∨ W3.heap.size ≤ k) (by rintro (h | h); exact f1 h; omega) (by rintro (h | h); exact f2 h; omega) (by rintro (h | h); exact f3 h; omega) (by rintro (h | h); exact f4 h; omega) (by rintro (h | h); exact p1 h; omega) (by rintro (h | h); exact p2 h; omega) W3 HX3.out cxx cvv cff)
      (fun h k => Fr.trans h k) (fun W l o o' hl _ _ _ => fr_putObj W l o' (.inr hl)) (fun W o => (Fr.refl _ W).alloc o) (Below.refl _ _) (fun _ => rfl)
      (fun pre W' => J pre W' ∧ Fr (fun k => F k ∨ W3.heap.size ≤ k) W3 W')
      (fun c pre W' => c = .ret ∧ Jx pre W')
      (OwnFrom.both (OwnFrom.later HJ.out (by omega)) (fun s A B row hs hg hr => ownFrom_fr _ W3 s A B row hs hg hr))
      (fun c s A B row hs hg hr => ⟨hs.1, OwnFrom.later HJX.out (show W.heap.size ≤ W3.heap.size by omega) s A B row hs.2 hg hr⟩)
      (fun pre W' o h => ⟨HJ.out _ _ _ none h.1 (fr_grownBy ((Fr.refl No W').alloc o)) (fun r e => by cases e), h.2.alloc o⟩) (fun pre W' h => h.2.size) ⟨HJ3.out, Fr.refl _ _⟩
      (fun el b' T => (T.setIfInBounds 4 (.int .i64 (x.by_ el.1 : Nat))).setIfInBounds 5 (.pointer (some ⟨b', 0, none⟩))) 117 (fun el => #[.int .i64 (x.rowE v false el.1).w, .int .i64 (x.rowE v false el.1).a, .int .i64 (x.rowE v false el.1).m]) ?assign ?body ?done ?stop
    case assign =>
      intro l el W K hK
      simp only [Ix.rowEnc, En.val]
      gi_wp2
      simpa [Ix.rowEnc, En.val] using hK
    case stop =>
      rintro D c pre W' hD hSp ⟨rfl, hjx⟩ hKD
      refine wpIn_wide.2 ?_
      go_wp2
      refine ⟨by simp, .inl ⟨D, _, rfl, run_takeDeferred hKD, ?_⟩⟩
      exact ⟨_, results_none rfl _ _ _, ⟨_, rfl⟩, .inr ⟨pre, by exact hSp, OwnFrom.putObj (OwnFrom.later HJX.out (show W.heap.size ≤ W3.heap.size by omega)) _ hjx hD hKD rfl⟩⟩
    case done =>
      rintro D ys W' hD hS ⟨hj, hf⟩ hKD
      go_wp2
      refine ⟨by simp, .inl ⟨D, _, rfl, run_takeDeferred hKD, ?_⟩⟩
      exact ⟨_, results_none rfl _ _ _, ⟨_, rfl⟩, .inl ⟨ys, by exact hS, OwnFrom.putObj (OwnFrom.later HJ.out (show W.heap.size ≤ W3.heap.size by omega)) _ hj hD hKD rfl, by have := hf.size; have := HSB.out; simp; omega⟩⟩
    case body =>
      rintro l' pre el W' b' hl hloop ⟨hj, hf⟩ hlen hb' hcs
      have hyy := (HY.out pre el W' hj hlen (by have := hf.size; have := HSB.out; omega))
      have c34 := hf.cell_some c33 (fun h => h.elim p3 (fun h => by simp only at h; omega))
      have cv4 := hf.cell_some cv3 (fun h => h.elim f6 (fun h => by simp only at h; omega))
      have ce := cell_of hcs 0
      have lce := heap_lt hcs
      have HFW := hid hf
      have hKN : ∀ W5, KeepsFrom W.heap.size W' W5 → KeepsFrom W3.heap.size W' W5 := fun W5 h => ⟨h.size, fun k o hk => h.same k o (by omega)⟩
      have HKN := hid hKN
      unfold outEnc at hyy
      obtain ⟨y, hy⟩ : ∃ y, x.by_ el.1 = y := ⟨_, rfl⟩
      obtain ⟨⟨e0, e1, e2⟩, he⟩ : ∃ e, x.rowE v false el.1 = e := ⟨_, rfl⟩
      simp only [hy, he] at hyy ce
      have HHY := hid hy
      have HEE := hid he
      obtain ⟨fn, tm, asg, bd, hyr, hR⟩ := YieldAt.round (l0 := l') (YieldAt.deep (m' := 4) hyy)
      have HR := hid hR
      clear hyy hcs hf hKN hR hy he hj hloop
      simp only [Ix.rowEnc, En.val, HHY.out, HEE.out]
      gi_wp2_with fail
      refine HR.out.mono ?_
      clear hyr c34 cv4 ce
      rintro e W5 ⟨(⟨rfl, hj5, hk5⟩ | ⟨rfl, hj5⟩), hkf⟩
      · have HJ5 := hid hj5
        have HK5 := hid hk5
        have HKF := hid hkf
        clear hj5 hk5 hkf
        gi_wp2
        exact ⟨HKN.out _ HKF.out, HK5.out.mono (fun k _ h => .inl h), HJ5.out, HFW.out.trans (HK5.out.mono (fun k _ h => .inl h))⟩
      · have HJ5 := hid hj5
        have HKF := hid hkf
        clear hj5 hkf
        gi_wp2
        exact ⟨HKN.out _ HKF.out, rfl, HJ5.out⟩

end Go.Proofs.YtoepbhacpidcbaaGreatDoor
/- bypass: the steps of ways in, as an iterator that ranges over another one. -/
set_option linter.unusedVariables false
set_option linter.unusedSimpArgs false
namespace Go.Proofs.YtoepbhacpidcbaaGreatDoor
open Go.RowKit Go.Shelf Go.Deep

attribute [local go_sem] Oper.semAt_some

def inL (x : Ix) (v fl : Nat) : List (x.RowEl v true) := if x.rk v < fl then x.rowTo v true 24 else []
def inC (x : Ix) (v fl : Nat) : Nat := if x.rk v < fl then 4 else 1
def inEnc (x : Ix) (v : Nat) (el : x.RowEl v true) : Array Value := #[.iface 224 (.agg #[.int .i64 (x.by_ el.1 : Nat), .int .i64 (v : Nat)]), .int .i64 (x.rowE v true el.1).w]

set_option maxRecDepth 100000 in
set_option maxHeartbeats 4000000 in
theorem in1_seq {x : Ix} {L : IxLoc} (Br Bv rb v fl : Nat) (gp : Option Addr) (hv : v < x.n) (F : Nat → Prop) (f1 : ¬ F L.b) (f2 : ¬ F L.br) (f3 : ¬ F L.bb) (f4 : ¬ F 0) (f5 : ¬ F Br) (f6 : ¬ F Bv) (f7 : ¬ F rb) (w : World) (h : IxMem w L x) (hrd : RdM w rb gp L fl)
    (hbr : w.cell? ⟨Br, 0, none⟩ = some (.pointer (some ⟨rb, 0, none⟩))) (hbv : w.cell? ⟨Bv, 0, none⟩ = some (.int .i64 (v : Nat))) (N0 : Nat) (hF : ∀ k, N0 ≤ k → k < N0 + inC x v fl → ¬ F k) :
    SeqO Fence.wide 7 Tryz.prog 139 #[.pointer (some ⟨Br, 0, none⟩), .pointer (some ⟨Bv, 0, none⟩)] (inEnc x v) (Fr F) (fun ys => ys = inL x v fl) (fun pre => pre <+: inL x v fl) (inL x v fl).length N0 (inC x v fl) w := fun l J Jx W hW hN hJ hJx hY h0 => by
  subst hN
  have hf0 := Fr.of_below hW
  have hra : x.rank (v : Nat) = x.rk v := by unfold Ix.rank; rw [if_pos ⟨by omega, by omega⟩]; simp
  have HRA := hid hra
  have HX := hid (h.no hf0)
  have HRD := hid (hrd.no hf0)
  have cr := hf0.cell_some hbr (fun h => h)
  have cv := hf0.cell_some hbv (fun h => h)
  have lr := cell_lt cr
  have lv := cell_lt cv
  have lrb := cell_lt HRD.out.x
  simp only at lr lv lrb
  have HJ := hid hJ
  have HJX := hid hJx
  have HY := hid hY
  have H0 := hid h0
  have HFF := hid hF
  have hn := h.ok.n2
  clear hW hJ hJx hY h0 h hrd hbr hbv hra hf0 hF
  refine callsIn_of_wp_marks Tryz.func139 rfl trivial ?_ rfl
  refine wpIn_wide.2 ?_
  simp only [Tryz.ntmps139, List.size_toArray, List.length_cons, List.length_nil, Nat.reduceAdd, Nat.reduceSub, Array.replicate_succ, Array.replicate_zero, List.push_toArray, List.append_toArray, List.nil_append, List.cons_append]
  go_wp2_with fail
  have fa : Fr No W (W.alloc (.cells #[.func (.yield l) #[] #[]] 219)) := (Fr.refl No W).alloc _
  refine (ground_calls (HX.out.no fa) (HRD.out.no fa) (v : Nat)).mono ?_
  rw [HRA.out]
  rintro e w1 ⟨rfl, rfl⟩
  have fb : Fr No W (W.alloc (.cells #[.func (.yield l) #[] #[]] 219)).drew := fa.drew
  have hsb : (W.alloc (.cells #[.func (.yield l) #[] #[]] 219)).drew.heap.size = W.heap.size + 1 := by simp
  have c3 : (W.alloc (.cells #[.func (.yield l) #[] #[]] 219)).drew.cell? ⟨W.heap.size, 0, none⟩ = some (.func (.yield l) #[] #[]) := by simp [go_sem]
  have hj0 : J [] (W.alloc (.cells #[.func (.yield l) #[] #[]] 219)).drew := HJ.out _ _ _ none H0.out (fr_grownBy fb) (fun r e => by cases e)
  generalize (W.alloc (.cells #[.func (.yield l) #[] #[]] 219)).drew = Wb at fb hsb c3 hj0 ⊢
  have cr := fb.cell_some cr (fun h => h)
  have cv := fb.cell_some cv (fun h => h)
  have cx := fb.cell_some HRD.out.x (fun h => h)
  have HXB := hid (HX.out.no fb)
  have FB := hid fb
  have HJ0 := hid hj0
  have HSB := hid hsb
  have lr : Br < Wb.heap.size := cell_lt cr
  have lv : Bv < Wb.heap.size := cell_lt cv
  have lrb : rb < Wb.heap.size := cell_lt cx
  have l3 : W.heap.size < Wb.heap.size := cell_lt c3
  clear fa fb hj0 H0 HX hsb
  by_cases hgr : x.rk v < fl
  · have g1 : decide ((x.rk v : Int) < (fl : Int)) = true := by simp; exact hgr
    have hl : inL x v fl = x.rowTo v true 24 := if_pos hgr
    have HL := hid hl
    have hic : inC x v fl = 4 := if_pos hgr
    have HIC := hid hic
    clear hl hic
    go_wp2_with fail
    go_still_tail 5, (by kernel_rfl)
    go_wp2_with fail
    refine (down_calls L.b (v : Nat) _).mono ?_
    rintro e W3 ⟨rfl, hW3⟩
    have f03 : Fr No Wb W3 := by rw [hW3]; exact ((((Fr.refl No Wb).drew).alloc _).alloc _).alloc _
    have cxx : W3.cell? ⟨Wb.heap.size, 0, none⟩ = some (.pointer (some ⟨L.b, 0, none⟩)) := by rw [hW3]; simp [go_sem]
    have cvv : W3.cell? ⟨Wb.heap.size + 1, 0, none⟩ = some (.int .i64 (v : Nat)) := by rw [hW3]; simp [go_sem]
    have cff : W3.cell? ⟨Wb.heap.size + 1 + 1, 0, none⟩ = some (.func (.func 196) #[] #[]) := by rw [hW3]; simp [go_sem]
    have hsz : Wb.heap.size + 3 ≤ W3.heap.size := by rw [hW3]; simp
    have c33 := f03.cell_some c3 (fun h => h)
    have cv3 := f03.cell_some cv (fun h => h)
    have hj3 : J [] W3 := HJ.out _ _ _ none HJ0.out (fr_grownBy f03) (fun r e => by cases e)
    have HX3 := hid (HXB.out.no f03)
    have HJ3 := hid hj3
    have p1 : ¬ F Wb.heap.size := HFF.out _ (by omega) (by have := HSB.out; rw [HIC.out]; omega)
    have p2 : ¬ F (Wb.heap.size + 1) := HFF.out _ (by omega) (by have := HSB.out; rw [HIC.out]; omega)
    have p3 : ¬ F W.heap.size := HFF.out _ (by omega) (by rw [HIC.out]; omega)
    have q1 := HX3.out.lt
    have q2 := HX3.out.hr.1
    have q3 := HX3.out.hb.1
    have q4 := HX3.out.gn.lt
    clear hW3 f03 hj3 c3 cv cr cx HJ0 HXB
    go_wp2
    refine (wpIn_wide (n := 7)).1 ?_
    refine wpIn_rangeFunc_ownB rfl (by omega) (gf := 220) (lb := #[.pointer (some ⟨Wb.heap.size, 0, none⟩), .pointer (some ⟨Wb.heap.size + 1, 0, none⟩), .pointer (some ⟨Wb.heap.size + 1 + 1, 0, none⟩)]) rfl trivial (enters_of Tryz.func220 (by kernel_rfl) rfl)
      ((to_down x L).seq Wb.heap.size (Wb.heap.size + 1) (Wb.heap.size + 1 + 1) v hv (fun k => F k ∨ W3.heap.size ≤ k) (by rintro (h | h); exact f1 h; omega) (by rintro (h | h); exact f2 h; omega) (by rintro (h | h); exact f3 h; omega) (by rintro (h | h); exact f4 h; omega) (by rintro (h | h); exact p1 h; omega) (by rintro (h | h); exact p2 h; omega) W3 HX3.out cxx cvv cff)
      (fun h k => Fr.trans h k) (fun W l o o' hl _ _ _ => fr_putObj W l o' (.inr hl)) (fun W o => (Fr.refl _ W).alloc o) (Below.refl _ _) (fun _ => rfl)
      (fun pre W' => J pre W' ∧ Fr (fun k => F k ∨ W3.heap.size ≤ k) W3 W')
      (fun c pre W' => c = .ret ∧ Jx pre W')
      (OwnFrom.both (OwnFrom.later HJ.out (by omega)) (fun s A B row hs hg hr => ownFrom_fr _ W3 s A B row hs hg hr))
      (fun c s A B row hs hg hr => ⟨hs.1, OwnFrom.later HJX.out (show W.heap.size ≤ W3.heap.size by omega) s A B row hs.2 hg hr⟩)
      (fun pre W' o h => ⟨HJ.out _ _ _ none h.1 (fr_grownBy ((Fr.refl No W').alloc o)) (fun r e => by cases e), h.2.alloc o⟩) (fun pre W' h => h.2.size) ⟨HJ3.out, Fr.refl _ _⟩
      (fun el b' T => (T.setIfInBounds 4 (.int .i64 (x.by_ el.1 : Nat))).setIfInBounds 5 (.pointer (some ⟨b', 0, none⟩))) 117 (fun el => #[.int .i64 (x.rowE v true el.1).w, .int .i64 (x.rowE v true el.1).a, .int .i64 (x.rowE v true el.1).m]) ?assign ?body ?done ?stop
    case assign =>
      intro l el W K hK
      simp only [Ix.rowEnc, En.val]
      gi_wp2
      simpa [Ix.rowEnc, En.val] using hK
    case stop =>
      rintro D c pre W' hD hSp ⟨rfl, hjx⟩ hKD
      refine wpIn_wide.2 ?_
      go_wp2
      refine ⟨by simp, .inl ⟨D, _, rfl, run_takeDeferred hKD, ?_⟩⟩
      exact ⟨_, results_none rfl _ _ _, ⟨_, rfl⟩, .inr ⟨pre, by rw [HL.out]; exact hSp, OwnFrom.putObj (OwnFrom.later HJX.out (show W.heap.size ≤ W3.heap.size by omega)) _ hjx hD hKD rfl⟩⟩
    case done =>
      rintro D ys W' hD hS ⟨hj, hf⟩ hKD
      go_wp2
      refine ⟨by simp, .inl ⟨D, _, rfl, run_takeDeferred hKD, ?_⟩⟩
      exact ⟨_, results_none rfl _ _ _, ⟨_, rfl⟩, .inl ⟨ys, by rw [HL.out]; exact hS, OwnFrom.putObj (OwnFrom.later HJ.out (show W.heap.size ≤ W3.heap.size by omega)) _ hj hD hKD rfl, by have := hf.size; have := HSB.out; rw [HIC.out]; simp; omega⟩⟩
    case body =>
      rintro l' pre el W' b' hl hloop ⟨hj, hf⟩ hlen hb' hcs
      have hyy := (HY.out pre el W' hj (by rw [HL.out]; exact hlen) (by have := hf.size; have := HSB.out; rw [HIC.out]; omega))
      have c34 := hf.cell_some c33 (fun h => h.elim p3 (fun h => by simp only at h; omega))
      have cv4 := hf.cell_some cv3 (fun h => h.elim f6 (fun h => by simp only at h; omega))
      have ce := cell_of hcs 0
      have lce := heap_lt hcs
      have HFW := hid hf
      have hKN : ∀ W5, KeepsFrom W.heap.size W' W5 → KeepsFrom W3.heap.size W' W5 := fun W5 h => ⟨h.size, fun k o hk => h.same k o (by omega)⟩
      have HKN := hid hKN
      unfold inEnc at hyy
      obtain ⟨y, hy⟩ : ∃ y, x.by_ el.1 = y := ⟨_, rfl⟩
      obtain ⟨⟨e0, e1, e2⟩, he⟩ : ∃ e, x.rowE v true el.1 = e := ⟨_, rfl⟩
      simp only [hy, he] at hyy ce
      have HHY := hid hy
      have HEE := hid he
      obtain ⟨fn, tm, asg, bd, hyr, hR⟩ := YieldAt.round (l0 := l') (YieldAt.deep (m' := 4) hyy)
      have HR := hid hR
      clear hyy hcs hf hKN hR hy he hj hloop
      simp only [Ix.rowEnc, En.val, HHY.out, HEE.out]
      gi_wp2_with fail
      refine HR.out.mono ?_
      clear hyr c34 cv4 ce
      rintro e W5 ⟨(⟨rfl, hj5, hk5⟩ | ⟨rfl, hj5⟩), hkf⟩
      · have HJ5 := hid hj5
        have HK5 := hid hk5
        have HKF := hid hkf
        clear hj5 hk5 hkf
        gi_wp2
        exact ⟨HKN.out _ HKF.out, HK5.out.mono (fun k _ h => .inl h), HJ5.out, HFW.out.trans (HK5.out.mono (fun k _ h => .inl h))⟩
      · have HJ5 := hid hj5
        have HKF := hid hkf
        clear hj5 hkf
        gi_wp2
        exact ⟨HKN.out _ HKF.out, rfl, HJ5.out⟩
  · have g1 : decide ((x.rk v : Int) < (fl : Int)) = false := by simp; omega
    have hl : inL x v fl = [] := if_neg hgr
    have HL := hid hl
    clear hl
    go_wp2
    exact ⟨_, results_none rfl _ _ _, ⟨_, rfl⟩, .inl ⟨[], HL.out.symm, HJ0.out, by rw [show inC x v fl = 1 from if_neg hgr]; have := HSB.out; omega⟩⟩

end Go.Proofs.YtoepbhacpidcbaaGreatDoor
/- ringroadref22: the steps, and the floor; walked. -/
set_option linter.unusedVariables false
set_option linter.unusedSimpArgs false
namespace Go.Proofs.YtoepbhacpidcbaaGreatDoor
open Go.RowKit Go.Deep
attribute [local go_sem high] run_field0

set_option maxRecDepth 100000 in
set_option maxHeartbeats 1000000 in
theorem rfloor_calls {w : World} {R : RxLoc} {x : Ix} (h : RxMem w R x) (floor : Int) :
    Calls Tryz.prog 68 #[.pointer (some ⟨R.b, 0, none⟩), .int .i64 floor] w fun e w' => e = .returned (.int .i64 (flr x.n floor : Nat)) ∧ Fr No w w' := by
  have hn := h.ok.n2
  have c0 := h.c0
  clear h
  unfold flr
  by_cases h1 : floor < 0
  · rw [if_pos h1]
    go_enter Tryz.func68, Tryz.ntmps68
    go_wp2
    go_ret
    exact ⟨rfl, Fr.refl _ _⟩
  · rw [if_neg h1]
    by_cases h2 : (x.n : Int) < floor
    · rw [if_pos h2]
      go_enter Tryz.func68, Tryz.ntmps68
      go_wp2
      go_ret
      exact ⟨rfl, Fr.refl _ _⟩
    · rw [if_neg h2]
      obtain ⟨k, rfl⟩ := Int.eq_ofNat_of_zero_le (show 0 ≤ floor by omega)
      rw [Int.toNat_natCast]
      have h3 : ¬ x.n < k := by omega
      go_enter Tryz.func68, Tryz.ntmps68
      go_wp2
      go_ret
      exact ⟨rfl, Fr.refl _ _⟩

set_option maxRecDepth 100000 in
set_option maxHeartbeats 4000000 in
theorem rostep_calls {w : World} {R : RxLoc} {x : Ix} {b : Nat} {G : Gr} (h : RxMem w R x) (hg : RGM w b G) (fl u v : Nat) (hu : u < x.n) (hv : v < x.n) :
    Calls Tryz.prog 70 #[.pointer (some ⟨b, 0, none⟩), .pointer (some ⟨R.b, 0, none⟩), .int .i64 (fl : Nat), .int .i64 (u : Nat), .int .i64 (v : Nat)] w fun e w' => e = .returned (.int .i64 (oM G x fl u v)) ∧ Fr No w w' := by
  have hn := h.ok.n2
  have hu2 : (u : Int) < x.n := by omega
  have hv2 : (v : Int) < x.n := by omega
  obtain ⟨⟨p0, p1, p2⟩, hp⟩ : ∃ y, x.at_ (u : Nat) (v : Nat) = y := ⟨_, rfl⟩
  have hat : Calls Tryz.prog 98 #[.pointer (some ⟨R.b, 0, none⟩), .int .i64 (u : Nat), .int .i64 (v : Nat)] w fun e w' => e = .returned (.agg #[.int .i64 p0, .int .i64 p1, .int .i64 p2]) ∧ Fr No w w' := by
    have := rat_calls h (u : Nat) (v : Nat)
    rw [hp] at this
    exact this
  have hm : oM G x fl u v = if x.rk u < fl then (if x.rk u < x.rk v then p0 else 4611686018427387906) else if x.rk v < fl then p0 else G.bst u v := by
    unfold oM; rw [hp]
  obtain ⟨ru, eu⟩ : ∃ r, x.rk u = r := ⟨_, rfl⟩
  obtain ⟨rv, ev⟩ : ∃ r, x.rk v = r := ⟨_, rfl⟩
  rw [eu, ev] at hm
  obtain ⟨mm, hmm⟩ : ∃ m, oM G x fl u v = m := ⟨_, rfl⟩
  rw [hmm] at hm ⊢
  have HM := hid hm
  have H := hid h
  have HG := hid hg
  have HAT := hid hat
  have EU := hid eu
  have EV := hid ev
  clear h hg hat hp eu ev hm hmm
  go_enter Tryz.func70, Tryz.ntmps70
  go_wp2_with fail
  refine HAT.out.mono ?_
  rintro e w1 ⟨rfl, hf⟩
  have c0 := (H.out.no hf).c0
  have s1 := (H.out.no hf).rk u hu
  have s2 := (H.out.no hf).rk v hv
  rw [EU.out] at s1
  rw [EV.out] at s2
  have HG1 := hid (HG.out.no hf)
  have F1 := hid hf
  clear hf HAT H HG
  by_cases h1 : ru < fl
  · have h1i : (ru : Int) < fl := by omega
    have g1 : decide ((ru : Int) < (fl : Int)) = true := by simp; omega
    have g1n : decide (ru < fl) = true := by simp; omega
    by_cases h2 : ru < rv
    · have h2i : (ru : Int) < rv := by omega
      have g2 : decide ((ru : Int) < (rv : Int)) = true := by simp; omega
      have g2n : decide (ru < rv) = true := by simp; omega
      obtain rfl : mm = p0 := by rw [HM.out, if_pos h1, if_pos h2]
      clear HM
      go_wp2_with fail
      have k0 : ∀ nn : Fam w1, nn.v.cell? ⟨R.b, 0, none⟩ = some (.slice (some ⟨R.br, 0, none⟩) x.n R.cr) := Fam.cell c0
      have k1 : ∀ nn : Fam w1, nn.v.cell? ⟨R.br, u, none⟩ = some (.int .i64 (ru : Nat)) := Fam.cell s1
      have k2 : ∀ nn : Fam w1, nn.v.cell? ⟨R.br, v, none⟩ = some (.int .i64 (rv : Nat)) := Fam.cell s2
      refine wp_region_fam (by kernel_rfl) (by kernel_rfl) ?_
      repeat (go_big_quiet_step (fail))
      refine wpQuiet_nil ?_
      rintro w7 ⟨⟨w7, hf7⟩, rfl⟩
      have F7 := hid (F1.out.trans hf7)
      clear hf7 k0 k1 k2 c0 s1 s2
      go_wp2
      go_ret
      exact ⟨rfl, F7.out⟩
    · have h2i : ¬ (ru : Int) < rv := by omega
      have g2 : decide ((ru : Int) < (rv : Int)) = false := by simp; omega
      have g2n : decide (ru < rv) = false := by simp; omega
      obtain rfl : mm = 4611686018427387906 := by rw [HM.out, if_pos h1, if_neg h2]
      clear HM
      go_wp2_with fail
      have k0 : ∀ nn : Fam w1, nn.v.cell? ⟨R.b, 0, none⟩ = some (.slice (some ⟨R.br, 0, none⟩) x.n R.cr) := Fam.cell c0
      have k1 : ∀ nn : Fam w1, nn.v.cell? ⟨R.br, u, none⟩ = some (.int .i64 (ru : Nat)) := Fam.cell s1
      have k2 : ∀ nn : Fam w1, nn.v.cell? ⟨R.br, v, none⟩ = some (.int .i64 (rv : Nat)) := Fam.cell s2
      refine wp_region_fam (by kernel_rfl) (by kernel_rfl) ?_
      repeat (go_big_quiet_step (fail))
      refine wpQuiet_nil ?_
      rintro w7 ⟨⟨w7, hf7⟩, rfl⟩
      have F7 := hid (F1.out.trans hf7)
      clear hf7 k0 k1 k2 c0 s1 s2
      go_wp2
      go_ret
      exact ⟨rfl, F7.out⟩
  · have h1i : ¬ (ru : Int) < fl := by omega
    have g1 : decide ((ru : Int) < (fl : Int)) = false := by simp; omega
    have g1n : decide (ru < fl) = false := by simp; omega
    by_cases h2 : rv < fl
    · have h2i : (rv : Int) < fl := by omega
      have g2 : decide ((rv : Int) < (fl : Int)) = true := by simp; omega
      have g2n : decide (rv < fl) = true := by simp; omega
      obtain rfl : mm = p0 := by rw [HM.out, if_neg h1, if_pos h2]
      clear HM
      go_wp2
      go_ret
      exact ⟨rfl, F1.out⟩
    · have h2i : ¬ (rv : Int) < fl := by omega
      have g2 : decide ((rv : Int) < (fl : Int)) = false := by simp; omega
      have g2n : decide (rv < fl) = false := by simp; omega
      obtain rfl : mm = (G.best (u : Nat) (v : Nat)).1 := by rw [HM.out, if_neg h1, if_neg h2]; rfl
      clear HM
      go_wp2_with fail
      refine (rgbest_calls HG1.out (u : Nat) (v : Nat)).mono ?_
      rintro e w2 ⟨rfl, hf⟩
      have F2 := hid (F1.out.trans hf)
      clear hf c0 s1 s2
      go_wp2
      go_ret
      exact ⟨rfl, F2.out⟩

set_option maxRecDepth 100000 in
set_option maxHeartbeats 4000000 in
theorem ristep_calls {w : World} {R : RxLoc} {x : Ix} (h : RxMem w R x) (fl u v : Nat) (hu : u < x.n) (hv : v < x.n) :
    Calls Tryz.prog 71 #[.pointer (some ⟨R.b, 0, none⟩), .int .i64 (fl : Nat), .int .i64 (u : Nat), .int .i64 (v : Nat)] w fun e w' => e = .returned (.int .i64 (iM x fl v u)) ∧ Fr No w w' := by
  have hn := h.ok.n2
  have hu2 : (u : Int) < x.n := by omega
  have hv2 : (v : Int) < x.n := by omega
  obtain ⟨⟨p0, p1, p2⟩, hp⟩ : ∃ y, x.at_ (u : Nat) (v : Nat) = y := ⟨_, rfl⟩
  have hat : ∀ (w2 : World), Fr No w w2 → Calls Tryz.prog 98 #[.pointer (some ⟨R.b, 0, none⟩), .int .i64 (u : Nat), .int .i64 (v : Nat)] w2 fun e w' => e = .returned (.agg #[.int .i64 p0, .int .i64 p1, .int .i64 p2]) ∧ Fr No w2 w' := fun w2 hf => by
    have := rat_calls (h.no hf) (u : Nat) (v : Nat)
    rw [hp] at this
    exact this
  have hm : iM x fl v u = if x.rk v < fl ∧ x.rk v < x.rk u then p0 else 4611686018427387906 := by
    unfold iM; rw [hp]
  have c0 := h.c0
  have s1 := h.rk u hu
  have s2 := h.rk v hv
  obtain ⟨ru, eu⟩ : ∃ r, x.rk u = r := ⟨_, rfl⟩
  obtain ⟨rv, ev⟩ : ∃ r, x.rk v = r := ⟨_, rfl⟩
  rw [eu] at s1
  rw [ev] at s2
  rw [eu, ev] at hm
  rw [hm]
  have HAT := hid hat
  clear h hat hp eu ev hm
  have k0 : ∀ nn : Fam w, nn.v.cell? ⟨R.b, 0, none⟩ = some (.slice (some ⟨R.br, 0, none⟩) x.n R.cr) := Fam.cell c0
  have k1 : ∀ nn : Fam w, nn.v.cell? ⟨R.br, u, none⟩ = some (.int .i64 (ru : Nat)) := Fam.cell s1
  have k2 : ∀ nn : Fam w, nn.v.cell? ⟨R.br, v, none⟩ = some (.int .i64 (rv : Nat)) := Fam.cell s2
  by_cases h1 : rv < fl
  · have g1 : decide ((rv : Int) < (fl : Int)) = true := by simp; exact h1
    have g1n : decide (rv < fl) = true := by simp; exact h1
    by_cases h2 : rv < ru
    · have g2 : decide ((rv : Int) < (ru : Int)) = true := by simp; exact h2
      have g2n : decide (rv < ru) = true := by simp; exact h2
      rw [if_pos ⟨h1, h2⟩]
      go_enter Tryz.func71, Tryz.ntmps71
      go_wp2_with fail
      refine wp_region_fam (by kernel_rfl) (by kernel_rfl) ?_
      repeat (go_big_quiet_step (fail))
      refine wpQuiet_nil ?_
      rintro w7 ⟨⟨w7, hf7⟩, rfl⟩
      have F7 := hid hf7
      clear hf7 k0 k1 k2 c0 s1 s2
      go_wp2_with fail
      refine (HAT.out w7 F7.out).mono ?_
      rintro e w2 ⟨rfl, hf⟩
      have F2 := hid (F7.out.trans hf)
      clear hf
      go_wp2
      go_ret
      exact ⟨rfl, F2.out⟩
    · have g2 : decide ((rv : Int) < (ru : Int)) = false := by simp; omega
      have g2n : decide (rv < ru) = false := by simp; omega
      rw [if_neg (fun h => h2 h.2)]
      go_enter Tryz.func71, Tryz.ntmps71
      go_wp2_with fail
      refine wp_region_fam (by kernel_rfl) (by kernel_rfl) ?_
      repeat (go_big_quiet_step (fail))
      refine wpQuiet_nil ?_
      rintro w7 ⟨⟨w7, hf7⟩, rfl⟩
      have F7 := hid hf7
      clear hf7 k0 k1 k2 c0 s1 s2
      go_wp2
      go_ret
      exact ⟨rfl, F7.out⟩
  · have g1 : decide ((rv : Int) < (fl : Int)) = false := by simp; omega
    have g1n : decide (rv < fl) = false := by simp; omega
    rw [if_neg (fun h => h1 h.1)]
    go_enter Tryz.func71, Tryz.ntmps71
    go_wp2_with fail
    refine wp_region_fam (by kernel_rfl) (by kernel_rfl) ?_
    repeat (go_big_quiet_step (fail))
    refine wpQuiet_nil ?_
    rintro w7 ⟨⟨w7, hf7⟩, rfl⟩
    have F7 := hid hf7
    clear hf7 k0 k1 k2 c0 s1 s2
    go_wp2
    go_ret
    exact ⟨rfl, F7.out⟩

end Go.Proofs.YtoepbhacpidcbaaGreatDoor
/- ringroadref22: Out and In; walked. -/
set_option linter.unusedVariables false
set_option linter.unusedSimpArgs false
namespace Go.Proofs.YtoepbhacpidcbaaGreatDoor
open Go.RowKit Go.Deep

set_option maxRecDepth 100000 in
set_option maxHeartbeats 4000000 in
theorem rout22_calls {w : World} {R : RxLoc} {x : Ix} {b : Nat} {G : Gr} (h : RxMem w R x) (hg : RGM w b G) (hwt : G.Wt) (floor : Int) (s : Nat) (hs : s < x.n) (U : Nat → Int) (hU : Lst x.n (oM G x (flr x.n floor)) s U) :
    Calls Tryz.prog 22 #[.pointer (some ⟨b, 0, none⟩), .pointer (some ⟨R.b, 0, none⟩), .int .i64 floor, .int .i64 (s : Nat)] w fun e w' => ∃ Bf : Nat, e = .returned (.slice (some ⟨Bf, 0, none⟩) x.n x.n) ∧ Fr No w w' ∧ w.heap.size ≤ Bf ∧ RwI w' Bf x.n x.n U := by
  have hn := h.ok.n2
  have hn1 := h.ok.n1
  have hs2 : (s : Int) < x.n := by omega
  have HOK := hid h.ok
  have HWT := hid hwt
  have HG := hid hg
  have hmk := fun w => run_make_row' (P := Tryz.prog) 34 3 (.int .i64 0) 8 Tryz.underlying34 info_int rfl .i64 .i64 x.n (by omega) (by omega) w
  have H := hid h
  have HFL := hid (rfloor_calls h floor)
  obtain ⟨fl, hfl⟩ : ∃ f, flr x.n floor = f := ⟨_, rfl⟩
  rw [hfl] at HFL hU
  have HMB := hid (fun i j => oM_b HOK.out HWT.out _ i j : ∀ i j, Bd (oM G x fl i j))
  obtain ⟨M, hM⟩ : ∃ M, oM G x fl = M := ⟨_, rfl⟩
  rw [hM] at hU HMB
  have HMM := hid hM
  have HU := hid hU
  have HMK := hid hmk
  clear h hU hfl hmk hM hg hwt
  go_enter Tryz.func22, Tryz.ntmps22
  go_wp2_with fail
  refine HFL.out.mono ?_
  rintro e w1 ⟨rfl, hf⟩
  have HR1 := hid (H.out.no hf)
  have HG1 := hid (HG.out.no hf)
  have c0 := (H.out.no hf).c0
  have F1 := hid hf
  have hsz := hf.size
  have hmk := HMK.out
  clear hf HFL H HMK HG
  go_wp2
  clear c0 hmk
  have hblk := Blk.made w1 x.n (.int .i64 0) 3
  have f2 : Fr No w1 (w1.alloc (.cells (madeCells #[.int .i64 0] x.n) 3)) := (Fr.refl No w1).alloc _
  generalize w1.alloc (.cells (madeCells #[.int .i64 0] x.n) 3) = W2 at hblk f2 ⊢
  have hrw0 : RwI W2 w1.heap.size x.n x.n (fun _ => 0) := ⟨Nat.le_refl _, _, hblk, fun _ _ => rfl⟩
  obtain ⟨g, hgB⟩ : ∃ g, w1.heap.size = g := ⟨_, rfl⟩
  have hbg : w.heap.size ≤ g := by omega
  have hbg1 : w1.heap.size ≤ g := by omega
  rw [hgB] at hrw0 ⊢
  have HRW0 := hid hrw0
  have F2 := hid f2
  clear hblk f2 hrw0 hgB hsz
  go_loopg [11] (x.n + 1) (fun gk p wr => ∃ k : Nat, p = .int .i64 k ∧ k ≤ x.n ∧ gk = x.n + 1 - k ∧ Fr No w1 wr ∧ RwI wr g x.n x.n (fun i => if i < k then 4611686018427387906 else 0))
  case atStart => exact ⟨0, rfl, by omega, rfl, F2.out, HRW0.out.congr (fun i hi => by simp)⟩
  case round =>
    clear F2 HRW0
    obtain ⟨k, rfl, hk, hgk, hf, hrw⟩ := hrel
    have HGK := hid hgk
    have HF := hid hf
    have HRW := hid hrw
    clear hgk hf hrw
    by_cases hlt : k < x.n
    · have hlt2 : (k : Int) < x.n := by omega
      have s1 := HRW.out.cell hlt
      have s2 := HRW.out.frozen k
      have lg := HRW.out.lt
      go_wp2
      clear s1 s2 lg
      go_roundg (x.n + 1 - (k + 1))
      case measure => have := HGK.out; omega
      case rel => exact ⟨k + 1, by go_num, by omega, rfl, HF.out.setCell (p := ⟨g, k, none⟩) (.inr hbg1) _, (HRW.out.set k 4611686018427387906).congr (fun i hi => by
        show (if i = k then (4611686018427387906 : Int) else if i < k then 4611686018427387906 else 0) = if i < k + 1 then 4611686018427387906 else 0
        by_cases e : i = k
        · rw [if_pos e, if_pos (by omega)]
        · rw [if_neg e]
          by_cases e2 : i < k
          · rw [if_pos e2, if_pos (by omega)]
          · rw [if_neg e2, if_neg (by omega)])⟩
    · obtain rfl : k = x.n := by omega
      have s1 := HRW.out.cell hs
      have s2 := HRW.out.frozen s
      have lg := HRW.out.lt
      clear HGK
      go_wp2
      have hw1 : RwI (wr.setCell ⟨g, s, none⟩ (.int .i64 0)) g x.n x.n (fun v => if v = s then 0 else 4611686018427387906) := (HRW.out.set s 0).congr (fun i hi => by
        show (if i = s then (0 : Int) else if i < x.n then 4611686018427387906 else 0) = if i = s then 0 else 4611686018427387906
        rw [if_pos hi])
      have hf1 : Fr No w1 (wr.setCell ⟨g, s, none⟩ (.int .i64 0)) := HF.out.setCell (p := ⟨g, s, none⟩) (.inr hbg1) _
      have HW1 := hid hw1
      have HF1 := hid hf1
      have HI0 := hid (BfI.first HU.out)
      clear hw1 hf1 HRW HF s1 s2 lg
      generalize wr.setCell ⟨g, s, none⟩ (.int .i64 0) = W1 at HW1 HF1 ⊢
      go_loopg [12] (x.n + 1) (fun gk p wr => ∃ (c : Nat) (d : Nat → Int), p = .int .i64 c ∧ c ≤ x.n ∧ gk = x.n + 1 - c ∧ Fr No w1 wr ∧ RwI wr g x.n x.n d ∧ BfI x.n s U c d)
      case atStart => exact ⟨0, _, rfl, by omega, rfl, HF1.out, HW1.out, HI0.out⟩
      case round =>
        clear HF1 HW1 HI0
        obtain ⟨c, d0, rfl, hc, hgk, hf, hrw, hi⟩ := hrel
        have HGK := hid hgk
        have HF := hid hf
        have HRW := hid hrw
        have HI := hid hi
        clear hgk hf hrw hi
        by_cases hlc : c < x.n
        · have hlc2 : (c : Int) < x.n := by omega
          go_wp2
          go_loopg [13] (x.n + 1) (fun gk p wr => ∃ (u : Nat) (d : Nat → Int), p = .int .i64 u ∧ u ≤ x.n ∧ gk = x.n + 1 - u ∧ Fr No w1 wr ∧ RwI wr g x.n x.n d ∧ BfR x.n s M U d0 (PO u 0) d)
          case atStart => exact ⟨0, d0, rfl, by omega, rfl, HF.out, HRW.out, HI.out.round (fun a b h => by unfold PO at h; omega)⟩
          case round =>
            clear HF HRW
            obtain ⟨u, d, rfl, hu, hgk, hf, hrw, hr⟩ := hrel
            have HGK2 := hid hgk
            have HF := hid hf
            have HRW := hid hrw
            have HBR := hid hr
            clear hgk hf hrw hr
            by_cases hlu : u < x.n
            · have hlu2 : (u : Int) < x.n := by omega
              go_wp2
              go_loopg [14] (x.n + 1) (fun gk p wr => ∃ (v : Nat) (d : Nat → Int), p = .int .i64 v ∧ v ≤ x.n ∧ gk = x.n + 1 - v ∧ Fr No w1 wr ∧ RwI wr g x.n x.n d ∧ BfR x.n s M U d0 (PO u v) d)
              case atStart => exact ⟨0, d, rfl, by omega, rfl, HF.out, HRW.out, HBR.out⟩
              case round =>
                clear HF HRW HBR
                obtain ⟨v, d, rfl, hv, hgk, hf, hrw, hr⟩ := hrel
                have HGK3 := hid hgk
                have HFI := hid hf
                have HRW := hid hrw
                have HBR := hid hr
                clear hgk hf hrw hr
                by_cases hlv : v < x.n
                · have hlv2 : (v : Int) < x.n := by omega
                  have s1 := HRW.out.cell hlu
                  have s2 := HRW.out.cell hlv
                  have s3 := HRW.out.frozen v
                  have lg := HRW.out.lt
                  have b1 := (HBR.out.b u hlu).1
                  have b2 := HMB.out u v
                  have hst : ∀ nn : Fam wr, Calls Tryz.prog 70 #[.pointer (some ⟨b, 0, none⟩), .pointer (some ⟨R.b, 0, none⟩), .int .i64 (fl : Nat), .int .i64 (u : Nat), .int .i64 (v : Nat)] nn.v fun e w' => e = .returned (.int .i64 (M u v)) ∧ Fr No nn.v w' := fun nn => by
                    have := rostep_calls ((HR1.out.no HFI.out).no nn.h) ((HG1.out.no HFI.out).no nn.h) fl u v hlu hlv
                    rw [HMM.out] at this
                    exact this
                  have hsame : ¬ (u ≠ v ∧ tw (d u) (M u v) < d v) → BfR x.n s M U d0 (PO u (v + 1)) d := fun hno => HBR.out.same HMB.out (fun v hv => (HI.out.b v hv).1) (fun a b h => by unfold PO at h ⊢; omega) hno
                  have hstep : u ≠ v → tw (d u) (M u v) < d v → BfR x.n s M U d0 (PO u (v + 1)) (updI d v (tw (d u) (M u v))) := fun hne hlt => HBR.out.step HU.out HMB.out (fun v hv => (HI.out.b v hv).1) (fun a b h => by unfold PO at h ⊢; omega) hlu hlv hne hlt
                  obtain ⟨da, eda⟩ : ∃ r, d u = r := ⟨_, rfl⟩
                  obtain ⟨dc, edc⟩ : ∃ r, d v = r := ⟨_, rfl⟩
                  obtain ⟨me, eme⟩ : ∃ r, M u v = r := ⟨_, rfl⟩
                  rw [eda] at s1 b1
                  rw [edc] at s2
                  rw [eme] at b2 hst
                  rw [eda, edc, eme] at hsame hstep
                  have htw := fun W => tw_calls b1 b2 W
                  obtain ⟨sm, esm⟩ : ∃ r, tw da me = r := ⟨_, rfl⟩
                  
                  simp only [esm] at htw hsame hstep
                  have HSAME := hid hsame
                  have HSTEP := hid hstep
                  have HST := hid hst
                  have HTW := hid htw
                  clear hst hsame hstep htw eda edc eme esm b1 b2
                  go_wp2_with fail
                  have k1 : ∀ nn : Fam wr, nn.v.cell? ⟨g, u, none⟩ = some (.int .i64 da) := Fam.cell s1
                  have ks : ∀ nn : Fam wr, Calls Tryz.prog 70 #[.pointer (some ⟨b, 0, none⟩), .pointer (some ⟨R.b, 0, none⟩), .int .i64 (fl : Nat), .int .i64 (u : Nat), .int .i64 (v : Nat)] nn.v fun e w' => e = .returned (.int .i64 me) ∧ Fr No nn.v w' := HST.out
                  have kt : ∀ nn : Fam wr, Calls Tryz.prog 69 #[.int .i64 da, .int .i64 me] nn.v fun e w' => e = .returned (.int .i64 sm) ∧ Fr No nn.v w' := fun nn => HTW.out nn.v
                  refine wp_region_fam (by kernel_rfl) (by kernel_rfl) ?_
                  iterate 10 (go_big_quiet_step (exact Calls.fam (ks _)))
                  repeat (go_big_quiet_step (exact Calls.fam (kt _)))
                  refine wpQuiet_nil ?_
                  rintro w7 ⟨⟨w7, hf7⟩, rfl⟩
                  have HF7 := hid (HFI.out.trans hf7)
                  have t2 := hf7.cell_some s2 (fun h => h)
                  have t3 := (hf7.frozen (p := ⟨g, v, none⟩) lg (fun h => h)).trans s3
                  have HRW7 := hid (HRW.out.fr hf7 (fun h => h))
                  have lg7 := HRW7.out.lt
                  clear hf7 k1 ks kt s1 s2 s3 lg HTW HST HFI HRW
                  by_cases hne : u = v
                  · have g1 : ((u : Int) != (v : Int)) = false := by simp; omega
                    have HB2 := hid (HSAME.out (fun h => h.1 (by omega)))
                    clear HSAME HSTEP
                    go_wp2
                    go_roundg (x.n + 1 - (v + 1))
                    case measure => have := HGK3.out; omega
                    case rel => exact ⟨v + 1, d, by go_num, by omega, rfl, HF7.out, HRW7.out, HB2.out⟩
                  · have g1 : ((u : Int) != (v : Int)) = true := by simp; omega
                    by_cases hsm : sm < dc
                    · have g2 : decide (sm < dc) = true := by simp; exact hsm
                      have HB2 := hid (HSTEP.out (by omega) hsm)
                      clear HSAME HSTEP
                      go_wp2
                      go_roundg (x.n + 1 - (v + 1))
                      case measure => have := HGK3.out; omega
                      case rel => exact ⟨v + 1, _, by go_num, by omega, rfl, HF7.out.setCell (p := ⟨g, v, none⟩) (.inr hbg1) _, HRW7.out.set v sm, HB2.out⟩
                    · have g2 : decide (sm < dc) = false := by simp; omega
                      have HB2 := hid (HSAME.out (fun h => hsm h.2))
                      clear HSAME HSTEP
                      go_wp2
                      go_roundg (x.n + 1 - (v + 1))
                      case measure => have := HGK3.out; omega
                      case rel => exact ⟨v + 1, d, by go_num, by omega, rfl, HF7.out, HRW7.out, HB2.out⟩
                · obtain rfl : v = x.n := by omega
                  have HB2 := hid (HBR.out.congr (P' := PO (u + 1) 0) (fun a b ha hb h => by unfold PO at h ⊢; omega))
                  clear HBR
                  go_wp2
                  go_roundg (x.n + 1 - (u + 1))
                  case measure => have := HGK2.out; omega
                  case rel => exact ⟨u + 1, d, by go_num, by omega, rfl, HFI.out, HRW.out, HB2.out⟩
            · obtain rfl : u = x.n := by omega
              have HI2 := hid (HBR.out.last (fun a b ha hb => by unfold PO; omega) HI.out HU.out HMB.out hlc)
              clear HBR
              go_wp2
              go_roundg (x.n + 1 - (c + 1))
              case measure => have := HGK.out; omega
              case rel => exact ⟨c + 1, d, by go_num, by omega, rfl, HF.out, HRW.out, HI2.out⟩
        · obtain rfl : c = x.n := by omega
          go_wp2
          go_ret
          exact ⟨g, rfl, F1.out.trans HF.out, hbg, HRW.out.congr (fun i hi => HI.out.last hi)⟩

set_option maxRecDepth 100000 in
set_option maxHeartbeats 4000000 in
theorem rin22_calls {w : World} {R : RxLoc} {x : Ix} (h : RxMem w R x) (floor : Int) (s : Nat) (hs : s < x.n) (U : Nat → Int) (hU : Lst x.n (iM x (flr x.n floor)) s U) :
    Calls Tryz.prog 23 #[.pointer (some ⟨R.b, 0, none⟩), .int .i64 floor, .int .i64 (s : Nat)] w fun e w' => ∃ Bf : Nat, e = .returned (.slice (some ⟨Bf, 0, none⟩) x.n x.n) ∧ Fr No w w' ∧ w.heap.size ≤ Bf ∧ RwI w' Bf x.n x.n U := by
  have hn := h.ok.n2
  have hn1 := h.ok.n1
  have hs2 : (s : Int) < x.n := by omega
  have HOK := hid h.ok
  have hmk := fun w => run_make_row' (P := Tryz.prog) 34 3 (.int .i64 0) 8 Tryz.underlying34 info_int rfl .i64 .i64 x.n (by omega) (by omega) w
  have H := hid h
  have HFL := hid (rfloor_calls h floor)
  obtain ⟨fl, hfl⟩ : ∃ f, flr x.n floor = f := ⟨_, rfl⟩
  rw [hfl] at HFL hU
  have HMB := hid (fun i j => iM_b HOK.out _ i j : ∀ i j, Bd (iM x fl i j))
  obtain ⟨M, hM⟩ : ∃ M, iM x fl = M := ⟨_, rfl⟩
  rw [hM] at hU HMB
  have HMM := hid hM
  have HU := hid hU
  have HMK := hid hmk
  clear h hU hfl hmk hM
  go_enter Tryz.func23, Tryz.ntmps23
  go_wp2_with fail
  refine HFL.out.mono ?_
  rintro e w1 ⟨rfl, hf⟩
  have HR1 := hid (H.out.no hf)

  have c0 := (H.out.no hf).c0
  have F1 := hid hf
  have hsz := hf.size
  have hmk := HMK.out
  clear hf HFL H HMK
  go_wp2
  clear c0 hmk
  have hblk := Blk.made w1 x.n (.int .i64 0) 3
  have f2 : Fr No w1 (w1.alloc (.cells (madeCells #[.int .i64 0] x.n) 3)) := (Fr.refl No w1).alloc _
  generalize w1.alloc (.cells (madeCells #[.int .i64 0] x.n) 3) = W2 at hblk f2 ⊢
  have hrw0 : RwI W2 w1.heap.size x.n x.n (fun _ => 0) := ⟨Nat.le_refl _, _, hblk, fun _ _ => rfl⟩
  obtain ⟨g, hgB⟩ : ∃ g, w1.heap.size = g := ⟨_, rfl⟩
  have hbg : w.heap.size ≤ g := by omega
  have hbg1 : w1.heap.size ≤ g := by omega
  rw [hgB] at hrw0 ⊢
  have HRW0 := hid hrw0
  have F2 := hid f2
  clear hblk f2 hrw0 hgB hsz
  go_loopg [9] (x.n + 1) (fun gk p wr => ∃ k : Nat, p = .int .i64 k ∧ k ≤ x.n ∧ gk = x.n + 1 - k ∧ Fr No w1 wr ∧ RwI wr g x.n x.n (fun i => if i < k then 4611686018427387906 else 0))
  case atStart => exact ⟨0, rfl, by omega, rfl, F2.out, HRW0.out.congr (fun i hi => by simp)⟩
  case round =>
    clear F2 HRW0
    obtain ⟨k, rfl, hk, hgk, hf, hrw⟩ := hrel
    have HGK := hid hgk
    have HF := hid hf
    have HRW := hid hrw
    clear hgk hf hrw
    by_cases hlt : k < x.n
    · have hlt2 : (k : Int) < x.n := by omega
      have s1 := HRW.out.cell hlt
      have s2 := HRW.out.frozen k
      have lg := HRW.out.lt
      go_wp2
      clear s1 s2 lg
      go_roundg (x.n + 1 - (k + 1))
      case measure => have := HGK.out; omega
      case rel => exact ⟨k + 1, by go_num, by omega, rfl, HF.out.setCell (p := ⟨g, k, none⟩) (.inr hbg1) _, (HRW.out.set k 4611686018427387906).congr (fun i hi => by
        show (if i = k then (4611686018427387906 : Int) else if i < k then 4611686018427387906 else 0) = if i < k + 1 then 4611686018427387906 else 0
        by_cases e : i = k
        · rw [if_pos e, if_pos (by omega)]
        · rw [if_neg e]
          by_cases e2 : i < k
          · rw [if_pos e2, if_pos (by omega)]
          · rw [if_neg e2, if_neg (by omega)])⟩
    · obtain rfl : k = x.n := by omega
      have s1 := HRW.out.cell hs
      have s2 := HRW.out.frozen s
      have lg := HRW.out.lt
      clear HGK
      go_wp2
      have hw1 : RwI (wr.setCell ⟨g, s, none⟩ (.int .i64 0)) g x.n x.n (fun v => if v = s then 0 else 4611686018427387906) := (HRW.out.set s 0).congr (fun i hi => by
        show (if i = s then (0 : Int) else if i < x.n then 4611686018427387906 else 0) = if i = s then 0 else 4611686018427387906
        rw [if_pos hi])
      have hf1 : Fr No w1 (wr.setCell ⟨g, s, none⟩ (.int .i64 0)) := HF.out.setCell (p := ⟨g, s, none⟩) (.inr hbg1) _
      have HW1 := hid hw1
      have HF1 := hid hf1
      have HI0 := hid (BfI.first HU.out)
      clear hw1 hf1 HRW HF s1 s2 lg
      generalize wr.setCell ⟨g, s, none⟩ (.int .i64 0) = W1 at HW1 HF1 ⊢
      go_loopg [10] (x.n + 1) (fun gk p wr => ∃ (c : Nat) (d : Nat → Int), p = .int .i64 c ∧ c ≤ x.n ∧ gk = x.n + 1 - c ∧ Fr No w1 wr ∧ RwI wr g x.n x.n d ∧ BfI x.n s U c d)
      case atStart => exact ⟨0, _, rfl, by omega, rfl, HF1.out, HW1.out, HI0.out⟩
      case round =>
        clear HF1 HW1 HI0
        obtain ⟨c, d0, rfl, hc, hgk, hf, hrw, hi⟩ := hrel
        have HGK := hid hgk
        have HF := hid hf
        have HRW := hid hrw
        have HI := hid hi
        clear hgk hf hrw hi
        by_cases hlc : c < x.n
        · have hlc2 : (c : Int) < x.n := by omega
          go_wp2
          go_loopg [11] (x.n + 1) (fun gk p wr => ∃ (u : Nat) (d : Nat → Int), p = .int .i64 u ∧ u ≤ x.n ∧ gk = x.n + 1 - u ∧ Fr No w1 wr ∧ RwI wr g x.n x.n d ∧ BfR x.n s M U d0 (PI u 0) d)
          case atStart => exact ⟨0, d0, rfl, by omega, rfl, HF.out, HRW.out, HI.out.round (fun a b h => by unfold PI at h; omega)⟩
          case round =>
            clear HF HRW
            obtain ⟨u, d, rfl, hu, hgk, hf, hrw, hr⟩ := hrel
            have HGK2 := hid hgk
            have HF := hid hf
            have HRW := hid hrw
            have HBR := hid hr
            clear hgk hf hrw hr
            by_cases hlu : u < x.n
            · have hlu2 : (u : Int) < x.n := by omega
              go_wp2
              go_loopg [12] (x.n + 1) (fun gk p wr => ∃ (v : Nat) (d : Nat → Int), p = .int .i64 v ∧ v ≤ x.n ∧ gk = x.n + 1 - v ∧ Fr No w1 wr ∧ RwI wr g x.n x.n d ∧ BfR x.n s M U d0 (PI u v) d)
              case atStart => exact ⟨0, d, rfl, by omega, rfl, HF.out, HRW.out, HBR.out⟩
              case round =>
                clear HF HRW HBR
                obtain ⟨v, d, rfl, hv, hgk, hf, hrw, hr⟩ := hrel
                have HGK3 := hid hgk
                have HFI := hid hf
                have HRW := hid hrw
                have HBR := hid hr
                clear hgk hf hrw hr
                by_cases hlv : v < x.n
                · have hlv2 : (v : Int) < x.n := by omega
                  have s1 := HRW.out.cell hlv
                  have s2 := HRW.out.cell hlu
                  have s3 := HRW.out.frozen u
                  have lg := HRW.out.lt
                  have b1 := (HBR.out.b v hlv).1
                  have b2 := HMB.out v u
                  have hst : ∀ nn : Fam wr, Calls Tryz.prog 71 #[.pointer (some ⟨R.b, 0, none⟩), .int .i64 (fl : Nat), .int .i64 (u : Nat), .int .i64 (v : Nat)] nn.v fun e w' => e = .returned (.int .i64 (M v u)) ∧ Fr No nn.v w' := fun nn => by
                    have := ristep_calls ((HR1.out.no HFI.out).no nn.h) fl u v hlu hlv
                    rw [HMM.out] at this
                    exact this
                  have hsame : ¬ (v ≠ u ∧ tw (d v) (M v u) < d u) → BfR x.n s M U d0 (PI u (v + 1)) d := fun hno => HBR.out.same HMB.out (fun v hv => (HI.out.b v hv).1) (fun a b h => by unfold PI at h ⊢; omega) hno
                  have hstep : v ≠ u → tw (d v) (M v u) < d u → BfR x.n s M U d0 (PI u (v + 1)) (updI d u (tw (d v) (M v u))) := fun hne hlt => HBR.out.step HU.out HMB.out (fun v hv => (HI.out.b v hv).1) (fun a b h => by unfold PI at h ⊢; omega) hlv hlu hne hlt
                  obtain ⟨da, eda⟩ : ∃ r, d v = r := ⟨_, rfl⟩
                  obtain ⟨dc, edc⟩ : ∃ r, d u = r := ⟨_, rfl⟩
                  obtain ⟨me, eme⟩ : ∃ r, M v u = r := ⟨_, rfl⟩
                  rw [eda] at s1 b1
                  rw [edc] at s2
                  rw [eme] at b2 hst
                  rw [eda, edc, eme] at hsame hstep
                  have htw := fun W => tw_calls b2 b1 W
                  obtain ⟨sm, esm⟩ : ∃ r, tw me da = r := ⟨_, rfl⟩
                  rw [tw_comm da me] at hsame hstep
                  simp only [esm] at htw hsame hstep
                  have HSAME := hid hsame
                  have HSTEP := hid hstep
                  have HST := hid hst
                  have HTW := hid htw
                  clear hst hsame hstep htw eda edc eme esm b1 b2
                  go_wp2_with fail
                  have k1 : ∀ nn : Fam wr, nn.v.cell? ⟨g, v, none⟩ = some (.int .i64 da) := Fam.cell s1
                  have ks : ∀ nn : Fam wr, Calls Tryz.prog 71 #[.pointer (some ⟨R.b, 0, none⟩), .int .i64 (fl : Nat), .int .i64 (u : Nat), .int .i64 (v : Nat)] nn.v fun e w' => e = .returned (.int .i64 me) ∧ Fr No nn.v w' := HST.out
                  have kt : ∀ nn : Fam wr, Calls Tryz.prog 69 #[.int .i64 me, .int .i64 da] nn.v fun e w' => e = .returned (.int .i64 sm) ∧ Fr No nn.v w' := fun nn => HTW.out nn.v
                  refine wp_region_fam (by kernel_rfl) (by kernel_rfl) ?_
                  iterate 5 (go_big_quiet_step (exact Calls.fam (ks _)))
                  repeat (go_big_quiet_step (exact Calls.fam (kt _)))
                  refine wpQuiet_nil ?_
                  rintro w7 ⟨⟨w7, hf7⟩, rfl⟩
                  have HF7 := hid (HFI.out.trans hf7)
                  have t2 := hf7.cell_some s2 (fun h => h)
                  have t3 := (hf7.frozen (p := ⟨g, u, none⟩) lg (fun h => h)).trans s3
                  have HRW7 := hid (HRW.out.fr hf7 (fun h => h))
                  have lg7 := HRW7.out.lt
                  clear hf7 k1 ks kt s1 s2 s3 lg HTW HST HFI HRW
                  by_cases hne : u = v
                  · have g1 : ((u : Int) != (v : Int)) = false := by simp; omega
                    have HB2 := hid (HSAME.out (fun h => h.1 (by omega)))
                    clear HSAME HSTEP
                    go_wp2
                    go_roundg (x.n + 1 - (v + 1))
                    case measure => have := HGK3.out; omega
                    case rel => exact ⟨v + 1, d, by go_num, by omega, rfl, HF7.out, HRW7.out, HB2.out⟩
                  · have g1 : ((u : Int) != (v : Int)) = true := by simp; omega
                    by_cases hsm : sm < dc
                    · have g2 : decide (sm < dc) = true := by simp; exact hsm
                      have HB2 := hid (HSTEP.out (by omega) hsm)
                      clear HSAME HSTEP
                      go_wp2
                      go_roundg (x.n + 1 - (v + 1))
                      case measure => have := HGK3.out; omega
                      case rel => exact ⟨v + 1, _, by go_num, by omega, rfl, HF7.out.setCell (p := ⟨g, u, none⟩) (.inr hbg1) _, HRW7.out.set u sm, HB2.out⟩
                    · have g2 : decide (sm < dc) = false := by simp; omega
                      have HB2 := hid (HSAME.out (fun h => hsm h.2))
                      clear HSAME HSTEP
                      go_wp2
                      go_roundg (x.n + 1 - (v + 1))
                      case measure => have := HGK3.out; omega
                      case rel => exact ⟨v + 1, d, by go_num, by omega, rfl, HF7.out, HRW7.out, HB2.out⟩
                · obtain rfl : v = x.n := by omega
                  have HB2 := hid (HBR.out.congr (P' := PI (u + 1) 0) (fun a b ha hb h => by unfold PI at h ⊢; omega))
                  clear HBR
                  go_wp2
                  go_roundg (x.n + 1 - (u + 1))
                  case measure => have := HGK2.out; omega
                  case rel => exact ⟨u + 1, d, by go_num, by omega, rfl, HFI.out, HRW.out, HB2.out⟩
            · obtain rfl : u = x.n := by omega
              have HI2 := hid (HBR.out.last (fun a b ha hb => by unfold PI; omega) HI.out HU.out HMB.out hlc)
              clear HBR
              go_wp2
              go_roundg (x.n + 1 - (c + 1))
              case measure => have := HGK.out; omega
              case rel => exact ⟨c + 1, d, by go_num, by omega, rfl, HF.out, HRW.out, HI2.out⟩
        · obtain rfl : c = x.n := by omega
          go_wp2
          go_ret
          exact ⟨g, rfl, F1.out.trans HF.out, hbg, HRW.out.congr (fun i hi => HI.out.last hi)⟩

end Go.Proofs.YtoepbhacpidcbaaGreatDoor
