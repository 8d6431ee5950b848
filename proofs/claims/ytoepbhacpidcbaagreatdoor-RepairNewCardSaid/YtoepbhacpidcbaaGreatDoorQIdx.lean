/- Entries, and an index as plain mathematics: ranks, whose each is, and the entry from each vertex to each other one; and how an index lies in memory. -/
import Derived.Test.YtoepbhacpidcbaaGreatDoorProg
import Derived.WalkLawsBesides
import Derived.Deep.QuietTactic
import Derived.BigQuiet
import Derived.KernelRfl
import Derived.Test.YtoepbhacpidcbaaGreatDoorQBase

set_option linter.unusedVariables false
set_option linter.unusedSimpArgs false
namespace Go.Proofs.YtoepbhacpidcbaaGreatDoor
open Go.RowKit

/-- An entry: weight, arc, middle. -/
structure En where
  w : Int
  a : Int
  m : Int
deriving DecidableEq

def En.none : En := ⟨4611686018427387906, -1, -1⟩
def En.val (e : En) : Value := .agg #[.int .i64 e.w, .int .i64 e.a, .int .i64 e.m]
/-- A cell of an entry as it is kept. -/
def En.kf (e : En) (c : Nat) : Int := if c = 0 then 4611686018427387906 - e.w else if c = 1 then e.a + 1 else e.m + 1
def En.cell (e : En) (c : Nat) : Int := if c = 0 then e.w else if c = 1 then e.a else e.m

structure En.Ok (e : En) : Prop where
  w1 : 1 ≤ e.w
  w2 : e.w ≤ 4611686018427387906
  a1 : -1 ≤ e.a
  a2 : e.a ≤ 63
  m1 : -1 ≤ e.m
  m2 : e.m ≤ 23

structure Ix where
  n : Nat
  rk : Nat → Nat
  by_ : Nat → Nat
  ent : Nat → Nat → En

structure Ix.Ok (x : Ix) : Prop where
  n1 : 1 ≤ x.n
  n2 : x.n ≤ 24
  rk : ∀ v, v < x.n → x.rk v < x.n ∧ x.by_ (x.rk v) = v
  by_ : ∀ r, r < x.n → x.by_ r < x.n ∧ x.rk (x.by_ r) = r
  ent : ∀ u v, (x.ent u v).Ok

theorem Ix.Ok.inj {x : Ix} (h : x.Ok) {u v : Nat} (hu : u < x.n) (hv : v < x.n) (e : x.rk u = x.rk v) : u = v := by
  have h1 := (h.rk u hu).2
  have h2 := (h.rk v hv).2
  rw [← h1, ← h2, e]

/-- The cells of all entries as they are kept. -/
def Ix.K (x : Ix) (i : Nat) : Int :=
  if i / 144 < i % 72 / 3 ∧ i % 72 / 3 < x.n then
    (if i % 144 < 72 then x.ent (x.by_ (i / 144)) (x.by_ (i % 72 / 3)) else x.ent (x.by_ (i % 72 / 3)) (x.by_ (i / 144))).kf (i % 3)
  else 0

/-- Where an index lies. -/
structure IxLoc where
  b : Nat
  br : Nat
  bb : Nat
  cr : Nat
  cb : Nat

def Ix.V (x : Ix) (L : IxLoc) (i : Nat) : Value :=
  if i = 0 then .slice (some ⟨L.br, 0, Option.none⟩) x.n L.cr
  else if i = 1 then .slice (some ⟨L.bb, 0, Option.none⟩) x.n L.cb
  else .int .i64 (x.K (i - 2))

/-- Numbers in a row. -/
def Nums (w : World) (b n : Nat) (f : Nat → Nat) : Prop := ∀ j, j < n → w.cell? ⟨b, j, Option.none⟩ = some (.int .i64 (f j : Nat))

/-- The package's variable 'none' holds no entry. -/
structure NoneVar (w : World) : Prop where
  c0 : w.cell? ⟨0, 0, Option.none⟩ = some (.int .i64 4611686018427387906)
  c1 : w.cell? ⟨0, 1, Option.none⟩ = some (.int .i64 (-1))
  c2 : w.cell? ⟨0, 2, Option.none⟩ = some (.int .i64 (-1))
theorem NoneVar.fr {w w' : World} (h : NoneVar w) {F : Nat → Prop} (hf : Fr F w w') (hF : ¬ F 0) : NoneVar w' :=
  ⟨hf.cell_some h.c0 hF, hf.cell_some h.c1 hF, hf.cell_some h.c2 hF⟩

theorem NoneVar.lt {w : World} (h : NoneVar w) : 0 < w.heap.size := World.block_lt_of_cell? w _ h.c0

structure IxMem (w : World) (L : IxLoc) (x : Ix) : Prop where
  ok : x.Ok
  blk : Blk w L.b 3458 182 (x.V L)
  rk : Nums w L.br x.n x.rk
  by_ : Nums w L.bb x.n x.by_
  hr : L.br < w.heap.size ∧ L.br ≠ L.b
  hb : L.bb < w.heap.size ∧ L.bb ≠ L.b
  gn : NoneVar w
  nz : L.b ≠ 0 ∧ L.br ≠ 0 ∧ L.bb ≠ 0

theorem Nums.of_fr {w w' : World} {b n : Nat} {f : Nat → Nat} (h : Nums w b n f) {F : Nat → Prop} (hf : Fr F w w') (hb : b < w.heap.size) (hF : ¬ F b) : Nums w' b n f :=
  fun j hj => (hf.cell (p := ⟨b, j, Option.none⟩) hb hF).trans (h j hj)

theorem IxMem.fr {w w' : World} {L : IxLoc} {x : Ix} (h : IxMem w L x) {F : Nat → Prop} (hf : Fr F w w') (h1 : ¬ F L.b) (h2 : ¬ F L.br) (h3 : ¬ F L.bb) (h4 : ¬ F 0) : IxMem w' L x :=
  ⟨h.ok, h.blk.fr hf h1, h.rk.of_fr hf h.hr.1 h2, h.by_.of_fr hf h.hb.1 h3, ⟨Nat.lt_of_lt_of_le h.hr.1 hf.size, h.hr.2⟩, ⟨Nat.lt_of_lt_of_le h.hb.1 hf.size, h.hb.2⟩, h.gn.fr hf h4, h.nz⟩
theorem IxMem.no {w w' : World} {L : IxLoc} {x : Ix} (h : IxMem w L x) (hf : Fr No w w') : IxMem w' L x := h.fr hf (fun h => h) (fun h => h) (fun h => h) (fun h => h)
theorem IxMem.drewN {w : World} {L : IxLoc} {x : Ix} (h : IxMem w L x) (n : Nat) : IxMem (w.drewN n) L x := h.no (Fr.of_drewN n)
theorem IxMem.alloc {w : World} {L : IxLoc} {x : Ix} (h : IxMem w L x) (o : Obj) : IxMem (w.alloc o) L x := h.no ((Fr.refl _ _).alloc o)

theorem IxMem.drew {w : World} {L : IxLoc} {x : Ix} (h : IxMem w L x) : IxMem w.drew L x := h.no (Fr.refl _ _).drew
theorem IxMem.lt {w : World} {L : IxLoc} {x : Ix} (h : IxMem w L x) : L.b < w.heap.size := h.blk.lt
theorem IxMem.c0 {w : World} {L : IxLoc} {x : Ix} (h : IxMem w L x) : w.cell? ⟨L.b, 0, Option.none⟩ = some (.slice (some ⟨L.br, 0, Option.none⟩) x.n L.cr) := h.blk.cell (i := 0) (by omega)
theorem IxMem.c1 {w : World} {L : IxLoc} {x : Ix} (h : IxMem w L x) : w.cell? ⟨L.b, 1, Option.none⟩ = some (.slice (some ⟨L.bb, 0, Option.none⟩) x.n L.cb) := h.blk.cell (i := 1) (by omega)

/-- A vertex's rank; -1: there is no such vertex. -/
def Ix.rank (x : Ix) (v : Int) : Int := if 0 ≤ v ∧ v < x.n then x.rk v.toNat else -1
def Ix.byr (x : Ix) (v : Int) : Int := if 0 ≤ v ∧ v < x.n then x.by_ v.toNat else -1
def Ix.two (x : Ix) (u v : Int) : Bool := decide (u ≠ v ∧ 0 ≤ u ∧ u < x.n ∧ 0 ≤ v ∧ v < x.n)
def Ix.low (x : Ix) (u v : Int) : Int := if x.two u v then (if x.rk u.toNat < x.rk v.toNat then u else v) else -1
def Ix.at_ (x : Ix) (u v : Int) : En := if x.two u v then x.ent u.toNat v.toNat else En.none

end Go.Proofs.YtoepbhacpidcbaaGreatDoor

/- The small readers of an index, walked. -/
set_option linter.unusedVariables false
set_option linter.unusedSimpArgs false
namespace Go.Proofs.YtoepbhacpidcbaaGreatDoor
open Go.RowKit

set_option maxHeartbeats 400000 in
theorem pick_out (A : Option Addr) (n c : Nat) (i : Int) (w : World) (h : i < 0 ∨ (n : Int) ≤ i) :
    Calls Tryz.prog 169 #[.slice A n c, .int .i64 i] w fun e w' => e = .returned (.int .i64 (-1)) ∧ w = w' := by
  by_cases h0 : i < 0
  · go_enter Tryz.func169, Tryz.ntmps169
    go_wp2
    go_ret
    exact ⟨rfl, rfl⟩
  · have h1 : (n : Int) ≤ i := by omega
    go_enter Tryz.func169, Tryz.ntmps169
    go_wp2
    go_ret
    exact ⟨rfl, rfl⟩

set_option maxHeartbeats 400000 in
theorem pick_in (b off n c : Nat) (i : Int) (v : Int) (w : World) (h0 : 0 ≤ i) (h1 : i < n) (hc : w.cell? ⟨b, off + i.toNat, none⟩ = some (.int .i64 v)) :
    Calls Tryz.prog 169 #[.slice (some ⟨b, off, none⟩) n c, .int .i64 i] w fun e w' => e = .returned (.int .i64 v) ∧ w = w' := by
  go_enter Tryz.func169, Tryz.ntmps169
  go_wp2
  go_ret
  exact ⟨rfl, rfl⟩


set_option maxHeartbeats 400000 in
theorem rank_calls {w : World} {L : IxLoc} {x : Ix} (h : IxMem w L x) (v : Int) :
    Calls Tryz.prog 102 #[.pointer (some ⟨L.b, 0, none⟩), .int .i64 v] w fun e w' => e = .returned (.int .i64 (x.rank v)) ∧ w = w' := by
  have h0 := h.c0
  by_cases hv : 0 ≤ v ∧ v < x.n
  · have hr := h.rk v.toNat (by omega)
    have e : x.rank v = x.rk v.toNat := if_pos hv
    rw [e]
    go_enter Tryz.func102, Tryz.ntmps102
    go_wp2_with (go_at_call 169; refine (pick_in _ _ _ _ _ _ _ hv.1 hv.2 (by simpa using hr)).mono ?_; rintro e w' ⟨rfl, rfl⟩)
    go_ret
    exact ⟨rfl, rfl⟩
  · have e : x.rank v = -1 := if_neg hv
    rw [e]
    go_enter Tryz.func102, Tryz.ntmps102
    go_wp2_with (go_at_call 169; refine (pick_out _ _ _ _ _ (by omega)).mono ?_; rintro e w' ⟨rfl, rfl⟩)
    go_ret
    exact ⟨rfl, rfl⟩

set_option maxHeartbeats 400000 in
theorem by_calls {w : World} {L : IxLoc} {x : Ix} (h : IxMem w L x) (v : Int) :
    Calls Tryz.prog 103 #[.pointer (some ⟨L.b, 0, none⟩), .int .i64 v] w fun e w' => e = .returned (.int .i64 (x.byr v)) ∧ w = w' := by
  have h0 := h.c1
  by_cases hv : 0 ≤ v ∧ v < x.n
  · have hr := h.by_ v.toNat (by omega)
    have e : x.byr v = x.by_ v.toNat := if_pos hv
    rw [e]
    go_enter Tryz.func103, Tryz.ntmps103
    go_wp2_with (go_at_call 169; refine (pick_in _ _ _ _ _ _ _ hv.1 hv.2 (by simpa using hr)).mono ?_; rintro e w' ⟨rfl, rfl⟩)
    go_ret
    exact ⟨rfl, rfl⟩
  · have e : x.byr v = -1 := if_neg hv
    rw [e]
    go_enter Tryz.func103, Tryz.ntmps103
    go_wp2_with (go_at_call 169; refine (pick_out _ _ _ _ _ (by omega)).mono ?_; rintro e w' ⟨rfl, rfl⟩)
    go_ret
    exact ⟨rfl, rfl⟩

theorem rank_nonneg (x : Ix) (v : Int) : (0 ≤ x.rank v) = (0 ≤ v ∧ v < x.n) := by
  unfold Ix.rank
  split
  · rename_i h; simp [h]; 
  · rename_i h; simp only [h, eq_iff_iff, iff_false]; omega

set_option maxHeartbeats 400000 in
theorem two_calls {w : World} {L : IxLoc} {x : Ix} (h : IxMem w L x) (u v : Int) :
    Calls Tryz.prog 116 #[.pointer (some ⟨L.b, 0, none⟩), .int .i64 u, .int .i64 v] w fun e w' => e = .returned (.bool (x.two u v)) ∧ w = w' := by
  have hu := rank_nonneg x u
  have hv := rank_nonneg x v
  have e : x.two u v = (decide (u ≠ v) && decide (0 ≤ x.rank u) && decide (0 ≤ x.rank v)) := by
    rw [Bool.eq_iff_iff]; simp only [Ix.two, hu, hv, decide_eq_true_eq, Bool.and_eq_true]; constructor
    · rintro ⟨a, b, c, d, e⟩; exact ⟨⟨a, b, c⟩, d, e⟩
    · rintro ⟨⟨a, b, c⟩, d, e⟩; exact ⟨a, b, c, d, e⟩
  rw [e]
  clear hu hv e
  by_cases h1 : u = v
  · subst h1
    go_enter Tryz.func116, Tryz.ntmps116
    go_wp2
    go_ret
    exact ⟨by simp, rfl⟩
  · have H1 := hid h1
    have h1' : (u != v) = true := by simpa using h1
    clear h1
    by_cases h2 : 0 ≤ x.rank u
    · go_enter Tryz.func116, Tryz.ntmps116
      go_wp2_with (go_at_call 102; refine (rank_calls h _).mono ?_; rintro e w' ⟨rfl, rfl⟩)
      go_ret
      exact ⟨by simp [H1.out, h2], rfl⟩
    · go_enter Tryz.func116, Tryz.ntmps116
      go_wp2_with (go_at_call 102; refine (rank_calls h _).mono ?_; rintro e w' ⟨rfl, rfl⟩)
      go_ret
      have h3 : ¬ 0 ≤ x.rank u := by omega
      exact ⟨by simp [h3], rfl⟩


theorem two_iff {x : Ix} {u v : Int} (h : x.two u v = true) : u ≠ v ∧ 0 ≤ u ∧ u < x.n ∧ 0 ≤ v ∧ v < x.n := by simpa [Ix.two] using h

set_option maxHeartbeats 400000 in
theorem low_calls {w : World} {L : IxLoc} {x : Ix} (h : IxMem w L x) (u v : Int) :
    Calls Tryz.prog 99 #[.pointer (some ⟨L.b, 0, none⟩), .int .i64 u, .int .i64 v] w fun e w' => e = .returned (.int .i64 (x.low u v)) ∧ ∃ k, w' = w.drewN k := by
  have h0 := h.c0
  have h1 := h.c1
  cases ht : x.two u v with
  | false =>
    have e : x.low u v = -1 := by simp [Ix.low, ht]
    rw [e]
    clear e
    have HT := hid ht
    clear ht
    go_enter Tryz.func99, Tryz.ntmps99
    go_wp2_with (go_at_call 116; refine (two_calls h _ _).mono ?_; rintro e w' ⟨rfl, rfl⟩; rw [HT.out])
    go_ret
    exact ⟨rfl, 0, rfl⟩
  | true =>
    obtain ⟨hne, hu0, hu1, hv0, hv1⟩ := two_iff ht
    have hru := h.rk u.toNat (by omega)
    have hrv := h.rk v.toNat (by omega)
    have gu := (h.ok.rk u.toNat (by omega))
    have gv := (h.ok.rk v.toNat (by omega))
    have hne' : x.rk u.toNat ≠ x.rk v.toNat := fun e => hne (by have := h.ok.inj (by omega) (by omega) e; omega)
    have HT := hid ht
    have GU := gu.1
    have GV := gv.1
    by_cases hlt : x.rk u.toNat < x.rk v.toNat
    · have hm := h.by_ _ GU
      have e : x.low u v = x.by_ (x.rk u.toNat) := by
        simp only [Ix.low, ht, if_true, hlt]; rw [gu.2]; omega
      rw [e]
      clear ht gu gv e hne
      go_enter Tryz.func99, Tryz.ntmps99
      go_wp2_with (first | (go_at_call 116; refine (two_calls h _ _).mono ?_; rintro e w' ⟨rfl, rfl⟩; rw [HT.out]))
      go_quiet (fail)
      go_wp2
      go_ret
      exact ⟨rfl, _, rfl⟩
    · have hm := h.by_ _ GV
      have hgt : x.rk v.toNat < x.rk u.toNat := by omega
      have e : x.low u v = x.by_ (x.rk v.toNat) := by
        simp only [Ix.low, ht, if_true, hlt, if_false]; rw [gv.2]; omega
      rw [e]
      clear ht gu gv e hne
      go_enter Tryz.func99, Tryz.ntmps99
      go_wp2_with (first | (go_at_call 116; refine (two_calls h _ _).mono ?_; rintro e w' ⟨rfl, rfl⟩; rw [HT.out]))
      go_quiet (fail)
      go_wp2
      go_ret
      exact ⟨rfl, _, rfl⟩

end Go.Proofs.YtoepbhacpidcbaaGreatDoor
