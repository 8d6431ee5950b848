/- Making an index; walked. -/

import Derived.Test.YtoepbhacpidcbaaGreatDoorQBase
import Derived.Test.YtoepbhacpidcbaaGreatDoorQIdx
import Derived.Test.YtoepbhacpidcbaaGreatDoorQPerm
import Derived.Test.YtoepbhacpidcbaaGreatDoorQIdxB

set_option linter.unusedVariables false
set_option linter.unusedSimpArgs false
namespace Go.Proofs.YtoepbhacpidcbaaGreatDoor
open Go.RowKit

def isZ : Value → Bool
  | .int .i64 n => n == 0
  | _ => false
theorem isZ_eq {v : Value} (h : isZ v = true) : v = .int .i64 0 := by
  unfold isZ at h; split at h
  · simp at h; subst h; rfl
  · cases h
set_option maxRecDepth 100000 in
theorem ix_zero_all : (Tryz.zeroCells182.toList.drop 2).all isZ = true := by kernel_rfl
theorem ix_zero (i : Nat) (h2 : 2 ≤ i) (h : i < 3458) : Tryz.zeroCells182[i]? = some (.int .i64 0) := by
  have hs := Tryz.zeroCells182_size
  have hl : i < Tryz.zeroCells182.size := by omega
  have hm : Tryz.zeroCells182[i] ∈ Tryz.zeroCells182.toList.drop 2 := by
    rw [List.mem_iff_getElem]
    refine ⟨i - 2, by simp; omega, ?_⟩
    simp [show 2 + (i - 2) = i by omega]
  rw [Array.getElem?_eq_getElem hl, isZ_eq (List.all_eq_true.1 ix_zero_all _ hm)]


/-- An index without entries. -/
def Ix.new (n : Nat) (f : Nat → Int) (g : Nat → Nat) : Ix := ⟨n, fun v => (f v).toNat, g, fun _ _ => En.none⟩

theorem Ix.new_ok {n : Nat} {f : Nat → Int} {g : Nat → Nat} (h0 : 0 < n) (hd : PermF n f) (hg1 : ∀ i, i < n → g (f i).toNat = i) (hg2 : ∀ r, r < n → g r < n ∧ f (g r) = r) : (Ix.new n f g).Ok :=
  ⟨h0, hd.1, fun v hv => ⟨by have := hd.2.1 v hv; show (f v).toNat < n; omega, hg1 v hv⟩, fun r hr => ⟨(hg2 r hr).1, by have := (hg2 r hr).2; show (f (g r)).toNat = r; omega⟩,
   fun _ _ => by constructor <;> simp [Ix.new, En.none]⟩

theorem Ix.new_K (n : Nat) (f : Nat → Int) (g : Nat → Nat) (i : Nat) : (Ix.new n f g).K i = 0 := by
  unfold Ix.K
  split
  · have e : ∀ c, En.none.kf c = 0 := fun c => by simp [En.kf, En.none]
    split <;> exact e _
  · rfl

set_option maxHeartbeats 1000000 in
theorem new_no (A : Option Addr) (n c : Nat) (f : Nat → Int) (w : World) (h : IntsF w A n f) (hn : n ≤ 140737488351232) (hd : ¬ (0 < n ∧ PermF n f)) :
    Calls Tryz.prog 54 #[.slice A n c] w fun e w' => e = .returned (.tuple #[.pointer none, .int .i64 1]) ∧ Fr No w w' := by
  by_cases hp : PermF n f
  · have h0 : n = 0 := by
      rcases Nat.eq_zero_or_pos n with h0 | h0
      · exact h0
      · exact absurd ⟨h0, hp⟩ hd
    subst h0
    obtain ⟨g, hg1, hg2⟩ := hp.inv
    have HP := hid hp
    have HG1 := hid hg1
    have HG2 := hid hg2
    clear hd hp hg1 hg2
    go_enter Tryz.func54, Tryz.ntmps54
    go_wp2_with (go_at_call 110; refine (inverse_yes A 0 c f _ h HP.out g HG1.out HG2.out).mono ?_; rintro e w' ⟨b, rfl, hf, hb, hblk⟩)
    go_ret2
    exact ⟨rfl, hf⟩
  · have HP := hid hp
    clear hd hp
    go_enter Tryz.func54, Tryz.ntmps54
    go_wp2_with (go_at_call 110; refine (inverse_no A n c f _ h hn HP.out).mono ?_; rintro e w' ⟨rfl, hf⟩)
    go_ret2
    exact ⟨rfl, hf⟩

set_option maxHeartbeats 1000000 in
theorem new_yes (A : Option Addr) (n c : Nat) (f : Nat → Int) (w : World) (h : IntsF w A n f) (h0 : 0 < n) (hd : PermF n f) (g : Nat → Nat) (hg1 : ∀ i, i < n → g (f i).toNat = i) (hg2 : ∀ r, r < n → g r < n ∧ f (g r) = r) (hN : NoneVar w) :
    Calls Tryz.prog 54 #[.slice A n c] w fun e w' => ∃ L : IxLoc, e = .returned (.tuple #[.pointer (some ⟨L.b, 0, none⟩), .int .i64 0]) ∧ Fr No w w' ∧ IxMem w' L (Ix.new n f g) ∧
      w.heap.size ≤ L.b ∧ w.heap.size ≤ L.br ∧ w.heap.size ≤ L.bb ∧ L.cb = n := by
  obtain ⟨bA, off, rfl, hc⟩ := h h0
  have hn := hd.1
  have hnn : (n : Int) ≠ 0 := by omega
  have H := hid h
  have HC := hid hc
  have HP := hid hd
  have HG1 := hid hg1
  have HG2 := hid hg2
  have HN := hid hN
  have HNN := hid hnn
  clear hd hg1 hg2 h hc hN hnn
  go_enter Tryz.func54, Tryz.ntmps54
  go_wp2_with (first
    | (go_at_call 110; refine (inverse_yes _ n c f _ H.out HP.out g HG1.out HG2.out).mono ?_; rintro e w1 ⟨b, rfl, hf, hb, hblk⟩; have HB := hid hblk; have HF := hid hf; clear hblk hf)
    | (go_at_call 111; refine (clone_calls bA off n c f _ (fun j hj => HF.out.cell_some (HC.out j hj) (fun h => h)) h0 (by omega)).mono ?_; rintro e w2 ⟨br, cr, rfl, hf2, hb2, hl2, hc2⟩; have HF2 := hid hf2; have HC2 := hid hc2; clear hf2 hc2))
  go_ret2
  have hfw : Fr No w w2 := HF.out.trans HF2.out
  have hbw : b < w1.heap.size := HB.out.lt
  have hs1 := HF.out.size
  have hs2 := HF2.out.size
  refine ⟨⟨w2.heap.size, br, b, cr, n⟩, rfl, hfw.alloc _, ?_, ?_, ?_, ?_, rfl⟩
  · refine ⟨Ix.new_ok h0 HP.out HG1.out HG2.out, ⟨_, heap_new _ _, ?_, ?_⟩, ?_, ?_, ?_, ?_, ?_, ?_⟩
    · simp [Tryz.zeroCells182_size]
    · intro i hi
      rw [Array.getElem?_setIfInBounds, Array.getElem?_setIfInBounds]
      simp only [Array.size_setIfInBounds, Tryz.zeroCells182_size]
      by_cases e0 : i = 0
      · subst e0; rfl
      · by_cases e1 : i = 1
        · subst e1; rfl
        · rw [if_neg (Ne.symm e1), if_neg (Ne.symm e0), ix_zero i (by omega) hi, Ix.V, if_neg e0, if_neg e1, Ix.new_K]
    · intro j hj
      have h1 := HC2.out j hj
      have h2 := HP.out.2.1 j hj
      show (w2.alloc _).cell? ⟨br, j, none⟩ = some (.int .i64 ((f j).toNat : Nat))
      rw [World.cell?_alloc_lt _ _ _ (World.block_lt_of_cell? _ _ h1), h1]
      congr 2; omega
    · intro j hj
      have h1 := HB.out.cell hj
      have h1' := HF2.out.cell_some h1 (fun h => h)
      show (w2.alloc _).cell? ⟨b, j, none⟩ = some (.int .i64 (g j : Nat))
      rw [World.cell?_alloc_lt _ _ _ (World.block_lt_of_cell? _ _ h1'), h1']
    · exact ⟨by simp; omega, by simp; omega⟩
    · exact ⟨by simp; omega, by simp; omega⟩
    · exact (HN.out.fr (hfw.alloc _) (fun h => h))
    · have := HN.out.lt
      exact ⟨by show w2.heap.size ≠ 0; omega, by show br ≠ 0; omega, by show b ≠ 0; omega⟩
  · simp; omega
  · simp; omega
  · simp; omega

end Go.Proofs.YtoepbhacpidcbaaGreatDoor

/- '==' and '!=' between entries, in one piece. -/
set_option linter.unusedVariables false
set_option linter.unusedSimpArgs false
namespace Go.Proofs.YtoepbhacpidcbaaGreatDoor
open Go.RowKit

def eq3 (a0 a1 a2 b0 b1 b2 : Int) : Bool := decide (a0 = b0 ∧ a1 = b1 ∧ a2 = b2)

theorem run_eql_en (a0 a1 a2 b0 b1 b2 : Int) (w : World) : (binOp .eql 117 (.agg #[.int .i64 a0, .int .i64 a1, .int .i64 a2]) (.agg #[.int .i64 b0, .int .i64 b1, .int .i64 b2])).run Tryz.prog w = .ok (.bool (eq3 a0 a1 a2 b0 b1 b2)) w := by
  by_cases h0 : a0 = b0
  · by_cases h1 : a1 = b1
    · by_cases h2 : a2 = b2
      · subst h0; subst h1; subst h2; simp [go_sem, eq3]
      · subst h0; subst h1; simp [go_sem, eq3, h2]
    · subst h0; simp [go_sem, eq3, h1]
  · simp [go_sem, eq3, h0]
theorem run_neq_en (a0 a1 a2 b0 b1 b2 : Int) (w : World) : (binOp .neq 117 (.agg #[.int .i64 a0, .int .i64 a1, .int .i64 a2]) (.agg #[.int .i64 b0, .int .i64 b1, .int .i64 b2])).run Tryz.prog w = .ok (.bool (!eq3 a0 a1 a2 b0 b1 b2)) w := by
  by_cases h0 : a0 = b0
  · by_cases h1 : a1 = b1
    · by_cases h2 : a2 = b2
      · subst h0; subst h1; subst h2; simp [go_sem, eq3]
      · subst h0; subst h1; simp [go_sem, eq3, h2]
    · subst h0; simp [go_sem, eq3, h1]
  · simp [go_sem, eq3, h0]
theorem run_eql_kept (a0 a1 a2 b0 b1 b2 : Int) (w : World) : (binOp .eql 176 (.agg #[.int .i64 a0, .int .i64 a1, .int .i64 a2]) (.agg #[.int .i64 b0, .int .i64 b1, .int .i64 b2])).run Tryz.prog w = .ok (.bool (eq3 a0 a1 a2 b0 b1 b2)) w := by
  by_cases h0 : a0 = b0
  · by_cases h1 : a1 = b1
    · by_cases h2 : a2 = b2
      · subst h0; subst h1; subst h2; simp [go_sem, eq3]
      · subst h0; subst h1; simp [go_sem, eq3, h2]
    · subst h0; simp [go_sem, eq3, h1]
  · simp [go_sem, eq3, h0]
theorem run_neq_kept (a0 a1 a2 b0 b1 b2 : Int) (w : World) : (binOp .neq 176 (.agg #[.int .i64 a0, .int .i64 a1, .int .i64 a2]) (.agg #[.int .i64 b0, .int .i64 b1, .int .i64 b2])).run Tryz.prog w = .ok (.bool (!eq3 a0 a1 a2 b0 b1 b2)) w := by
  by_cases h0 : a0 = b0
  · by_cases h1 : a1 = b1
    · by_cases h2 : a2 = b2
      · subst h0; subst h1; subst h2; simp [go_sem, eq3]
      · subst h0; subst h1; simp [go_sem, eq3, h2]
    · subst h0; simp [go_sem, eq3, h1]
  · simp [go_sem, eq3, h0]
theorem eq3_en (a b : En) : eq3 a.w a.a a.m b.w b.a b.m = decide (a = b) := by
  obtain ⟨a0, a1, a2⟩ := a
  obtain ⟨b0, b1, b2⟩ := b
  simp [eq3]

end Go.Proofs.YtoepbhacpidcbaaGreatDoor
/- The document's index in memory; its small functions, walked. -/
set_option linter.unusedVariables false
set_option linter.unusedSimpArgs false
namespace Go.Proofs.YtoepbhacpidcbaaGreatDoor
open Go.RowKit Go.Deep

structure RxLoc where
  b : Nat
  br : Nat
  cr : Nat

def Ix.RV (x : Ix) (L : RxLoc) (i : Nat) : Value :=
  if i = 0 then .slice (some ⟨L.br, 0, Option.none⟩) x.n L.cr
  else .int .i64 ((x.ent ((i - 1) / 72) ((i - 1) % 72 / 3)).cell ((i - 1) % 3))

structure RxMem (w : World) (L : RxLoc) (x : Ix) : Prop where
  ok : x.Ok
  blk : Blk w L.b 1729 138 (x.RV L)
  rk : Nums w L.br x.n x.rk
  hr : L.br < w.heap.size ∧ L.br ≠ L.b

theorem RxMem.fr {w w' : World} {L : RxLoc} {x : Ix} (h : RxMem w L x) {F : Nat → Prop} (hf : Fr F w w') (h1 : ¬ F L.b) (h2 : ¬ F L.br) : RxMem w' L x :=
  ⟨h.ok, h.blk.fr hf h1, h.rk.of_fr hf h.hr.1 h2, ⟨Nat.lt_of_lt_of_le h.hr.1 hf.size, h.hr.2⟩⟩
theorem RxMem.no {w w' : World} {L : RxLoc} {x : Ix} (h : RxMem w L x) (hf : Fr No w w') : RxMem w' L x := h.fr hf (fun h => h) (fun h => h)
theorem RxMem.drewN {w : World} {L : RxLoc} {x : Ix} (h : RxMem w L x) (n : Nat) : RxMem (w.drewN n) L x := h.no (Fr.of_drewN n)
theorem RxMem.drew {w : World} {L : RxLoc} {x : Ix} (h : RxMem w L x) : RxMem w.drew L x := h.no (Fr.refl _ _).drew
theorem RxMem.alloc {w : World} {L : RxLoc} {x : Ix} (h : RxMem w L x) (o : Obj) : RxMem (w.alloc o) L x := h.no ((Fr.refl _ _).alloc o)
theorem RxMem.lt {w : World} {L : RxLoc} {x : Ix} (h : RxMem w L x) : L.b < w.heap.size := h.blk.lt
theorem RxMem.c0 {w : World} {L : RxLoc} {x : Ix} (h : RxMem w L x) : w.cell? ⟨L.b, 0, none⟩ = some (.slice (some ⟨L.br, 0, none⟩) x.n L.cr) := h.blk.cell (i := 0) (by omega)

theorem RxMem.at_pl {w : World} {L : RxLoc} {x : Ix} (h : RxMem w L x) {u v : Nat} (hu : u < 24) (hv : v < 24) (c : Nat) (hc : c < 3) :
    w.cell? ⟨L.b, 1 + u * 72 + v * 3 + c, none⟩ = some (.int .i64 ((x.ent u v).cell c)) := by
  rw [h.blk.cell (by omega), Ix.RV, if_neg (by omega), show (1 + u * 72 + v * 3 + c - 1) / 72 = u by omega, show (1 + u * 72 + v * 3 + c - 1) % 72 / 3 = v by omega, show (1 + u * 72 + v * 3 + c - 1) % 3 = c by omega]

def Ix.vertex (x : Ix) (v : Int) : Bool := decide (0 ≤ v ∧ v < x.n)

set_option maxHeartbeats 400000 in
theorem rnone_calls (w : World) : Calls Tryz.prog 120 #[] w fun e w' => e = .returned En.none.val ∧ Fr No w w' := by
  go_enter Tryz.func120, Tryz.ntmps120
  go_wp2
  exact bodyPost_ret (v := En.none.val) (by simp [results, Tryz.results120, go_sem, En.val, En.none]) rfl ⟨rfl, (Fr.refl _ _).alloc _⟩

set_option maxHeartbeats 400000 in
theorem rvertex_calls {w : World} {L : RxLoc} {x : Ix} (h : RxMem w L x) (v : Int) :
    Calls Tryz.prog 101 #[.pointer (some ⟨L.b, 0, none⟩), .int .i64 v] w fun e w' => e = .returned (.bool (x.vertex v)) ∧ w = w' := by
  have h0 := h.c0
  by_cases h1 : 0 ≤ v
  · go_enter Tryz.func101, Tryz.ntmps101
    go_wp2
    go_ret
    exact ⟨by simp [Ix.vertex, h1], rfl⟩
  · go_enter Tryz.func101, Tryz.ntmps101
    go_wp2
    go_ret
    have h2 : ¬ 0 ≤ v := by omega
    exact ⟨by simp [Ix.vertex, h2], rfl⟩

set_option maxHeartbeats 400000 in
theorem rtwo_calls {w : World} {L : RxLoc} {x : Ix} (h : RxMem w L x) (u v : Int) :
    Calls Tryz.prog 121 #[.pointer (some ⟨L.b, 0, none⟩), .int .i64 u, .int .i64 v] w fun e w' => e = .returned (.bool (x.two u v)) ∧ w = w' := by
  have e : x.two u v = (x.vertex u && x.vertex v && (u != v)) := by
    rw [Bool.eq_iff_iff]; simp only [Ix.two, Ix.vertex, decide_eq_true_eq, Bool.and_eq_true, bne_iff_ne]; constructor
    · rintro ⟨a, b, c, d, e⟩; exact ⟨⟨⟨b, c⟩, d, e⟩, a⟩
    · rintro ⟨⟨⟨b, c⟩, d, e⟩, a⟩; exact ⟨a, b, c, d, e⟩
  rw [e]
  clear e
  cases hu : x.vertex u
  · have HU := hid hu
    clear hu
    go_enter Tryz.func121, Tryz.ntmps121
    go_wp2_with (go_at_call 101; refine (rvertex_calls h _).mono ?_; rintro e w' ⟨rfl, rfl⟩; (try rw [HU.out]))
    go_ret
    exact ⟨by simp, rfl⟩
  · cases hv : x.vertex v
    · have HU := hid hu
      have HV := hid hv
      clear hu hv
      go_enter Tryz.func121, Tryz.ntmps121
      go_wp2_with (go_at_call 101; refine (rvertex_calls h _).mono ?_; rintro e w' ⟨rfl, rfl⟩; (first | rw [HU.out] | rw [HV.out]))
      go_ret
      exact ⟨by simp, rfl⟩
    · have HU := hid hu
      have HV := hid hv
      clear hu hv
      go_enter Tryz.func121, Tryz.ntmps121
      go_wp2_with (go_at_call 101; refine (rvertex_calls h _).mono ?_; rintro e w' ⟨rfl, rfl⟩; (first | rw [HU.out] | rw [HV.out]))
      go_ret
      exact ⟨by simp, rfl⟩

set_option maxHeartbeats 400000 in
theorem rat_calls {w : World} {L : RxLoc} {x : Ix} (h : RxMem w L x) (u v : Int) :
    Calls Tryz.prog 98 #[.pointer (some ⟨L.b, 0, none⟩), .int .i64 u, .int .i64 v] w fun e w' => e = .returned (x.at_ u v).val ∧ Fr No w w' := by
  cases ht : x.two u v with
  | false =>
    have e : x.at_ u v = En.none := by simp [Ix.at_, ht]
    rw [e]; clear e
    have HT := hid ht
    clear ht
    go_enter Tryz.func98, Tryz.ntmps98
    go_wp2_with (first
      | (go_at_call 121; refine (rtwo_calls (h.alloc _) _ _).mono ?_; rintro e w' ⟨rfl, rfl⟩; rw [HT.out])
      | (go_at_call 120; refine (rnone_calls _).mono ?_; rintro e w1 ⟨rfl, hf⟩; obtain ⟨o1, o2, o3, o4⟩ := own_no hf w.heap.size (heap_new _ _); simp only [En.val, En.none]))
    have q := cell_of (set3 o4 (.int .i64 4611686018427387906) (.int .i64 (-1)) (.int .i64 (-1)))
    refine bodyPost_ret (v := En.none.val) (by simp [results, Tryz.results98, go_sem, q 0, q 1, q 2, En.val, En.none]) rfl ⟨rfl, ?_⟩
    exact ((((Fr.refl _ _).alloc _).trans hf |>.setCell (.inr (Nat.le_refl _)) _).setCell (.inr (Nat.le_refl _)) _ |>.setCell (.inr (Nat.le_refl _)) _)
  | true =>
    obtain ⟨hne, hu0, hu1, hv0, hv1⟩ := two_iff ht
    have hn := h.ok.n2
    have kl := h.lt
    have k0 : w.cell? ⟨L.b, 1 + u.toNat * 72 + v.toNat * 3, none⟩ = _ := h.at_pl (u := u.toNat) (v := v.toNat) (by omega) (by omega) 0 (by omega)
    have k1 := h.at_pl (u := u.toNat) (v := v.toNat) (by omega) (by omega) 1 (by omega)
    have k2 := h.at_pl (u := u.toNat) (v := v.toNat) (by omega) (by omega) 2 (by omega)
    have e : x.at_ u v = x.ent u.toNat v.toNat := by simp [Ix.at_, ht]
    rw [e]; clear e
    have HT := hid ht
    clear ht
    go_enter Tryz.func98, Tryz.ntmps98
    go_wp2_with (go_at_call 121; refine (rtwo_calls (h.alloc _) _ _).mono ?_; rintro e w' ⟨rfl, rfl⟩; rw [HT.out])
    refine bodyPost_ret (v := (x.ent u.toNat v.toNat).val) (by simp [results, Tryz.results98, go_sem, En.val, En.cell]) rfl ⟨rfl, (Fr.refl _ _).alloc _⟩

end Go.Proofs.YtoepbhacpidcbaaGreatDoor

/- The document's index: what may be an entry, and setting one; walked. -/
set_option linter.unusedVariables false
set_option linter.unusedSimpArgs false
namespace Go.Proofs.YtoepbhacpidcbaaGreatDoor
open Go.RowKit Go.Deep
attribute [local go_sem ↓] Go.wp_at_zero Go.wp_at_succ
attribute [local go_sem high] run_eql_en run_neq_en

end Go.Proofs.YtoepbhacpidcbaaGreatDoor

/- The document's index: setting an entry; walked. -/
set_option linter.unusedVariables false
set_option linter.unusedSimpArgs false
namespace Go.Proofs.YtoepbhacpidcbaaGreatDoor
open Go.RowKit Go.Deep
attribute [local go_sem ↓] Go.wp_at_zero Go.wp_at_succ

theorem RxMem.stored {w : World} {L : RxLoc} {x : Ix} (h : RxMem w L x) {u v : Int} (ht : x.two u v = true) {e : En} (he : e.Ok) :
    RxMem (((w.setCell ⟨L.b, 1 + u.toNat * 72 + v.toNat * 3, none⟩ (.int .i64 e.w)).setCell ⟨L.b, 1 + u.toNat * 72 + v.toNat * 3 + 1, none⟩ (.int .i64 e.a)).setCell ⟨L.b, 1 + u.toNat * 72 + v.toNat * 3 + 2, none⟩ (.int .i64 e.m)) L (x.set u.toNat v.toNat e) := by
  obtain ⟨hne, hu0, hu1, hv0, hv1⟩ := two_iff ht
  have hn := h.ok.n2
  have hu : u.toNat < 24 := by omega
  have hv : v.toNat < 24 := by omega
  generalize u.toNat = a at hu ⊢
  generalize v.toNat = b at hv ⊢
  have F : Fr (One L.b) w (((w.setCell ⟨L.b, 1 + a * 72 + b * 3, none⟩ (.int .i64 e.w)).setCell ⟨L.b, 1 + a * 72 + b * 3 + 1, none⟩ (.int .i64 e.a)).setCell ⟨L.b, 1 + a * 72 + b * 3 + 2, none⟩ (.int .i64 e.m)) :=
    (((Fr.refl _ _).set1 _ _).set1 _ _).set1 _ _
  have ok' : (x.set a b e).Ok := ⟨h.ok.n1, h.ok.n2, h.ok.rk, h.ok.by_, fun p q => by
    show (if p = a ∧ q = b then e else x.ent p q).Ok
    split
    · exact he
    · exact h.ok.ent p q⟩
  refine ⟨ok', ?_, h.rk.of_fr F h.hr.1 h.hr.2, ⟨by simpa using h.hr.1, h.hr.2⟩⟩
  refine (((h.blk.setCell (1 + a * 72 + b * 3) _).setCell (1 + a * 72 + b * 3 + 1) _).setCell (1 + a * 72 + b * 3 + 2) _).congr fun i hi => ?_
  simp only [upd]
  by_cases h0 : i = 0
  · subst h0
    rw [if_neg (by omega), if_neg (by omega), if_neg (by omega)]; rfl
  · simp only [Ix.RV, if_neg h0, Ix.set]
    by_cases hc : (i - 1) / 72 = a ∧ (i - 1) % 72 / 3 = b
    · rw [if_pos hc]
      have hd : i = 1 + a * 72 + b * 3 + (i - 1) % 3 := by omega
      have h3 : (i - 1) % 3 < 3 := Nat.mod_lt _ (by omega)
      generalize (i - 1) % 3 = c at hd h3 ⊢
      subst hd
      match c, h3 with
      | 0, _ => rw [if_neg (by omega), if_neg (by omega), if_pos (by omega)]; rfl
      | 1, _ => rw [if_neg (by omega), if_pos (by omega)]; rfl
      | 2, _ => rw [if_pos (by omega)]; rfl
    · rw [if_neg hc, if_neg (by omega), if_neg (by omega), if_neg (by omega)]

end Go.Proofs.YtoepbhacpidcbaaGreatDoor

/- The document's index, made; walked. -/
set_option linter.unusedVariables false
set_option linter.unusedSimpArgs false
namespace Go.Proofs.YtoepbhacpidcbaaGreatDoor
open Go.RowKit Go.Deep
attribute [local go_sem ↓] Go.wp_at_zero Go.wp_at_succ

set_option maxRecDepth 100000 in
theorem rx_zero_all : (Tryz.zeroCells138.toList.drop 1).all isZ = true := by kernel_rfl
theorem rx_zero (i : Nat) (h2 : 1 ≤ i) (h : i < 1729) : Tryz.zeroCells138[i]? = some (.int .i64 0) := by
  have hs := Tryz.zeroCells138_size
  have hl : i < Tryz.zeroCells138.size := by omega
  have hm : Tryz.zeroCells138[i] ∈ Tryz.zeroCells138.toList.drop 1 := by
    rw [List.mem_iff_getElem]
    refine ⟨i - 1, by simp; omega, ?_⟩
    simp only [List.getElem_drop, Array.getElem_toList]
    congr 1; omega
  rw [Array.getElem?_eq_getElem hl, isZ_eq (List.all_eq_true.1 rx_zero_all _ hm)]

/-- The cells when k entries have been set to none. -/
def rxPart (s : Value) (k : Nat) (i : Nat) : Value := if i = 0 then s else if i - 1 < 3 * k then .int .i64 (En.none.cell ((i - 1) % 3)) else .int .i64 0

theorem rxPart_succ (s : Value) (k a i : Nat) (ha : a = 1 + 3 * k) : upd (upd (upd (rxPart s k) a (.int .i64 4611686018427387906)) (a + 1) (.int .i64 (-1))) (a + 2) (.int .i64 (-1)) i = rxPart s (k + 1) i := by
  subst ha
  simp only [upd, rxPart]
  by_cases h0 : i = 0
  · subst h0; rw [if_neg (by omega), if_neg (by omega), if_neg (by omega), if_pos rfl, if_pos rfl]
  · rw [if_neg h0, if_neg h0]
    by_cases h1 : i - 1 < 3 * k
    · rw [if_neg (by omega), if_neg (by omega), if_neg (by omega), if_pos h1, if_pos (by omega)]
    · by_cases h2 : i - 1 < 3 * (k + 1)
      · rw [if_pos h2]
        have hc : i = 1 + 3 * k + (i - 1) % 3 := by omega
        have h3 : (i - 1) % 3 < 3 := Nat.mod_lt _ (by omega)
        generalize (i - 1) % 3 = c at hc h3 ⊢
        subst hc
        match c, h3 with
        | 0, _ => rw [if_neg (by omega), if_neg (by omega), if_pos (by omega)]; rfl
        | 1, _ => rw [if_neg (by omega), if_pos (by omega)]; rfl
        | 2, _ => rw [if_pos (by omega)]; rfl
      · rw [if_neg (by omega), if_neg (by omega), if_neg (by omega), if_neg h1, if_neg h2]

set_option maxRecDepth 100000 in
set_option maxHeartbeats 2000000 in
theorem rnew_calls (bA off n c : Nat) (f : Nat → Int) (w : World) (hc : ∀ j, j < n → w.cell? ⟨bA, off + j, none⟩ = some (.int .i64 (f j))) (h0 : 0 < n) (hd : PermF n f) (g : Nat → Nat)
    (hg1 : ∀ i, i < n → g (f i).toNat = i) (hg2 : ∀ r, r < n → g r < n ∧ f (g r) = r) :
    Calls Tryz.prog 57 #[.slice (some ⟨bA, off, none⟩) n c] w fun e w' => ∃ L : RxLoc, e = .returned (.pointer (some ⟨L.b, 0, none⟩)) ∧ Fr No w w' ∧ RxMem w' L (Ix.new n f g) ∧
      w.heap.size ≤ L.b ∧ w.heap.size ≤ L.br := by
  have hn := hd.1
  obtain ⟨i0, hi, hz0, hz1, hz2⟩ := i_int
  have HI := hid hi
  have HZ0 := hid hz0
  have HZ1 := hid hz1
  have HZ2 := hid hz2
  have H := hid hc
  have HP := hid hd
  have HG1 := hid hg1
  have HG2 := hid hg2
  clear hi hz0 hz1 hz2 hc hd hg1 hg2
  go_enter Tryz.func57, Tryz.ntmps57
  go_wp2_with (at_builtin; refine wpList_append_lies _ rfl _ _ _ rfl w.heap.size 3 i0 (.int .i64 0) 1 8 Tryz.underlying34 HI.out HZ0.out HZ1.out HZ2.out rfl (by decide) (.slice (some ⟨w.heap.size, 0, none⟩) 0 0) 0 [] rfl (World.ownsRow_made _ #[] 0 (Nat.le_refl _) (Nat.zero_le _) rfl) ⟨bA, off, none⟩ n c ((List.range n).map fun j => .int .i64 (f j)) rfl ?c1 ?c2 ?c3 h0 ?c4 ?c5 ?c6 (w.heap.size + 1) ?c7 ?_)
  case c1 => simp
  case c2 =>
    intro j u hu
    obtain ⟨hj, rfl⟩ : j < n ∧ u = .int .i64 (f j) := by
      rw [List.getElem?_map] at hu
      rcases Nat.lt_or_ge j n with hj | hj
      · rw [List.getElem?_range hj] at hu; simp at hu; exact ⟨hj, hu.symm⟩
      · rw [List.getElem?_eq_none (by simpa using hj)] at hu; simp at hu
    have hc := H.out j hj
    rw [Addr.add_mid, World.cell?_alloc_lt _ _ _ (World.block_lt_of_cell? _ _ hc)]
    exact hc
  case c3 => intro u hu; simp at hu; obtain ⟨j, _, rfl⟩ := hu; rfl
  case c4 => unfold maxLen; omega
  case c5 => omega
  case c6 => simp
  case c7 => simp
  intro br cap w1 hown hgrow hat hlt
  have HO := hid hown
  have HG := hid hgrow
  clear hown hgrow hat
  go_wp2
  have hf1 : Fr No w w1 := ((Fr.refl _ _).alloc _).grown HG.out (fun k e => by cases e; exact .inr (Nat.le_refl _))
  obtain ⟨q1, q2, q3, q4, q5⟩ := own_cells HO.out
  have hs1 := hf1.size
  have HF1 := hid hf1
  have HQ5 := hid q5
  clear hf1 q5 q4
  go_loopw [4] (fun i wr => ∃ u : Nat, u ≤ 24 ∧ i = .int .i64 u ∧ Fr No w wr ∧ Blk wr w1.heap.size 1729 138 (rxPart (.slice (some ⟨br, 0, none⟩) n cap) (u * 24)) ∧ (∀ j, j < n → wr.cell? ⟨br, j, none⟩ = some (.int .i64 (f j)))) (fun i _ => 24 - (intOf i).toNat)
  case atStart =>
    refine ⟨0, Nat.zero_le _, rfl, HF1.out.alloc _, ⟨_, heap_new _ _, by simp [Tryz.zeroCells138_size], fun i hi => ?_⟩, fun j hj => ?_⟩
    · rw [Array.getElem?_setIfInBounds, Tryz.zeroCells138_size, rxPart]
      by_cases e0 : i = 0
      · subst e0; rfl
      · rw [if_neg (Ne.symm e0), if_neg e0, if_neg (by omega), rx_zero i (by omega) hi]
    · have h1 := HQ5.out j hj
      rw [World.cell?_alloc_lt _ _ _ (World.block_lt_of_cell? _ _ h1), h1]
  case round =>
    obtain ⟨u, hu, rfl, hf, hblk, hr⟩ := hrel
    by_cases hlt2 : u < 24
    · have hltI : (u : Int) < 24 := by omega
      have HF := hid hf
      have HB := hid hblk
      have HR := hid hr
      obtain ⟨wo, rfl⟩ : ∃ wo : World, wo = wr := ⟨_, rfl⟩
      clear hf hblk hr
      go_wp2
      go_loopw [5] (fun i wr => ∃ v : Nat, v ≤ 24 ∧ i = .int .i64 v ∧ Fr No w wr ∧ Blk wr w1.heap.size 1729 138 (rxPart (.slice (some ⟨br, 0, none⟩) n cap) (u * 24 + v)) ∧ (∀ j, j < n → wr.cell? ⟨br, j, none⟩ = some (.int .i64 (f j)))) (fun i _ => 24 - (intOf i).toNat)
      case atStart => exact ⟨0, Nat.zero_le _, rfl, HF.out, HB.out, HR.out⟩
      case round =>
        obtain ⟨v, hv, rfl, hf, hblk, hr⟩ := hrel
        by_cases hlt3 : v < 24
        · have HF := hid hf
          have HB := hid hblk
          have HR := hid hr
          clear hf hblk hr
          go_wp2_with fail
          go_region_with (go_at_call 120; refine (rnone_calls _).mono ?_; rintro e w3 ⟨rfl, hf3⟩; (have HB3 := hid ((HB.out.drew).fr hf3 (fun h => h))); (have HF3 := hid hf3); (have z0 := HB3.out.cell (i := 1 + u * 72 + v * 3) (by omega)); (have z1 := HB3.out.cell (i := 1 + u * 72 + v * 3 + 1) (by omega)); (have z2 := HB3.out.cell (i := 1 + u * 72 + v * 3 + 2) (by omega)); (have z3 : ∀ i, w3.frozen? ⟨w1.heap.size, i, none⟩ = false := fun i => HB3.out.frozen i); clear hf3; simp only [En.val, En.none])
          all_goals go_wp2
          all_goals go_roundw
          case rel =>
            refine ⟨v + 1, hlt3, by go_num, (((HF.out.drew.trans HF3.out).setCell (p := ⟨w1.heap.size, _, none⟩) (.inr hs1) _).setCell (p := ⟨w1.heap.size, _, none⟩) (.inr hs1) _).setCell (p := ⟨w1.heap.size, _, none⟩) (.inr hs1) _,
              (((HB3.out.setCell _ _).setCell _ _).setCell _ _).congr fun i _ => rxPart_succ _ (u * 24 + v) _ i (by omega), fun j hj => ?_⟩
            rw [World.cell?_setCell_other _ _ _ _ (by simp <;> omega), World.cell?_setCell_other _ _ _ _ (by simp <;> omega), World.cell?_setCell_other _ _ _ _ (by simp <;> omega)]
            exact HF3.out.cell_some (HR.out j hj) (fun h => h)
          case measure => simp [intOf]; omega
        · have e : v = 24 := by omega
          have HE := hid e
          have HF := hid hf
          have HB := hid hblk
          have HR := hid hr
          clear hf hblk hr e
          go_wp2
          go_roundw
          case rel => exact ⟨u + 1, hlt2, by go_num, HF.out, by have := HB.out; rw [HE.out] at this; rw [show (u + 1) * 24 = u * 24 + 24 by omega]; exact this, HR.out⟩
          case measure => simp [intOf]; omega
    · have e : u = 24 := by omega
      have HE := hid e
      have HF := hid hf
      have HB := hid hblk
      have HR := hid hr
      clear hf hblk hr e
      go_wp2
      go_ret
      have hs2 := HF.out.size
      have hl2 := HB.out.lt
      refine ⟨⟨w1.heap.size, br, cap⟩, rfl, HF.out, ⟨Ix.new_ok h0 HP.out HG1.out HG2.out, HB.out.congr fun i hi => ?_, fun j hj => ?_, by show br < _; omega, by show br ≠ w1.heap.size; omega⟩, hs1, q1⟩
      · rw [HE.out, rxPart, Ix.RV]
        by_cases e0 : i = 0
        · rw [if_pos e0, if_pos e0]; rfl
        · rw [if_neg e0, if_neg e0, if_pos (by omega)]; rfl
      · have h2 := HP.out.2.1 j hj
        show wr.cell? ⟨br, j, none⟩ = some (.int .i64 ((f j).toNat : Nat))
        rw [HR.out j hj]
        congr 2; omega

end Go.Proofs.YtoepbhacpidcbaaGreatDoor
