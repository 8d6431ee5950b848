/- Making an index; walked. -/
import Derived.Test.YtpkocidcfnlbiaaDoorIdxB
import Derived.Test.YtpkocidcfnlbiaaDoorPerm
import Derived.Test.YtpkocidcfnlbiaaDoorIdx
set_option linter.unusedVariables false
set_option linter.unusedSimpArgs false
namespace Go.Proofs.YtpkocidcfnlbiaaDoor
open Go.RowKit

def isZ : Value → Bool
  | .int .i64 n => n == 0
  | _ => false
theorem isZ_eq {v : Value} (h : isZ v = true) : v = .int .i64 0 := by
  unfold isZ at h; split at h
  · simp at h; subst h; rfl
  · cases h
set_option maxRecDepth 100000 in
theorem ix_zero_all : (Tryd.zeroCells94.toList.drop 2).all isZ = true := by kernel_rfl
theorem ix_zero (i : Nat) (h2 : 2 ≤ i) (h : i < 3458) : Tryd.zeroCells94[i]? = some (.int .i64 0) := by
  have hs := Tryd.zeroCells94_size
  have hl : i < Tryd.zeroCells94.size := by omega
  have hm : Tryd.zeroCells94[i] ∈ Tryd.zeroCells94.toList.drop 2 := by
    rw [List.mem_iff_getElem]
    refine ⟨i - 2, by simp; omega, ?_⟩
    simp [show 2 + (i - 2) = i by omega]
  rw [Array.getElem?_eq_getElem hl, isZ_eq (List.all_eq_true.1 ix_zero_all _ hm)]


/-- An index without entries. -/
def Ix.new (n : Nat) (f : Nat → Int) (g : Nat → Nat) : Ix := ⟨n, fun v => (f v).toNat, g, fun _ _ => En.none⟩

theorem Ix.new_ok {n : Nat} {f : Nat → Int} {g : Nat → Nat} (h0 : 0 < n) (hd : PermF n f) (hg1 : ∀ i, i < n → g (f i).toNat = i) (hg2 : ∀ r, r < n → g r < n ∧ f (g r) = r) : (Ix.new n f g).Ok :=
  ⟨h0, hd.1, fun v hv => ⟨by have := hd.2.1 v hv; show (f v).toNat < n; omega, hg1 v hv⟩, fun r hr => ⟨(hg2 r hr).1, by have := (hg2 r hr).2; show (f (g r)).toNat = r; omega⟩,
   fun _ _ => by constructor <;> simp [Ix.new, En.none]⟩

theorem Ix.new_K (n : Nat) (f : Nat → Int) (g : Nat → Nat) (i : Nat) : (Ix.new n f g).K i = 0 := by
  unfold Ix.K
  split
  · have e : ∀ c, En.none.kf c = 0 := fun c => by simp [En.kf, En.none]
    split <;> exact e _
  · rfl

set_option maxHeartbeats 1000000 in
theorem new_no (A : Option Addr) (n c : Nat) (f : Nat → Int) (w : World) (h : IntsF w A n f) (hn : n ≤ 140737488351232) (hd : ¬ (0 < n ∧ PermF n f)) :
    Calls Tryd.prog 16 #[.slice A n c] w fun e w' => e = .returned (.tuple #[.pointer none, .int .i64 1]) ∧ Fr No w w' := by
  by_cases hp : PermF n f
  · have h0 : n = 0 := by
      rcases Nat.eq_zero_or_pos n with h0 | h0
      · exact h0
      · exact absurd ⟨h0, hp⟩ hd
    subst h0
    obtain ⟨g, hg1, hg2⟩ := hp.inv
    have HP := hid hp
    have HG1 := hid hg1
    have HG2 := hid hg2
    clear hd hp hg1 hg2
    go_enter Tryd.func16, Tryd.ntmps16
    go_wp2_with (go_at_call 41; refine (inverse_yes A 0 c f _ h HP.out g HG1.out HG2.out).mono ?_; rintro e w' ⟨b, rfl, hf, hb, hblk⟩)
    go_ret2
    exact ⟨rfl, hf⟩
  · have HP := hid hp
    clear hd hp
    go_enter Tryd.func16, Tryd.ntmps16
    go_wp2_with (go_at_call 41; refine (inverse_no A n c f _ h hn HP.out).mono ?_; rintro e w' ⟨rfl, hf⟩)
    go_ret2
    exact ⟨rfl, hf⟩

set_option maxHeartbeats 1000000 in
theorem new_yes (A : Option Addr) (n c : Nat) (f : Nat → Int) (w : World) (h : IntsF w A n f) (h0 : 0 < n) (hd : PermF n f) (g : Nat → Nat) (hg1 : ∀ i, i < n → g (f i).toNat = i) (hg2 : ∀ r, r < n → g r < n ∧ f (g r) = r) (hN : NoneVar w) :
    Calls Tryd.prog 16 #[.slice A n c] w fun e w' => ∃ L : IxLoc, e = .returned (.tuple #[.pointer (some ⟨L.b, 0, none⟩), .int .i64 0]) ∧ Fr No w w' ∧ IxMem w' L (Ix.new n f g) ∧
      w.heap.size ≤ L.b ∧ w.heap.size ≤ L.br ∧ w.heap.size ≤ L.bb ∧ L.cb = n := by
  obtain ⟨bA, off, rfl, hc⟩ := h h0
  have hn := hd.1
  have hnn : (n : Int) ≠ 0 := by omega
  have H := hid h
  have HC := hid hc
  have HP := hid hd
  have HG1 := hid hg1
  have HG2 := hid hg2
  have HN := hid hN
  have HNN := hid hnn
  clear hd hg1 hg2 h hc hN hnn
  go_enter Tryd.func16, Tryd.ntmps16
  go_wp2_with (first
    | (go_at_call 41; refine (inverse_yes _ n c f _ H.out HP.out g HG1.out HG2.out).mono ?_; rintro e w1 ⟨b, rfl, hf, hb, hblk⟩; have HB := hid hblk; have HF := hid hf; clear hblk hf)
    | (go_at_call 42; refine (clone_calls bA off n c f _ (fun j hj => HF.out.cell_some (HC.out j hj) (fun h => h)) h0 (by omega)).mono ?_; rintro e w2 ⟨br, cr, rfl, hf2, hb2, hl2, hc2⟩; have HF2 := hid hf2; have HC2 := hid hc2; clear hf2 hc2))
  go_ret2
  have hfw : Fr No w w2 := HF.out.trans HF2.out
  have hbw : b < w1.heap.size := HB.out.lt
  have hs1 := HF.out.size
  have hs2 := HF2.out.size
  refine ⟨⟨w2.heap.size, br, b, cr, n⟩, rfl, hfw.alloc _, ?_, ?_, ?_, ?_, rfl⟩
  · refine ⟨Ix.new_ok h0 HP.out HG1.out HG2.out, ⟨_, heap_new _ _, ?_, ?_⟩, ?_, ?_, ?_, ?_, ?_, ?_⟩
    · simp [Tryd.zeroCells94_size]
    · intro i hi
      rw [Array.getElem?_setIfInBounds, Array.getElem?_setIfInBounds]
      simp only [Array.size_setIfInBounds, Tryd.zeroCells94_size]
      by_cases e0 : i = 0
      · subst e0; rfl
      · by_cases e1 : i = 1
        · subst e1; rfl
        · rw [if_neg (Ne.symm e1), if_neg (Ne.symm e0), ix_zero i (by omega) hi, Ix.V, if_neg e0, if_neg e1, Ix.new_K]
    · intro j hj
      have h1 := HC2.out j hj
      have h2 := HP.out.2.1 j hj
      show (w2.alloc _).cell? ⟨br, j, none⟩ = some (.int .i64 ((f j).toNat : Nat))
      rw [World.cell?_alloc_lt _ _ _ (World.block_lt_of_cell? _ _ h1), h1]
      congr 2; omega
    · intro j hj
      have h1 := HB.out.cell hj
      have h1' := HF2.out.cell_some h1 (fun h => h)
      show (w2.alloc _).cell? ⟨b, j, none⟩ = some (.int .i64 (g j : Nat))
      rw [World.cell?_alloc_lt _ _ _ (World.block_lt_of_cell? _ _ h1'), h1']
    · exact ⟨by simp; omega, by simp; omega⟩
    · exact ⟨by simp; omega, by simp; omega⟩
    · exact (HN.out.fr (hfw.alloc _) (fun h => h))
    · have := HN.out.lt
      exact ⟨by show w2.heap.size ≠ 0; omega, by show br ≠ 0; omega, by show b ≠ 0; omega⟩
  · simp; omega
  · simp; omega
  · simp; omega

end Go.Proofs.YtpkocidcfnlbiaaDoor

/- '==' and '!=' between entries, in one piece. -/
set_option linter.unusedVariables false
set_option linter.unusedSimpArgs false
namespace Go.Proofs.YtpkocidcfnlbiaaDoor
open Go.RowKit

def eq3 (a0 a1 a2 b0 b1 b2 : Int) : Bool := decide (a0 = b0 ∧ a1 = b1 ∧ a2 = b2)

theorem run_eql_en (a0 a1 a2 b0 b1 b2 : Int) (w : World) : (binOp .eql 52 (.agg #[.int .i64 a0, .int .i64 a1, .int .i64 a2]) (.agg #[.int .i64 b0, .int .i64 b1, .int .i64 b2])).run Tryd.prog w = .ok (.bool (eq3 a0 a1 a2 b0 b1 b2)) w := by
  by_cases h0 : a0 = b0
  · by_cases h1 : a1 = b1
    · by_cases h2 : a2 = b2
      · subst h0; subst h1; subst h2; simp [go_sem, eq3]
      · subst h0; subst h1; simp [go_sem, eq3, h2]
    · subst h0; simp [go_sem, eq3, h1]
  · simp [go_sem, eq3, h0]
theorem run_neq_en (a0 a1 a2 b0 b1 b2 : Int) (w : World) : (binOp .neq 52 (.agg #[.int .i64 a0, .int .i64 a1, .int .i64 a2]) (.agg #[.int .i64 b0, .int .i64 b1, .int .i64 b2])).run Tryd.prog w = .ok (.bool (!eq3 a0 a1 a2 b0 b1 b2)) w := by
  by_cases h0 : a0 = b0
  · by_cases h1 : a1 = b1
    · by_cases h2 : a2 = b2
      · subst h0; subst h1; subst h2; simp [go_sem, eq3]
      · subst h0; subst h1; simp [go_sem, eq3, h2]
    · subst h0; simp [go_sem, eq3, h1]
  · simp [go_sem, eq3, h0]
theorem run_eql_kept (a0 a1 a2 b0 b1 b2 : Int) (w : World) : (binOp .eql 88 (.agg #[.int .i64 a0, .int .i64 a1, .int .i64 a2]) (.agg #[.int .i64 b0, .int .i64 b1, .int .i64 b2])).run Tryd.prog w = .ok (.bool (eq3 a0 a1 a2 b0 b1 b2)) w := by
  by_cases h0 : a0 = b0
  · by_cases h1 : a1 = b1
    · by_cases h2 : a2 = b2
      · subst h0; subst h1; subst h2; simp [go_sem, eq3]
      · subst h0; subst h1; simp [go_sem, eq3, h2]
    · subst h0; simp [go_sem, eq3, h1]
  · simp [go_sem, eq3, h0]
theorem run_neq_kept (a0 a1 a2 b0 b1 b2 : Int) (w : World) : (binOp .neq 88 (.agg #[.int .i64 a0, .int .i64 a1, .int .i64 a2]) (.agg #[.int .i64 b0, .int .i64 b1, .int .i64 b2])).run Tryd.prog w = .ok (.bool (!eq3 a0 a1 a2 b0 b1 b2)) w := by
  by_cases h0 : a0 = b0
  · by_cases h1 : a1 = b1
    · by_cases h2 : a2 = b2
      · subst h0; subst h1; subst h2; simp [go_sem, eq3]
      · subst h0; subst h1; simp [go_sem, eq3, h2]
    · subst h0; simp [go_sem, eq3, h1]
  · simp [go_sem, eq3, h0]
theorem eq3_en (a b : En) : eq3 a.w a.a a.m b.w b.a b.m = decide (a = b) := by
  obtain ⟨a0, a1, a2⟩ := a
  obtain ⟨b0, b1, b2⟩ := b
  simp [eq3]

end Go.Proofs.YtpkocidcfnlbiaaDoor
