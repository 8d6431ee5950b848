/- Orders as the program asks and turns them: perm.Right, perm.Inverse, slices.Clone; walked. -/
import Derived.Test.YtlncmnphjdeeoaaDoorIdxA
import Derived.Test.YtlncmnphjdeeoaaDoorBase2
import Derived.Test.YtlncmnphjdeeoaaDoorPigeon
set_option linter.unusedVariables false
set_option linter.unusedSimpArgs false
namespace Go.Proofs.YtlncmnphjdeeoaaDoor
open Go.RowKit Go.Deep

/-- A slice's numbers, as a function of the place. -/
def IntsF (w : World) (A : Option Addr) (n : Nat) (f : Nat → Int) : Prop :=
  0 < n → ∃ b off, A = some ⟨b, off, none⟩ ∧ ∀ j, j < n → w.cell? ⟨b, off + j, none⟩ = some (.int .i64 (f j))

theorem IntsF.fr {w w' : World} {A : Option Addr} {n : Nat} {f : Nat → Int} (h : IntsF w A n f) (hf : Fr No w w') : IntsF w' A n f := fun hn => by
  obtain ⟨b, off, e, hc⟩ := h hn
  exact ⟨b, off, e, fun j hj => hf.cell_some (hc j hj) (fun h => h)⟩

def PermF (n : Nat) (f : Nat → Int) : Prop := n ≤ 24 ∧ (∀ j, j < n → 0 ≤ f j ∧ f j < n) ∧ (∀ i j, i < j → j < n → f i ≠ f j)

/-- Seen among the first k. -/
def seenF (f : Nat → Int) (k : Nat) (i : Nat) : Bool := (List.range k).any fun j => f j == (i : Int)
theorem seenF_iff (f : Nat → Int) (k i : Nat) : seenF f k i = true ↔ ∃ j, j < k ∧ f j = i := by
  simp [seenF, List.any_eq_true]
theorem seenF_succ (f : Nat → Int) (k i : Nat) : seenF f (k + 1) i = (seenF f k i || (f k == (i : Int))) := by
  simp [seenF, List.range_succ, List.any_append]

set_option maxHeartbeats 1000000 in
theorem right_calls (A : Option Addr) (n c : Nat) (f : Nat → Int) (w : World) (h : IntsF w A n f) (hn : n ≤ 140737488351232) (d : Bool) (hd : d = true ↔ PermF n f) :
    Calls Tryd.prog 95 #[.slice A n c] w fun e w' => e = .returned (.bool d) ∧ Fr No w w' := by
  by_cases hbig : 24 < n
  · have e : d = false := by
      cases d with
      | false => rfl
      | true => have := (hd.1 rfl).1; omega
    subst e
    clear hd
    go_enter Tryd.func95, Tryd.ntmps95
    go_wp2
    go_ret
    exact ⟨rfl, Fr.refl _ _⟩
  · have hB := Blk.new_rep w 24 (.bool false) 82 (fun i => .bool (seenF f 0 i)) (fun i hi => rfl)
    have HB := hid hB
    clear hB
    go_enter Tryd.func95, Tryd.ntmps95
    go_wp2
    go_loopw [11] (fun i wr => ∃ k : Nat, k ≤ n ∧ i = .int .i64 k ∧ Fr No w wr ∧ Blk wr w.heap.size 24 82 (fun i => .bool (seenF f k i)) ∧
        (∀ j, j < k → 0 ≤ f j ∧ f j < n) ∧ (∀ i j, i < j → j < k → f i ≠ f j)) (fun i _ => n - (intOf i).toNat)
    case atStart => exact ⟨0, Nat.zero_le _, rfl, (Fr.refl _ _).alloc _, HB.out, fun j hj => by omega, fun i j _ hj => by omega⟩
    case round =>
      obtain ⟨k, hk, rfl, hf, hblk, hr1, hr2⟩ := hrel
      by_cases hlt : k < n
      · obtain ⟨b, off, rfl, hc⟩ := h (by omega)
        have hck : wr.cell? ⟨b, off + k, none⟩ = some (.int .i64 (f k)) := hf.cell_some (hc k hlt) (fun h => h)
        have HC := hid hc
        have HF := hid hf
        have HR1 := hid hr1
        have HR2 := hid hr2
        have HBk := hid hblk
        clear hc hf hr1 hr2 hblk h
        by_cases h1 : f k < 0
        · have e : d = false := by
            cases d with
            | false => rfl
            | true => have := ((hd.1 rfl).2.1 k hlt).1; omega
          subst e
          clear hd
          go_wp2
          go_ret
          exact ⟨rfl, HF.out⟩
        · by_cases h2 : (n : Int) ≤ f k
          · have e : d = false := by
              cases d with
              | false => rfl
              | true => have := ((hd.1 rfl).2.1 k hlt).2; omega
            subst e
            clear hd
            go_wp2
            go_ret
            exact ⟨rfl, HF.out⟩
          · have hcs := HBk.out.cell (i := (f k).toNat) (by omega)
            have hfs := HBk.out.frozen (f k).toNat
            have hfk : ((f k).toNat : Int) = f k := by omega
            cases hs : seenF f k (f k).toNat with
            | true =>
              have e : d = false := by
                cases d with
                | false => rfl
                | true =>
                  obtain ⟨j, hj, ej⟩ := (seenF_iff ..).1 hs
                  exact absurd (ej.trans hfk) ((hd.1 rfl).2.2 j k hj hlt)
              subst e
              clear hd hfk
              go_wp2
              go_ret
              exact ⟨rfl, HF.out⟩
            | false =>
              have HK := hid hfk
              have HS := hid hs
              have HD := hid hd
              rw [hs] at hcs
              clear hfk hs hd
              go_wp2
              go_roundw
              case rel =>
                refine ⟨k + 1, hlt, by go_num, HF.out.setCell (p := ⟨w.heap.size, _, none⟩) (.inr (Nat.le_refl _)) _, ?_, fun j hj => ?_, fun i j hij hj => ?_⟩
                · refine (HBk.out.setCell (f k).toNat (.bool true)).congr fun i hi => ?_
                  simp only [upd, seenF_succ]
                  by_cases e : i = (f k).toNat
                  · rw [if_pos e]; have : f k = (i : Int) := by omega
                    simp [this]
                  · rw [if_neg e]; have : ¬ f k = (i : Int) := by omega
                    simp [this]
                · rcases Nat.lt_succ_iff_lt_or_eq.1 hj with hj | rfl
                  · exact HR1.out j hj
                  · omega
                · rcases Nat.lt_succ_iff_lt_or_eq.1 hj with hj | rfl
                  · exact HR2.out i j hij hj
                  · intro e
                    have := (seenF_iff f j (f j).toNat).2 ⟨i, hij, e.trans HK.out.symm⟩
                    rw [HS.out] at this; cases this
              case measure => simp [intOf]; omega
      · have e : d = true := hd.2 ⟨by omega, fun j hj => hr1 j (by omega), fun i j hij hj => hr2 i j hij (by omega)⟩
        subst e
        clear hd
        have HF := hid hf
        clear hf hr1 hr2
        go_wp2
        go_ret
        exact ⟨rfl, HF.out⟩


theorem PermF.inv {n : Nat} {f : Nat → Int} (h : PermF n f) : ∃ g : Nat → Nat, (∀ i, i < n → g (f i).toNat = i) ∧ (∀ r, r < n → g r < n ∧ f (g r) = r) := by
  obtain ⟨g, h1, h2⟩ := inverse_of n (fun i => (f i).toNat) (fun i hi => by have := h.2.1 i hi; omega) (fun i j hi hj e => by
    have a := h.2.1 i hi
    have b := h.2.1 j hj
    rcases Nat.lt_trichotomy i j with c | c | c
    · have := h.2.2 i j c hj; omega
    · exact c
    · have := h.2.2 j i c hi; omega)
  refine ⟨g, h1, fun r hr => ⟨(h2 r hr).1, ?_⟩⟩
  have := (h2 r hr).2
  have := h.2.1 (g r) (h2 r hr).1
  omega

theorem info_int : (Tryd.prog.info? 3).map (fun i => (i.zero, i.size, i.bytes)) = some (some (.int .i64 0), 1, 8) := by kernel_rfl

set_option maxHeartbeats 1000000 in
theorem inverse_no (A : Option Addr) (n c : Nat) (f : Nat → Int) (w : World) (h : IntsF w A n f) (hn : n ≤ 140737488351232) (hd : ¬ PermF n f) :
    Calls Tryd.prog 68 #[.slice A n c] w fun e w' => e = .returned (.tuple #[.slice none 0 0, .int .i64 1]) ∧ Fr No w w' := by
  go_enter Tryd.func68, Tryd.ntmps68
  go_wp2_with (go_at_call 95; refine (right_calls A n c f _ h hn false (by simpa using hd)).mono ?_; rintro e w' ⟨rfl, hf⟩)
  go_ret2
  exact ⟨rfl, hf⟩

set_option maxHeartbeats 1000000 in
theorem inverse_yes (A : Option Addr) (n c : Nat) (f : Nat → Int) (w : World) (h : IntsF w A n f) (hd : PermF n f) (g : Nat → Nat) (hg1 : ∀ i, i < n → g (f i).toNat = i) (hg2 : ∀ r, r < n → g r < n ∧ f (g r) = r) :
    Calls Tryd.prog 68 #[.slice A n c] w fun e w' => ∃ b, e = .returned (.tuple #[.slice (some ⟨b, 0, none⟩) n n, .int .i64 0]) ∧ Fr No w w' ∧ w.heap.size ≤ b ∧
      Blk w' b n 3 (fun i => .int .i64 (g i : Nat)) := by
  have hn := hd.1
  have hmk := fun w => run_make_row' (P := Tryd.prog) 29 3 (.int .i64 0) 8 Tryd.underlying29 info_int rfl .i64 .i64 n (by omega) (by omega) w
  have HD := hid hd
  have HG1 := hid hg1
  have HG2 := hid hg2
  clear hd hg1 hg2
  go_enter Tryd.func68, Tryd.ntmps68
  go_wp2_with (go_at_call 95; refine (right_calls A n c f _ h (by omega) true (by simpa using HD.out)).mono ?_; rintro e w1 ⟨rfl, hf⟩)
  have HB := hid (Blk.made w1 n (.int .i64 0) 3)
  have HF := hid hf
  have hsz := hf.size
  clear hf hmk
  go_loopw [15] (fun i wr => ∃ k : Nat, k ≤ n ∧ i = .int .i64 k ∧ Fr No w wr ∧ Blk wr w1.heap.size n 3 (fun i => .int .i64 (if seenF f k i then (g i : Nat) else 0))) (fun i _ => n - (intOf i).toNat)
  case atStart => exact ⟨0, Nat.zero_le _, rfl, HF.out.alloc _, HB.out.congr fun i hi => by simp [seenF]⟩
  case round =>
    obtain ⟨k, hk, rfl, hf, hblk⟩ := hrel
    by_cases hlt : k < n
    · obtain ⟨b, off, rfl, hc⟩ := h (by omega)
      have hck : wr.cell? ⟨b, off + k, none⟩ = some (.int .i64 (f k)) := hf.cell_some (hc k hlt) (fun h => h)
      have hfk := HD.out.2.1 k hlt
      have hcs := hblk.cell (i := (f k).toNat) (by omega)
      have hfs := hblk.frozen (f k).toNat
      have HC := hid hc
      have HF := hid hf
      have HBk := hid hblk
      clear hc hf hblk h
      go_wp2
      go_roundw
      case rel =>
        refine ⟨k + 1, hlt, by go_num, HF.out.setCell (p := ⟨w1.heap.size, _, none⟩) (.inr hsz) _, (HBk.out.setCell (f k).toNat (.int .i64 k)).congr fun i hi => ?_⟩
        simp only [upd, seenF_succ]
        by_cases e : i = (f k).toNat
        · have h1 : f k = (i : Int) := by omega
          have h2 := HG1.out k hlt
          rw [← e] at h2
          rw [if_pos e]; simp [h1, h2]
        · rw [if_neg e]; have : ¬ f k = (i : Int) := by omega
          simp [this]
      case measure => simp [intOf]; omega
    · have e : k = n := by omega
      have HE := hid e
      have HF := hid hf
      have HBk := hid hblk
      clear hf hblk h e
      go_wp2
      go_ret2
      refine ⟨_, rfl, HF.out, hsz, HBk.out.congr fun i hi => ?_⟩
      have hs : seenF f k i = true := (seenF_iff ..).2 ⟨g i, by rw [HE.out]; exact (HG2.out i hi).1, (HG2.out i hi).2⟩
      rw [hs]; rfl

end Go.Proofs.YtlncmnphjdeeoaaDoor
