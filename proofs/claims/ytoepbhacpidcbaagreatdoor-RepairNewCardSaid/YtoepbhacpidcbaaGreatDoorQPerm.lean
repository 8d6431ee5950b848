/- More base words: numbers made by 'make', a row of numbers, pieces of a walk for one operation. -/
import Derived.Deep.OwnRows
import Derived.Deep.AppendLies
import Derived.Deep.MidRow
import Derived.Test.YtoepbhacpidcbaaGreatDoorQBase
import Derived.Test.YtoepbhacpidcbaaGreatDoorQIdx

set_option linter.unusedVariables false
set_option linter.unusedSimpArgs false
namespace Go.Proofs.YtoepbhacpidcbaaGreatDoor
open Go.RowKit Go.Deep

theorem made_get (z : Value) (n i : Nat) (h : i < n) : (madeCells #[z] n)[i]? = some z := by
  have hs : i < (madeCells #[z] n).size := by rw [size_madeCells]; exact h
  rw [Array.getElem?_eq_getElem hs]
  simp only [madeCells, Array.getElem_map, Array.getElem_range]
  simp [Nat.mod_one]

theorem Blk.made (w : World) (n : Nat) (z : Value) (T : TypeId) : Blk (w.alloc (.cells (madeCells #[z] n) T)) w.heap.size n T (fun _ => z) :=
  ⟨_, heap_new _ _, size_madeCells _ _, fun i hi => made_get z n i hi⟩

end Go.Proofs.YtoepbhacpidcbaaGreatDoor

/- A function that takes no value twice below n, all its values below n, meets each number below n: its inverse. Plain mathematics. -/
set_option linter.unusedVariables false
set_option linter.unusedSimpArgs false
namespace Go.Proofs.YtoepbhacpidcbaaGreatDoor
open Go.RowKit

theorem pigeon : ∀ (n : Nat) (f : Nat → Nat), (∀ i, i < n → f i < n) → (∀ i j, i < n → j < n → f i = f j → i = j) → ∀ y, y < n → ∃ i, i < n ∧ f i = y := by
  intro n
  induction n with
  | zero => intro f _ _ y hy; omega
  | succ n ih =>
    intro f hf hinj y hy
    by_cases hm : f n = n
    · by_cases hyn : y = n
      · exact ⟨n, by omega, by omega⟩
      · obtain ⟨i, hi, e⟩ := ih f (fun i hi => by
          have h1 := hf i (by omega)
          have h2 : f i ≠ n := fun e => by have := hinj i n (by omega) (by omega) (by omega); omega
          omega) (fun i j hi hj e => hinj i j (by omega) (by omega) e) y (by omega)
        exact ⟨i, by omega, e⟩
    · have hmn := hf n (by omega)
      have key := ih (fun i => if f i = n then f n else f i) (fun i hi => by
        have h1 := hf i (by omega)
        show (if f i = n then f n else f i) < n
        split <;> omega) (fun i j hi hj e => by
        have e' : (if f i = n then f n else f i) = (if f j = n then f n else f j) := e
        by_cases a : f i = n
        · by_cases b : f j = n
          · exact hinj i j (by omega) (by omega) (by omega)
          · rw [if_pos a, if_neg b] at e'
            have := hinj n j (by omega) (by omega) e'; omega
        · by_cases b : f j = n
          · rw [if_neg a, if_pos b] at e'
            have := hinj i n (by omega) (by omega) e'; omega
          · rw [if_neg a, if_neg b] at e'
            exact hinj i j (by omega) (by omega) e')
      by_cases hyn : y = n
      · obtain ⟨i, hi, e⟩ := key (f n) (by omega)
        have e' : (if f i = n then f n else f i) = f n := e
        by_cases a : f i = n
        · exact ⟨i, by omega, by omega⟩
        · rw [if_neg a] at e'
          have := hinj i n (by omega) (by omega) e'; omega
      · obtain ⟨i, hi, e⟩ := key y (by omega)
        have e' : (if f i = n then f n else f i) = y := e
        by_cases a : f i = n
        · rw [if_pos a] at e'; exact ⟨n, by omega, e'⟩
        · rw [if_neg a] at e'; exact ⟨i, by omega, e'⟩

theorem inverse_of (n : Nat) (f : Nat → Nat) (hf : ∀ i, i < n → f i < n) (hinj : ∀ i j, i < n → j < n → f i = f j → i = j) :
    ∃ g : Nat → Nat, (∀ i, i < n → g (f i) = i) ∧ (∀ r, r < n → g r < n ∧ f (g r) = r) := by
  have h := pigeon n f hf hinj
  refine ⟨fun r => if h' : r < n then Classical.choose (h r h') else 0, fun i hi => ?_, fun r hr => ?_⟩
  · have hr := hf i hi
    have hs := Classical.choose_spec (h (f i) hr)
    simp only [dif_pos hr]
    exact hinj _ _ hs.1 hi hs.2
  · have hs := Classical.choose_spec (h r hr)
    simp only [dif_pos hr]
    exact hs

end Go.Proofs.YtoepbhacpidcbaaGreatDoor

/- Orders as the program asks and turns them: perm.Right, perm.Inverse, slices.Clone; walked. -/
set_option linter.unusedVariables false
set_option linter.unusedSimpArgs false
namespace Go.Proofs.YtoepbhacpidcbaaGreatDoor
open Go.RowKit Go.Deep

/-- A slice's numbers, as a function of the place. -/
def IntsF (w : World) (A : Option Addr) (n : Nat) (f : Nat → Int) : Prop :=
  0 < n → ∃ b off, A = some ⟨b, off, none⟩ ∧ ∀ j, j < n → w.cell? ⟨b, off + j, none⟩ = some (.int .i64 (f j))

theorem IntsF.fr {w w' : World} {A : Option Addr} {n : Nat} {f : Nat → Int} (h : IntsF w A n f) (hf : Fr No w w') : IntsF w' A n f := fun hn => by
  obtain ⟨b, off, e, hc⟩ := h hn
  exact ⟨b, off, e, fun j hj => hf.cell_some (hc j hj) (fun h => h)⟩

def PermF (n : Nat) (f : Nat → Int) : Prop := n ≤ 24 ∧ (∀ j, j < n → 0 ≤ f j ∧ f j < n) ∧ (∀ i j, i < j → j < n → f i ≠ f j)

/-- Seen among the first k. -/
def seenF (f : Nat → Int) (k : Nat) (i : Nat) : Bool := (List.range k).any fun j => f j == (i : Int)
theorem seenF_iff (f : Nat → Int) (k i : Nat) : seenF f k i = true ↔ ∃ j, j < k ∧ f j = i := by
  simp [seenF, List.any_eq_true]
theorem seenF_succ (f : Nat → Int) (k i : Nat) : seenF f (k + 1) i = (seenF f k i || (f k == (i : Int))) := by
  simp [seenF, List.range_succ, List.any_append]

set_option maxHeartbeats 1000000 in
theorem right_calls (A : Option Addr) (n c : Nat) (f : Nat → Int) (w : World) (h : IntsF w A n f) (hn : n ≤ 140737488351232) (d : Bool) (hd : d = true ↔ PermF n f) :
    Calls Tryz.prog 174 #[.slice A n c] w fun e w' => e = .returned (.bool d) ∧ Fr No w w' := by
  by_cases hbig : 24 < n
  · have e : d = false := by
      cases d with
      | false => rfl
      | true => have := (hd.1 rfl).1; omega
    subst e
    clear hd
    go_enter Tryz.func174, Tryz.ntmps174
    go_wp2
    go_ret
    exact ⟨rfl, Fr.refl _ _⟩
  · have hB := Blk.new_rep w 24 (.bool false) 155 (fun i => .bool (seenF f 0 i)) (fun i hi => rfl)
    have HB := hid hB
    clear hB
    go_enter Tryz.func174, Tryz.ntmps174
    go_wp2
    go_loopw [11] (fun i wr => ∃ k : Nat, k ≤ n ∧ i = .int .i64 k ∧ Fr No w wr ∧ Blk wr w.heap.size 24 155 (fun i => .bool (seenF f k i)) ∧
        (∀ j, j < k → 0 ≤ f j ∧ f j < n) ∧ (∀ i j, i < j → j < k → f i ≠ f j)) (fun i _ => n - (intOf i).toNat)
    case atStart => exact ⟨0, Nat.zero_le _, rfl, (Fr.refl _ _).alloc _, HB.out, fun j hj => by omega, fun i j _ hj => by omega⟩
    case round =>
      obtain ⟨k, hk, rfl, hf, hblk, hr1, hr2⟩ := hrel
      by_cases hlt : k < n
      · obtain ⟨b, off, rfl, hc⟩ := h (by omega)
        have hck : wr.cell? ⟨b, off + k, none⟩ = some (.int .i64 (f k)) := hf.cell_some (hc k hlt) (fun h => h)
        have HC := hid hc
        have HF := hid hf
        have HR1 := hid hr1
        have HR2 := hid hr2
        have HBk := hid hblk
        clear hc hf hr1 hr2 hblk h
        by_cases h1 : f k < 0
        · have e : d = false := by
            cases d with
            | false => rfl
            | true => have := ((hd.1 rfl).2.1 k hlt).1; omega
          subst e
          clear hd
          go_wp2
          go_ret
          exact ⟨rfl, HF.out⟩
        · by_cases h2 : (n : Int) ≤ f k
          · have e : d = false := by
              cases d with
              | false => rfl
              | true => have := ((hd.1 rfl).2.1 k hlt).2; omega
            subst e
            clear hd
            go_wp2
            go_ret
            exact ⟨rfl, HF.out⟩
          · have hcs := HBk.out.cell (i := (f k).toNat) (by omega)
            have hfs := HBk.out.frozen (f k).toNat
            have hfk : ((f k).toNat : Int) = f k := by omega
            cases hs : seenF f k (f k).toNat with
            | true =>
              have e : d = false := by
                cases d with
                | false => rfl
                | true =>
                  obtain ⟨j, hj, ej⟩ := (seenF_iff ..).1 hs
                  exact absurd (ej.trans hfk) ((hd.1 rfl).2.2 j k hj hlt)
              subst e
              clear hd hfk
              go_wp2
              go_ret
              exact ⟨rfl, HF.out⟩
            | false =>
              have HK := hid hfk
              have HS := hid hs
              have HD := hid hd
              rw [hs] at hcs
              clear hfk hs hd
              go_wp2
              go_roundw
              case rel =>
                refine ⟨k + 1, hlt, by go_num, HF.out.setCell (p := ⟨w.heap.size, _, none⟩) (.inr (Nat.le_refl _)) _, ?_, fun j hj => ?_, fun i j hij hj => ?_⟩
                · refine (HBk.out.setCell (f k).toNat (.bool true)).congr fun i hi => ?_
                  simp only [upd, seenF_succ]
                  by_cases e : i = (f k).toNat
                  · rw [if_pos e]; have : f k = (i : Int) := by omega
                    simp [this]
                  · rw [if_neg e]; have : ¬ f k = (i : Int) := by omega
                    simp [this]
                · rcases Nat.lt_succ_iff_lt_or_eq.1 hj with hj | rfl
                  · exact HR1.out j hj
                  · omega
                · rcases Nat.lt_succ_iff_lt_or_eq.1 hj with hj | rfl
                  · exact HR2.out i j hij hj
                  · intro e
                    have := (seenF_iff f j (f j).toNat).2 ⟨i, hij, e.trans HK.out.symm⟩
                    rw [HS.out] at this; cases this
              case measure => simp [intOf]; omega
      · have e : d = true := hd.2 ⟨by omega, fun j hj => hr1 j (by omega), fun i j hij hj => hr2 i j hij (by omega)⟩
        subst e
        clear hd
        have HF := hid hf
        clear hf hr1 hr2
        go_wp2
        go_ret
        exact ⟨rfl, HF.out⟩


theorem PermF.inv {n : Nat} {f : Nat → Int} (h : PermF n f) : ∃ g : Nat → Nat, (∀ i, i < n → g (f i).toNat = i) ∧ (∀ r, r < n → g r < n ∧ f (g r) = r) := by
  obtain ⟨g, h1, h2⟩ := inverse_of n (fun i => (f i).toNat) (fun i hi => by have := h.2.1 i hi; omega) (fun i j hi hj e => by
    have a := h.2.1 i hi
    have b := h.2.1 j hj
    rcases Nat.lt_trichotomy i j with c | c | c
    · have := h.2.2 i j c hj; omega
    · exact c
    · have := h.2.2 j i c hi; omega)
  refine ⟨g, h1, fun r hr => ⟨(h2 r hr).1, ?_⟩⟩
  have := (h2 r hr).2
  have := h.2.1 (g r) (h2 r hr).1
  omega

theorem info_int : (Tryz.prog.info? 3).map (fun i => (i.zero, i.size, i.bytes)) = some (some (.int .i64 0), 1, 8) := by kernel_rfl

set_option maxHeartbeats 1000000 in
theorem inverse_no (A : Option Addr) (n c : Nat) (f : Nat → Int) (w : World) (h : IntsF w A n f) (hn : n ≤ 140737488351232) (hd : ¬ PermF n f) :
    Calls Tryz.prog 110 #[.slice A n c] w fun e w' => e = .returned (.tuple #[.slice none 0 0, .int .i64 1]) ∧ Fr No w w' := by
  go_enter Tryz.func110, Tryz.ntmps110
  go_wp2_with (go_at_call 174; refine (right_calls A n c f _ h hn false (by simpa using hd)).mono ?_; rintro e w' ⟨rfl, hf⟩)
  go_ret2
  exact ⟨rfl, hf⟩

set_option maxHeartbeats 1000000 in
theorem inverse_yes (A : Option Addr) (n c : Nat) (f : Nat → Int) (w : World) (h : IntsF w A n f) (hd : PermF n f) (g : Nat → Nat) (hg1 : ∀ i, i < n → g (f i).toNat = i) (hg2 : ∀ r, r < n → g r < n ∧ f (g r) = r) :
    Calls Tryz.prog 110 #[.slice A n c] w fun e w' => ∃ b, e = .returned (.tuple #[.slice (some ⟨b, 0, none⟩) n n, .int .i64 0]) ∧ Fr No w w' ∧ w.heap.size ≤ b ∧
      Blk w' b n 3 (fun i => .int .i64 (g i : Nat)) := by
  have hn := hd.1
  have hmk := fun w => run_make_row' (P := Tryz.prog) 34 3 (.int .i64 0) 8 Tryz.underlying34 info_int rfl .i64 .i64 n (by omega) (by omega) w
  have HD := hid hd
  have HG1 := hid hg1
  have HG2 := hid hg2
  clear hd hg1 hg2
  go_enter Tryz.func110, Tryz.ntmps110
  go_wp2_with (go_at_call 174; refine (right_calls A n c f _ h (by omega) true (by simpa using HD.out)).mono ?_; rintro e w1 ⟨rfl, hf⟩)
  have HB := hid (Blk.made w1 n (.int .i64 0) 3)
  have HF := hid hf
  have hsz := hf.size
  clear hf hmk
  go_loopw [15] (fun i wr => ∃ k : Nat, k ≤ n ∧ i = .int .i64 k ∧ Fr No w wr ∧ Blk wr w1.heap.size n 3 (fun i => .int .i64 (if seenF f k i then (g i : Nat) else 0))) (fun i _ => n - (intOf i).toNat)
  case atStart => exact ⟨0, Nat.zero_le _, rfl, HF.out.alloc _, HB.out.congr fun i hi => by simp [seenF]⟩
  case round =>
    obtain ⟨k, hk, rfl, hf, hblk⟩ := hrel
    by_cases hlt : k < n
    · obtain ⟨b, off, rfl, hc⟩ := h (by omega)
      have hck : wr.cell? ⟨b, off + k, none⟩ = some (.int .i64 (f k)) := hf.cell_some (hc k hlt) (fun h => h)
      have hfk := HD.out.2.1 k hlt
      have hcs := hblk.cell (i := (f k).toNat) (by omega)
      have hfs := hblk.frozen (f k).toNat
      have HC := hid hc
      have HF := hid hf
      have HBk := hid hblk
      clear hc hf hblk h
      go_wp2
      go_roundw
      case rel =>
        refine ⟨k + 1, hlt, by go_num, HF.out.setCell (p := ⟨w1.heap.size, _, none⟩) (.inr hsz) _, (HBk.out.setCell (f k).toNat (.int .i64 k)).congr fun i hi => ?_⟩
        simp only [upd, seenF_succ]
        by_cases e : i = (f k).toNat
        · have h1 : f k = (i : Int) := by omega
          have h2 := HG1.out k hlt
          rw [← e] at h2
          rw [if_pos e]; simp [h1, h2]
        · rw [if_neg e]; have : ¬ f k = (i : Int) := by omega
          simp [this]
      case measure => simp [intOf]; omega
    · have e : k = n := by omega
      have HE := hid e
      have HF := hid hf
      have HBk := hid hblk
      clear hf hblk h e
      go_wp2
      go_ret2
      refine ⟨_, rfl, HF.out, hsz, HBk.out.congr fun i hi => ?_⟩
      have hs : seenF f k i = true := (seenF_iff ..).2 ⟨g i, by rw [HE.out]; exact (HG2.out i hi).1, (HG2.out i hi).2⟩
      rw [hs]; rfl

end Go.Proofs.YtoepbhacpidcbaaGreatDoor

/- slices.Clone at numbers; walked. -/
set_option linter.unusedVariables false
set_option linter.unusedSimpArgs false
namespace Go.Proofs.YtoepbhacpidcbaaGreatDoor
open Go.RowKit Go.Deep

theorem i_int : ∃ i, Tryz.prog.info? 3 = some i ∧ i.zero = some (.int .i64 0) ∧ i.size = 1 ∧ i.bytes = 8 := by
  obtain ⟨i, hi, h⟩ := Option.map_eq_some_iff.1 info_int
  simp only [Prod.mk.injEq] at h
  exact ⟨i, hi, h.1, h.2.1, h.2.2⟩

/-- A row of numbers in cells that are one's own. -/
theorem own_cells {w : World} {base e g n cap : Nat} {f : Nat → Int} (h : w.ownsRow base e 1 (.slice (some ⟨g, 0, none⟩) n cap) n ((List.range n).map fun j => .int .i64 (f j))) :
    base ≤ g ∧ g < w.heap.size ∧ n ≤ cap ∧ cap ≤ maxLen ∧ (∀ j, j < n → w.cell? ⟨g, j, none⟩ = some (.int .i64 (f j))) := by
  have hl := h.lt g rfl
  have hc := h.cells (g := g) rfl
  refine ⟨hl.1, hl.2, ?_, ?_, fun j hj => ?_⟩
  · obtain ⟨_, h | ⟨g', cap', cur, e1, _, _, h1, h2, _⟩⟩ := h
    · cases h.1
    · simp only [Value.slice.injEq] at e1; omega
  · obtain ⟨_, h | ⟨g', cap', cur, e1, _, _, h1, h2, _⟩⟩ := h
    · cases h.1
    · simp only [Value.slice.injEq] at e1; unfold maxLen at *; omega
  · have := hc j (.int .i64 (f j)) (by simp [hj])
    rwa [Addr.add_mid, Nat.zero_add] at this

set_option maxHeartbeats 1000000 in
theorem clone_calls (b off n c : Nat) (f : Nat → Int) (w : World) (h : ∀ j, j < n → w.cell? ⟨b, off + j, none⟩ = some (.int .i64 (f j))) (h0 : 0 < n) (hn : n ≤ 17592186043904) :
    Calls Tryz.prog 111 #[.slice (some ⟨b, off, none⟩) n c] w fun e w' => ∃ g cap, e = .returned (.slice (some ⟨g, 0, none⟩) n cap) ∧ Fr No w w' ∧ w.heap.size ≤ g ∧ g < w'.heap.size ∧
      (∀ j, j < n → w'.cell? ⟨g, j, none⟩ = some (.int .i64 (f j))) := by
  have heq := fun w => Lib.run_eql_slice_nil (P := Tryz.prog) w 34 3 (some ⟨b, off, none⟩) n c 0 0 Tryz.underlying34
  obtain ⟨i0, hi, hz0, hz1, hz2⟩ := i_int
  have HI := hid hi
  have HZ0 := hid hz0
  have HZ1 := hid hz1
  have HZ2 := hid hz2
  have H := hid h
  clear hi hz0 hz1 hz2 h
  go_enter Tryz.func111, Tryz.ntmps111
  go_wp2_with (at_builtin; (refine wpList_append_lies _ rfl _ _ _ rfl w.heap.size 3 i0 (.int .i64 0) 1 8 Tryz.underlying34 HI.out HZ0.out HZ1.out HZ2.out rfl (by decide) (.slice (some ⟨w.heap.size, 0, none⟩) 0 0) 0 [] rfl (World.ownsRow_made _ #[] 0 (Nat.le_refl _) (Nat.zero_le _) rfl) ⟨b, off, none⟩ n c ((List.range n).map fun j => .int .i64 (f j)) rfl ?c1 ?c2 ?c3 h0 ?c4 ?c5 ?c6 (w.heap.size + 1) ?c7 ?_))
  case c1 => simp
  case c2 =>
    intro j u hu
    obtain ⟨hj, rfl⟩ : j < n ∧ u = .int .i64 (f j) := by
      rw [List.getElem?_map] at hu
      rcases Nat.lt_or_ge j n with hj | hj
      · rw [List.getElem?_range hj] at hu; simp at hu; exact ⟨hj, hu.symm⟩
      · rw [List.getElem?_eq_none (by simpa using hj)] at hu; simp at hu
    have hc := H.out j hj
    rw [Addr.add_mid, World.cell?_alloc_lt _ _ _ (World.block_lt_of_cell? _ _ hc)]
    exact hc
  case c3 => intro u hu; simp at hu; obtain ⟨j, _, rfl⟩ := hu; rfl
  case c4 => unfold maxLen; omega
  case c5 => omega
  case c6 => simp
  case c7 => simp
  intro g cap w1 hown hgrow hat hlt
  have HO := hid hown
  have HG := hid hgrow
  clear hown hgrow hat
  go_wp2
  go_ret
  obtain ⟨q1, q2, q3, q4, q5⟩ := own_cells HO.out
  exact ⟨g, cap, rfl, ((Fr.refl _ _).alloc _).grown HG.out (fun k e => by cases e; exact .inr (Nat.le_refl _)), q1, q2, q5⟩

end Go.Proofs.YtoepbhacpidcbaaGreatDoor

/- The order of a number: as the document reckons it; that it is an order. Plain mathematics. -/
set_option linter.unusedVariables false
set_option linter.unusedSimpArgs false
namespace Go.Proofs.YtoepbhacpidcbaaGreatDoor
open Go.RowKit

/-- From v on, among k numbers, the a-th that isn't gone. -/
def nth (g : Nat → Bool) : Nat → Nat → Nat → Option Nat
  | 0, _, _ => none
  | k + 1, v, a => if g v then nth g k (v + 1) a else if a = 0 then some v else nth g k (v + 1) (a - 1)

def setN (f : Nat → Nat) (i v : Nat) : Nat → Nat := fun j => if j = i then v else f j
def setB (f : Nat → Bool) (i : Nat) : Nat → Bool := fun j => if j = i then true else f j

structure OfSt where
  out : Nat → Nat
  gone : Nat → Bool
  num : Nat

def ofStep (n r : Nat) (s : OfSt) : OfSt :=
  match nth s.gone n 0 (s.num % (n - r)) with
  | some v => ⟨setN s.out v r, setB s.gone v, s.num / (n - r)⟩
  | none => ⟨s.out, s.gone, s.num / (n - r)⟩
def ofSt (n num : Nat) : Nat → OfSt
  | 0 => ⟨fun _ => 0, fun _ => false, num⟩
  | r + 1 => ofStep n r (ofSt n num r)
/-- Each vertex's rank, by the number. -/
def rankOf (n num v : Nat) : Nat := (ofSt n num n).out v

/-- How many of k numbers from v on aren't gone. -/
def left (g : Nat → Bool) : Nat → Nat → Nat
  | 0, _ => 0
  | k + 1, v => (if g v then 0 else 1) + left g k (v + 1)

theorem nth_some (g : Nat → Bool) : ∀ (k v a : Nat), a < left g k v → ∃ x, nth g k v a = some x ∧ v ≤ x ∧ x < v + k ∧ g x = false := by
  intro k
  induction k with
  | zero => intro v a h; simp [left] at h
  | succ k ih =>
    intro v a h
    simp only [left] at h
    simp only [nth]
    cases hg : g v with
    | true =>
      rw [hg] at h; simp only [if_true] at h ⊢
      obtain ⟨x, h1, h2, h3, h4⟩ := ih (v + 1) a (by omega)
      exact ⟨x, h1, by omega, by omega, h4⟩
    | false =>
      rw [hg] at h; simp only [Bool.false_eq_true, if_false] at h ⊢
      by_cases ha : a = 0
      · rw [if_pos ha]; exact ⟨v, rfl, by omega, by omega, hg⟩
      · rw [if_neg ha]
        obtain ⟨x, h1, h2, h3, h4⟩ := ih (v + 1) (a - 1) (by omega)
        exact ⟨x, h1, by omega, by omega, h4⟩

theorem left_setB_out (g : Nat → Bool) (x : Nat) : ∀ (k v : Nat), (x < v ∨ v + k ≤ x) → left (setB g x) k v = left g k v := by
  intro k
  induction k with
  | zero => intro v _; rfl
  | succ k ih =>
    intro v h
    simp only [left]
    rw [ih (v + 1) (by omega)]
    have : setB g x v = g v := if_neg (by omega)
    rw [this]
theorem left_setB (g : Nat → Bool) (x : Nat) (hx : g x = false) : ∀ (k v : Nat), v ≤ x → x < v + k → left (setB g x) k v + 1 = left g k v := by
  intro k
  induction k with
  | zero => intro v h1 h2; omega
  | succ k ih =>
    intro v h1 h2
    simp only [left]
    by_cases e : v = x
    · subst e
      rw [left_setB_out g v k (v + 1) (by omega)]
      have : setB g v v = true := if_pos rfl
      rw [this, hx]; simp; omega
    · have := ih (v + 1) (by omega) (by omega)
      have hv : setB g x v = g v := if_neg e
      rw [hv]; omega
theorem left_zero (g : Nat → Bool) : ∀ (k v : Nat), left g k v = 0 → ∀ x, v ≤ x → x < v + k → g x = true := by
  intro k
  induction k with
  | zero => intro v _ x h1 h2; omega
  | succ k ih =>
    intro v h x h1 h2
    simp only [left] at h
    by_cases e : x = v
    · subst e
      cases hg : g x with
      | true => rfl
      | false => rw [hg] at h; simp at h
    · exact ih (v + 1) (by omega) x (by omega) (by omega)
theorem left_all : ∀ (k v : Nat), left (fun _ => false) k v = k := by
  intro k
  induction k with
  | zero => intro v; rfl
  | succ k ih => intro v; simp only [left]; rw [ih]; simp; omega

structure OfInv (n r : Nat) (s : OfSt) : Prop where
  left : left s.gone n 0 = n - r
  lt : ∀ v, s.gone v = true → s.out v < r
  inj : ∀ u v, s.gone u = true → s.gone v = true → s.out u = s.out v → u = v

theorem ofInv (n num : Nat) : ∀ r, r ≤ n → OfInv n r (ofSt n num r) := by
  intro r
  induction r with
  | zero => intro _; exact ⟨left_all n 0, fun v h => (by cases h), fun u v h => (by cases h)⟩
  | succ r ih =>
    intro hr
    have h := ih (by omega)
    simp only [ofSt]
    have hm : (ofSt n num r).num % (n - r) < left (ofSt n num r).gone n 0 := by rw [h.left]; exact Nat.mod_lt _ (by omega)
    obtain ⟨x, e, h1, h2, h3⟩ := nth_some _ _ _ _ hm
    simp only [ofStep, e]
    refine ⟨?_, fun v hv => ?_, fun u v hu hv huv => ?_⟩
    · have := left_setB (ofSt n num r).gone x h3 n 0 (by omega) (by omega)
      have := h.left
      show Go.Proofs.YtoepbhacpidcbaaGreatDoor.left (setB (ofSt n num r).gone x) n 0 = n - (r + 1)
      omega
    · simp only [setB, setN] at hv ⊢
      by_cases e : v = x
      · rw [if_pos e]; omega
      · rw [if_neg e] at hv ⊢; have := h.lt v hv; omega
    · simp only [setB, setN] at hu hv huv
      by_cases eu : u = x
      · by_cases ev : v = x
        · omega
        · rw [if_pos eu, if_neg ev] at huv; rw [if_neg ev] at hv
          have := h.lt v hv; omega
      · by_cases ev : v = x
        · rw [if_neg eu, if_pos ev] at huv; rw [if_neg eu] at hu
          have := h.lt u hu; omega
        · rw [if_neg eu, if_neg ev] at huv; rw [if_neg eu] at hu; rw [if_neg ev] at hv
          exact h.inj u v hu hv huv

theorem ofSt_num_le (n num : Nat) : ∀ r, (ofSt n num r).num ≤ num := by
  intro r
  induction r with
  | zero => exact Nat.le_refl _
  | succ r ih =>
    have e : (ofSt n num (r + 1)).num = (ofSt n num r).num / (n - r) := by
      simp only [ofSt, ofStep]
      cases nth (ofSt n num r).gone n 0 ((ofSt n num r).num % (n - r)) <;> rfl
    rw [e]
    exact Nat.le_trans (Nat.div_le_self _ _) ih

/-- The vertex that comes next. -/
theorem ofNext (n num r : Nat) (hr : r < n) : ∃ x, nth (ofSt n num r).gone n 0 ((ofSt n num r).num % (n - r)) = some x ∧ x < n ∧ (ofSt n num r).gone x = false ∧
    ofSt n num (r + 1) = ⟨setN (ofSt n num r).out x r, setB (ofSt n num r).gone x, (ofSt n num r).num / (n - r)⟩ := by
  have h := ofInv n num r (by omega)
  have hm : (ofSt n num r).num % (n - r) < left (ofSt n num r).gone n 0 := by rw [h.left]; exact Nat.mod_lt _ (by omega)
  obtain ⟨x, e, h1, h2, h3⟩ := nth_some _ _ _ _ hm
  exact ⟨x, e, by omega, h3, by simp only [ofSt, ofStep, e]⟩

theorem rankOf_lt (n num v : Nat) (hv : v < n) : rankOf n num v < n := by
  have h := ofInv n num n (Nat.le_refl _)
  exact h.lt v (left_zero _ n 0 (by rw [h.left]; omega) v (by omega) (by omega))
theorem rankOf_inj (n num u v : Nat) (hu : u < n) (hv : v < n) (e : rankOf n num u = rankOf n num v) : u = v := by
  have h := ofInv n num n (Nat.le_refl _)
  exact h.inj u v (left_zero _ n 0 (by rw [h.left]; omega) u (by omega) (by omega)) (left_zero _ n 0 (by rw [h.left]; omega) v (by omega) (by omega)) e

end Go.Proofs.YtoepbhacpidcbaaGreatDoor

/- The order of a number, as the document reckons it; walked. -/
set_option linter.unusedVariables false
set_option linter.unusedSimpArgs false
namespace Go.Proofs.YtoepbhacpidcbaaGreatDoor
open Go.RowKit Go.Deep

set_option maxHeartbeats 400000 in
theorem held_calls (n : Int) (w : World) (h0 : 0 ≤ n) (h1 : n ≤ 24) :
    Calls Tryz.prog 143 #[.int .i64 n] w fun e w' => e = .returned (.int .i64 n) ∧ w = w' := by
  go_enter Tryz.func143, Tryz.ntmps143
  go_wp2
  go_ret
  exact ⟨rfl, rfl⟩

theorem info_bool : (Tryz.prog.info? 4).map (fun i => (i.zero, i.size, i.bytes)) = some (some (.bool false), 1, 1) := by kernel_rfl

set_option maxRecDepth 100000 in
set_option maxHeartbeats 2000000 in
theorem of_calls (n num : Nat) (w : World) (h0 : 0 < n) (h1 : n ≤ 24) (hnum : (num : Int) ≤ 18446744073709551615) :
    Calls Tryz.prog 73 #[.int .i64 (n : Nat), .int .u64 (num : Nat)] w fun e w' => ∃ b, e = .returned (.slice (some ⟨b, 0, none⟩) n n) ∧ Fr No w w' ∧ w.heap.size ≤ b ∧
      Blk w' b n 3 (fun i => .int .i64 (rankOf n num i : Nat)) := by
  have hmk := fun w => run_make_row' (P := Tryz.prog) 34 3 (.int .i64 0) 8 Tryz.underlying34 info_int rfl .i64 .i64 n (by omega) (by omega) w
  have hmb := fun w => run_make_row' (P := Tryz.prog) 147 4 (.bool false) 1 Tryz.underlying147 info_bool rfl .i64 .i64 n (by omega) (by omega) w
  go_enter Tryz.func73, Tryz.ntmps73
  go_wp2_with (go_at_call 143; refine (held_calls _ _ (by omega) (by omega)).mono ?_; rintro e w1 ⟨rfl, rfl⟩)
  have HB1 := hid ((Blk.made w n (.int .i64 0) 3).alloc (.cells (madeCells #[.bool false] n) 4))
  have HB2 := hid (Blk.made (w.alloc (.cells (madeCells #[.int .i64 0] n) 3)) n (.bool false) 4)
  clear hmk hmb
  go_loopw [1, 7] (fun c i wr => ∃ r : Nat, r ≤ n ∧ i = .int .i64 r ∧ c = .int .u64 ((ofSt n num r).num : Nat) ∧ Fr No w wr ∧ Blk wr w.heap.size n 3 (fun i => .int .i64 ((ofSt n num r).out i : Nat)) ∧
      Blk wr (w.heap.size + 1) n 4 (fun i => .bool ((ofSt n num r).gone i))) (fun _ i _ => n - (intOf i).toNat)
  case atStart => exact ⟨0, Nat.zero_le _, rfl, rfl, ((Fr.refl _ _).alloc _).alloc _, HB1.out, by have := HB2.out; simp only [World.size_alloc] at this; exact this⟩
  case round =>
    obtain ⟨r, hr, rfl, rfl, hf, hb1, hb2⟩ := hrel
    by_cases hlt : r < n
    · have hm1 := ofSt_num_le n num r
      obtain ⟨x, hx, hxn, hgx, hst⟩ := ofNext n num r hlt
      have HF := hid hf
      have HB1 := hid hb1
      have HB2 := hid hb2
      have HX := hid hx
      have HST := hid hst
      have HGX := hid hgx
      obtain ⟨m, hm⟩ : ∃ m, m = (ofSt n num r).num := ⟨_, rfl⟩
      rw [← hm] at hm1 ⊢
      have HM := hid hm
      clear hf hb1 hb2 hx hst hgx hm
      have hq0 : (0 : Int) ≤ (m : Int) % ((n : Int) - (r : Int)) := Int.emod_nonneg _ (by omega)
      have hq1 : (m : Int) % ((n : Int) - (r : Int)) < (n : Int) - (r : Int) := Int.emod_lt_of_pos _ (by omega)
      have hq2 : (0 : Int) ≤ (m : Int) / ((n : Int) - (r : Int)) := Int.ediv_nonneg (by omega) (by omega)
      have hq3 : (m : Int) / ((n : Int) - (r : Int)) ≤ 18446744073709551615 := by
        have h1 : (m : Int) / ((n : Int) - (r : Int)) ≤ (m : Int) := Int.ediv_le_self _ (by omega)
        omega
      go_wp2
      go_loop [9, 10] (fun p q => ∃ v a : Nat, v ≤ n ∧ q = .int .i64 v ∧ p = .int .i64 a ∧ a ≤ 24 ∧ nth (ofSt n num r).gone (n - v) v a = some x) (fun _ q => n - (intOf q).toNat)
      case atStart =>
        refine ⟨0, m % (n - r), Nat.zero_le _, rfl, ?_, by have := Nat.mod_lt m (show 0 < n - r by omega); omega, ?_⟩
        · have : ((m : Int) % ((n : Int) - (r : Int))) = ((m % (n - r) : Nat) : Int) := by
            rw [Int.natCast_emod]; congr 1; omega
          rw [← this]
        · have := HX.out; rw [HM.out]; exact this
      case round =>
        obtain ⟨v, a, hv, rfl, rfl, ha24, hn⟩ := hrel
        by_cases hvn : v < n
        · have hcg := HB2.out.cell hvn
          have HN := hid hn
          clear hn
          have hstep : nth (ofSt n num r).gone (n - v) v a = if (ofSt n num r).gone v then nth (ofSt n num r).gone (n - (v + 1)) (v + 1) a else if a = 0 then some v else nth (ofSt n num r).gone (n - (v + 1)) (v + 1) (a - 1) := by
            obtain ⟨k, hk⟩ : ∃ k, n - v = k + 1 := ⟨n - v - 1, by omega⟩
            rw [hk, show n - (v + 1) = k by omega]; rfl
          have HS := hid hstep
          clear hstep
          cases hg : (ofSt n num r).gone v with
          | true =>
            rw [hg] at hcg
            have HG := hid hg
            clear hg
            go_wp2
            go_round
            case rel => exact ⟨v + 1, a, by omega, by go_num, rfl, ha24, by have h1 := HS.out; rw [HG.out, if_pos rfl] at h1; rw [← h1]; exact HN.out⟩
            case measure => simp [intOf]; omega
          | false =>
            rw [hg] at hcg
            have HG := hid hg
            clear hg
            by_cases ha : a = 0
            · subst ha
              obtain rfl : x = v := by
                have h1 := HS.out; have h2 := HN.out
                rw [h1, HG.out] at h2; simp at h2; exact h2.symm
              have hc1 := HB1.out.cell hvn
              have hf1 : ∀ i, wr.frozen? ⟨w.heap.size, i, none⟩ = false := fun i => HB1.out.frozen i
              have hf2 : ∀ i, wr.frozen? ⟨w.heap.size + 1, i, none⟩ = false := fun i => HB2.out.frozen i
              go_wp2
              go_roundw
              case rel =>
                refine ⟨r + 1, hlt, by go_num, ?_, (HF.out.setCell (p := ⟨w.heap.size, _, none⟩) (.inr (Nat.le_refl _)) _).setCell (p := ⟨w.heap.size + 1, _, none⟩) (.inr (Nat.le_succ _)) _, ?_, ?_⟩
                · rw [HST.out, HM.out]; congr 1; rw [Int.natCast_ediv]; congr 1; omega
                · rw [HST.out]
                  refine ((HB1.out.setCell x (.int .i64 r)).setCell_ne (p := ⟨w.heap.size + 1, _, none⟩) (by simp) _).congr fun i _ => ?_
                  simp only [upd, setN]; split <;> rfl
                · rw [HST.out]
                  refine ((HB2.out.setCell_ne (p := ⟨w.heap.size, _, none⟩) (by simp) _).setCell x (.bool true)).congr fun i _ => ?_
                  simp only [upd, setB]; split <;> rfl
              case measure => simp [intOf]; omega
            · have hpos : 1 ≤ a := by omega
              have HA := hid ha
              clear ha
              go_wp2
              go_round
              case rel => exact ⟨v + 1, a - 1, by omega, by go_num, by congr 1; omega, by omega, by have h1 := HS.out; rw [HG.out, if_neg (by simp), if_neg HA.out] at h1; rw [← h1]; exact HN.out⟩
              case measure => simp [intOf]; omega
        · have e : n - v = 0 := by omega
          rw [e] at hn; cases hn
    · have e : r = n := by omega
      have HE := hid e
      have HF := hid hf
      have HB1 := hid hb1
      clear hf hb1 hb2 e
      go_wp2
      go_ret
      exact ⟨_, rfl, HF.out, Nat.le_refl _, HB1.out.congr fun i hi => by rw [HE.out]; rfl⟩

end Go.Proofs.YtoepbhacpidcbaaGreatDoor
