/- More base words: numbers made by 'make', a row of numbers, pieces of a walk for one operation. -/
import Derived.Test.YtakgjihhgpnnfaaDoorBase
import Derived.Deep.OwnRows
import Derived.Test.YtakgjihhgpnnfaaDoorIdxA
import Derived.Deep.AppendLies
import Derived.Deep.MidRow
set_option linter.unusedVariables false
set_option linter.unusedSimpArgs false
namespace Go.Proofs.YtakgjihhgpnnfaaDoor
open Go.RowKit Go.Deep

theorem made_get (z : Value) (n i : Nat) (h : i < n) : (madeCells #[z] n)[i]? = some z := by
  have hs : i < (madeCells #[z] n).size := by rw [size_madeCells]; exact h
  rw [Array.getElem?_eq_getElem hs]
  simp only [madeCells, Array.getElem_map, Array.getElem_range]
  simp [Nat.mod_one]

theorem Blk.made (w : World) (n : Nat) (z : Value) (T : TypeId) : Blk (w.alloc (.cells (madeCells #[z] n) T)) w.heap.size n T (fun _ => z) :=
  ⟨_, heap_new _ _, size_madeCells _ _, fun i hi => made_get z n i hi⟩

/-- The value of one operation of a region, known outright. -/
theorem wpList_val {P : Program} {ops : Array Oper} {Q : Exit → Act → World → Prop} {a : Act} {w w' : World} {rest : List Oper} {o : Oper} (hg : o.guard = none) (v : Value)
    (hrun : (execOp a.eval o).run P w = .ok (.value v) w') (h : wpList P ops Q rest (a.put o.dst v) w') : wpList P ops Q (o :: rest) a w :=
  wpList_plain hg fun K hK => by unfold Oper.wp; rw [hrun]; exact hK _ _ h

end Go.Proofs.YtakgjihhgpnnfaaDoor

/- A function that takes no value twice below n, all its values below n, meets each number below n: its inverse. Plain mathematics. -/
set_option linter.unusedVariables false
set_option linter.unusedSimpArgs false
namespace Go.Proofs.YtakgjihhgpnnfaaDoor
open Go.RowKit

theorem pigeon : ∀ (n : Nat) (f : Nat → Nat), (∀ i, i < n → f i < n) → (∀ i j, i < n → j < n → f i = f j → i = j) → ∀ y, y < n → ∃ i, i < n ∧ f i = y := by
  intro n
  induction n with
  | zero => intro f _ _ y hy; omega
  | succ n ih =>
    intro f hf hinj y hy
    by_cases hm : f n = n
    · by_cases hyn : y = n
      · exact ⟨n, by omega, by omega⟩
      · obtain ⟨i, hi, e⟩ := ih f (fun i hi => by
          have h1 := hf i (by omega)
          have h2 : f i ≠ n := fun e => by have := hinj i n (by omega) (by omega) (by omega); omega
          omega) (fun i j hi hj e => hinj i j (by omega) (by omega) e) y (by omega)
        exact ⟨i, by omega, e⟩
    · have hmn := hf n (by omega)
      have key := ih (fun i => if f i = n then f n else f i) (fun i hi => by
        have h1 := hf i (by omega)
        show (if f i = n then f n else f i) < n
        split <;> omega) (fun i j hi hj e => by
        have e' : (if f i = n then f n else f i) = (if f j = n then f n else f j) := e
        by_cases a : f i = n
        · by_cases b : f j = n
          · exact hinj i j (by omega) (by omega) (by omega)
          · rw [if_pos a, if_neg b] at e'
            have := hinj n j (by omega) (by omega) e'; omega
        · by_cases b : f j = n
          · rw [if_neg a, if_pos b] at e'
            have := hinj i n (by omega) (by omega) e'; omega
          · rw [if_neg a, if_neg b] at e'
            exact hinj i j (by omega) (by omega) e')
      by_cases hyn : y = n
      · obtain ⟨i, hi, e⟩ := key (f n) (by omega)
        have e' : (if f i = n then f n else f i) = f n := e
        by_cases a : f i = n
        · exact ⟨i, by omega, by omega⟩
        · rw [if_neg a] at e'
          have := hinj i n (by omega) (by omega) e'; omega
      · obtain ⟨i, hi, e⟩ := key y (by omega)
        have e' : (if f i = n then f n else f i) = y := e
        by_cases a : f i = n
        · rw [if_pos a] at e'; exact ⟨n, by omega, e'⟩
        · rw [if_neg a] at e'; exact ⟨i, by omega, e'⟩

theorem inverse_of (n : Nat) (f : Nat → Nat) (hf : ∀ i, i < n → f i < n) (hinj : ∀ i j, i < n → j < n → f i = f j → i = j) :
    ∃ g : Nat → Nat, (∀ i, i < n → g (f i) = i) ∧ (∀ r, r < n → g r < n ∧ f (g r) = r) := by
  have h := pigeon n f hf hinj
  refine ⟨fun r => if h' : r < n then Classical.choose (h r h') else 0, fun i hi => ?_, fun r hr => ?_⟩
  · have hr := hf i hi
    have hs := Classical.choose_spec (h (f i) hr)
    simp only [dif_pos hr]
    exact hinj _ _ hs.1 hi hs.2
  · have hs := Classical.choose_spec (h r hr)
    simp only [dif_pos hr]
    exact hs

end Go.Proofs.YtakgjihhgpnnfaaDoor

/- Orders as the program asks and turns them: perm.Right, perm.Inverse, slices.Clone; walked. -/
set_option linter.unusedVariables false
set_option linter.unusedSimpArgs false
namespace Go.Proofs.YtakgjihhgpnnfaaDoor
open Go.RowKit Go.Deep

/-- A slice's numbers, as a function of the place. -/
def IntsF (w : World) (A : Option Addr) (n : Nat) (f : Nat → Int) : Prop :=
  0 < n → ∃ b off, A = some ⟨b, off, none⟩ ∧ ∀ j, j < n → w.cell? ⟨b, off + j, none⟩ = some (.int .i64 (f j))

theorem IntsF.fr {w w' : World} {A : Option Addr} {n : Nat} {f : Nat → Int} (h : IntsF w A n f) (hf : Fr No w w') : IntsF w' A n f := fun hn => by
  obtain ⟨b, off, e, hc⟩ := h hn
  exact ⟨b, off, e, fun j hj => hf.cell_some (hc j hj) (fun h => h)⟩

def PermF (n : Nat) (f : Nat → Int) : Prop := n ≤ 24 ∧ (∀ j, j < n → 0 ≤ f j ∧ f j < n) ∧ (∀ i j, i < j → j < n → f i ≠ f j)

/-- Seen among the first k. -/
def seenF (f : Nat → Int) (k : Nat) (i : Nat) : Bool := (List.range k).any fun j => f j == (i : Int)
theorem seenF_iff (f : Nat → Int) (k i : Nat) : seenF f k i = true ↔ ∃ j, j < k ∧ f j = i := by
  simp [seenF, List.any_eq_true]
theorem seenF_succ (f : Nat → Int) (k i : Nat) : seenF f (k + 1) i = (seenF f k i || (f k == (i : Int))) := by
  simp [seenF, List.range_succ, List.any_append]

set_option maxHeartbeats 1000000 in
theorem right_calls (A : Option Addr) (n c : Nat) (f : Nat → Int) (w : World) (h : IntsF w A n f) (hn : n ≤ 140737488351232) (d : Bool) (hd : d = true ↔ PermF n f) :
    Calls Tryd.prog 87 #[.slice A n c] w fun e w' => e = .returned (.bool d) ∧ Fr No w w' := by
  by_cases hbig : 24 < n
  · have e : d = false := by
      cases d with
      | false => rfl
      | true => have := (hd.1 rfl).1; omega
    subst e
    clear hd
    go_enter Tryd.func87, Tryd.ntmps87
    go_wp2
    go_ret
    exact ⟨rfl, Fr.refl _ _⟩
  · have hB := Blk.new_rep w 24 (.bool false) 149 (fun i => .bool (seenF f 0 i)) (fun i hi => rfl)
    have HB := hid hB
    clear hB
    go_enter Tryd.func87, Tryd.ntmps87
    go_wp2
    go_loopw [11] (fun i wr => ∃ k : Nat, k ≤ n ∧ i = .int .i64 k ∧ Fr No w wr ∧ Blk wr w.heap.size 24 149 (fun i => .bool (seenF f k i)) ∧
        (∀ j, j < k → 0 ≤ f j ∧ f j < n) ∧ (∀ i j, i < j → j < k → f i ≠ f j)) (fun i _ => n - (intOf i).toNat)
    case atStart => exact ⟨0, Nat.zero_le _, rfl, (Fr.refl _ _).alloc _, HB.out, fun j hj => by omega, fun i j _ hj => by omega⟩
    case round =>
      obtain ⟨k, hk, rfl, hf, hblk, hr1, hr2⟩ := hrel
      by_cases hlt : k < n
      · obtain ⟨b, off, rfl, hc⟩ := h (by omega)
        have hck : wr.cell? ⟨b, off + k, none⟩ = some (.int .i64 (f k)) := hf.cell_some (hc k hlt) (fun h => h)
        have HC := hid hc
        have HF := hid hf
        have HR1 := hid hr1
        have HR2 := hid hr2
        have HBk := hid hblk
        clear hc hf hr1 hr2 hblk h
        by_cases h1 : f k < 0
        · have e : d = false := by
            cases d with
            | false => rfl
            | true => have := ((hd.1 rfl).2.1 k hlt).1; omega
          subst e
          clear hd
          go_wp2
          go_ret
          exact ⟨rfl, HF.out⟩
        · by_cases h2 : (n : Int) ≤ f k
          · have e : d = false := by
              cases d with
              | false => rfl
              | true => have := ((hd.1 rfl).2.1 k hlt).2; omega
            subst e
            clear hd
            go_wp2
            go_ret
            exact ⟨rfl, HF.out⟩
          · have hcs := HBk.out.cell (i := (f k).toNat) (by omega)
            have hfs := HBk.out.frozen (f k).toNat
            have hfk : ((f k).toNat : Int) = f k := by omega
            cases hs : seenF f k (f k).toNat with
            | true =>
              have e : d = false := by
                cases d with
                | false => rfl
                | true =>
                  obtain ⟨j, hj, ej⟩ := (seenF_iff ..).1 hs
                  exact absurd (ej.trans hfk) ((hd.1 rfl).2.2 j k hj hlt)
              subst e
              clear hd hfk
              go_wp2
              go_ret
              exact ⟨rfl, HF.out⟩
            | false =>
              have HK := hid hfk
              have HS := hid hs
              have HD := hid hd
              rw [hs] at hcs
              clear hfk hs hd
              go_wp2
              go_roundw
              case rel =>
                refine ⟨k + 1, hlt, by go_num, HF.out.setCell (p := ⟨w.heap.size, _, none⟩) (.inr (Nat.le_refl _)) _, ?_, fun j hj => ?_, fun i j hij hj => ?_⟩
                · refine (HBk.out.setCell (f k).toNat (.bool true)).congr fun i hi => ?_
                  simp only [upd, seenF_succ]
                  by_cases e : i = (f k).toNat
                  · rw [if_pos e]; have : f k = (i : Int) := by omega
                    simp [this]
                  · rw [if_neg e]; have : ¬ f k = (i : Int) := by omega
                    simp [this]
                · rcases Nat.lt_succ_iff_lt_or_eq.1 hj with hj | rfl
                  · exact HR1.out j hj
                  · omega
                · rcases Nat.lt_succ_iff_lt_or_eq.1 hj with hj | rfl
                  · exact HR2.out i j hij hj
                  · intro e
                    have := (seenF_iff f j (f j).toNat).2 ⟨i, hij, e.trans HK.out.symm⟩
                    rw [HS.out] at this; cases this
              case measure => simp [intOf]; omega
      · have e : d = true := hd.2 ⟨by omega, fun j hj => hr1 j (by omega), fun i j hij hj => hr2 i j hij (by omega)⟩
        subst e
        clear hd
        have HF := hid hf
        clear hf hr1 hr2
        go_wp2
        go_ret
        exact ⟨rfl, HF.out⟩


theorem PermF.inv {n : Nat} {f : Nat → Int} (h : PermF n f) : ∃ g : Nat → Nat, (∀ i, i < n → g (f i).toNat = i) ∧ (∀ r, r < n → g r < n ∧ f (g r) = r) := by
  obtain ⟨g, h1, h2⟩ := inverse_of n (fun i => (f i).toNat) (fun i hi => by have := h.2.1 i hi; omega) (fun i j hi hj e => by
    have a := h.2.1 i hi
    have b := h.2.1 j hj
    rcases Nat.lt_trichotomy i j with c | c | c
    · have := h.2.2 i j c hj; omega
    · exact c
    · have := h.2.2 j i c hi; omega)
  refine ⟨g, h1, fun r hr => ⟨(h2 r hr).1, ?_⟩⟩
  have := (h2 r hr).2
  have := h.2.1 (g r) (h2 r hr).1
  omega

theorem info_int : (Tryd.prog.info? 3).map (fun i => (i.zero, i.size, i.bytes)) = some (some (.int .i64 0), 1, 8) := by kernel_rfl

set_option maxHeartbeats 1000000 in
theorem inverse_no (A : Option Addr) (n c : Nat) (f : Nat → Int) (w : World) (h : IntsF w A n f) (hn : n ≤ 140737488351232) (hd : ¬ PermF n f) :
    Calls Tryd.prog 62 #[.slice A n c] w fun e w' => e = .returned (.tuple #[.slice none 0 0, .int .i64 1]) ∧ Fr No w w' := by
  go_enter Tryd.func62, Tryd.ntmps62
  go_wp2_with (go_at_call 87; refine (right_calls A n c f _ h hn false (by simpa using hd)).mono ?_; rintro e w' ⟨rfl, hf⟩)
  go_ret2
  exact ⟨rfl, hf⟩

set_option maxHeartbeats 1000000 in
theorem inverse_yes (A : Option Addr) (n c : Nat) (f : Nat → Int) (w : World) (h : IntsF w A n f) (hd : PermF n f) (g : Nat → Nat) (hg1 : ∀ i, i < n → g (f i).toNat = i) (hg2 : ∀ r, r < n → g r < n ∧ f (g r) = r) :
    Calls Tryd.prog 62 #[.slice A n c] w fun e w' => ∃ b, e = .returned (.tuple #[.slice (some ⟨b, 0, none⟩) n n, .int .i64 0]) ∧ Fr No w w' ∧ w.heap.size ≤ b ∧
      Blk w' b n 3 (fun i => .int .i64 (g i : Nat)) := by
  have hn := hd.1
  have hmk := fun w => run_make_row' (P := Tryd.prog) 29 3 (.int .i64 0) 8 Tryd.underlying29 info_int rfl .i64 .i64 n (by omega) (by omega) w
  have HD := hid hd
  have HG1 := hid hg1
  have HG2 := hid hg2
  clear hd hg1 hg2
  go_enter Tryd.func62, Tryd.ntmps62
  go_wp2_with (go_at_call 87; refine (right_calls A n c f _ h (by omega) true (by simpa using HD.out)).mono ?_; rintro e w1 ⟨rfl, hf⟩)
  have HB := hid (Blk.made w1 n (.int .i64 0) 3)
  have HF := hid hf
  have hsz := hf.size
  clear hf hmk
  go_loopw [15] (fun i wr => ∃ k : Nat, k ≤ n ∧ i = .int .i64 k ∧ Fr No w wr ∧ Blk wr w1.heap.size n 3 (fun i => .int .i64 (if seenF f k i then (g i : Nat) else 0))) (fun i _ => n - (intOf i).toNat)
  case atStart => exact ⟨0, Nat.zero_le _, rfl, HF.out.alloc _, HB.out.congr fun i hi => by simp [seenF]⟩
  case round =>
    obtain ⟨k, hk, rfl, hf, hblk⟩ := hrel
    by_cases hlt : k < n
    · obtain ⟨b, off, rfl, hc⟩ := h (by omega)
      have hck : wr.cell? ⟨b, off + k, none⟩ = some (.int .i64 (f k)) := hf.cell_some (hc k hlt) (fun h => h)
      have hfk := HD.out.2.1 k hlt
      have hcs := hblk.cell (i := (f k).toNat) (by omega)
      have hfs := hblk.frozen (f k).toNat
      have HC := hid hc
      have HF := hid hf
      have HBk := hid hblk
      clear hc hf hblk h
      go_wp2
      go_roundw
      case rel =>
        refine ⟨k + 1, hlt, by go_num, HF.out.setCell (p := ⟨w1.heap.size, _, none⟩) (.inr hsz) _, (HBk.out.setCell (f k).toNat (.int .i64 k)).congr fun i hi => ?_⟩
        simp only [upd, seenF_succ]
        by_cases e : i = (f k).toNat
        · have h1 : f k = (i : Int) := by omega
          have h2 := HG1.out k hlt
          rw [← e] at h2
          rw [if_pos e]; simp [h1, h2]
        · rw [if_neg e]; have : ¬ f k = (i : Int) := by omega
          simp [this]
      case measure => simp [intOf]; omega
    · have e : k = n := by omega
      have HE := hid e
      have HF := hid hf
      have HBk := hid hblk
      clear hf hblk h e
      go_wp2
      go_ret2
      refine ⟨_, rfl, HF.out, hsz, HBk.out.congr fun i hi => ?_⟩
      have hs : seenF f k i = true := (seenF_iff ..).2 ⟨g i, by rw [HE.out]; exact (HG2.out i hi).1, (HG2.out i hi).2⟩
      rw [hs]; rfl

end Go.Proofs.YtakgjihhgpnnfaaDoor

/- slices.Clone at numbers; walked. -/
set_option linter.unusedVariables false
set_option linter.unusedSimpArgs false
namespace Go.Proofs.YtakgjihhgpnnfaaDoor
open Go.RowKit Go.Deep

theorem i_int : ∃ i, Tryd.prog.info? 3 = some i ∧ i.zero = some (.int .i64 0) ∧ i.size = 1 ∧ i.bytes = 8 := by
  obtain ⟨i, hi, h⟩ := Option.map_eq_some_iff.1 info_int
  simp only [Prod.mk.injEq] at h
  exact ⟨i, hi, h.1, h.2.1, h.2.2⟩

/-- A row of numbers in cells that are one's own. -/
theorem own_cells {w : World} {base e g n cap : Nat} {f : Nat → Int} (h : w.ownsRow base e 1 (.slice (some ⟨g, 0, none⟩) n cap) n ((List.range n).map fun j => .int .i64 (f j))) :
    base ≤ g ∧ g < w.heap.size ∧ n ≤ cap ∧ cap ≤ maxLen ∧ (∀ j, j < n → w.cell? ⟨g, j, none⟩ = some (.int .i64 (f j))) := by
  have hl := h.lt g rfl
  have hc := h.cells (g := g) rfl
  refine ⟨hl.1, hl.2, ?_, ?_, fun j hj => ?_⟩
  · obtain ⟨_, h | ⟨g', cap', cur, e1, _, _, h1, h2, _⟩⟩ := h
    · cases h.1
    · simp only [Value.slice.injEq] at e1; omega
  · obtain ⟨_, h | ⟨g', cap', cur, e1, _, _, h1, h2, _⟩⟩ := h
    · cases h.1
    · simp only [Value.slice.injEq] at e1; unfold maxLen at *; omega
  · have := hc j (.int .i64 (f j)) (by simp [hj])
    rwa [Addr.add_mid, Nat.zero_add] at this

set_option maxHeartbeats 1000000 in
theorem clone_calls (b off n c : Nat) (f : Nat → Int) (w : World) (h : ∀ j, j < n → w.cell? ⟨b, off + j, none⟩ = some (.int .i64 (f j))) (h0 : 0 < n) (hn : n ≤ 17592186043904) :
    Calls Tryd.prog 63 #[.slice (some ⟨b, off, none⟩) n c] w fun e w' => ∃ g cap, e = .returned (.slice (some ⟨g, 0, none⟩) n cap) ∧ Fr No w w' ∧ w.heap.size ≤ g ∧ g < w'.heap.size ∧
      (∀ j, j < n → w'.cell? ⟨g, j, none⟩ = some (.int .i64 (f j))) := by
  have heq := fun w => Lib.run_eql_slice_nil (P := Tryd.prog) w 29 3 (some ⟨b, off, none⟩) n c 0 0 Tryd.underlying29
  obtain ⟨i0, hi, hz0, hz1, hz2⟩ := i_int
  have HI := hid hi
  have HZ0 := hid hz0
  have HZ1 := hid hz1
  have HZ2 := hid hz2
  have H := hid h
  clear hi hz0 hz1 hz2 h
  go_enter Tryd.func63, Tryd.ntmps63
  go_wp2_with (at_builtin; (refine wpList_append_lies _ rfl _ _ _ rfl w.heap.size 3 i0 (.int .i64 0) 1 8 Tryd.underlying29 HI.out HZ0.out HZ1.out HZ2.out rfl (by decide) (.slice (some ⟨w.heap.size, 0, none⟩) 0 0) 0 [] rfl (World.ownsRow_made _ #[] 0 (Nat.le_refl _) (Nat.zero_le _) rfl) ⟨b, off, none⟩ n c ((List.range n).map fun j => .int .i64 (f j)) rfl ?c1 ?c2 ?c3 h0 ?c4 ?c5 ?c6 (w.heap.size + 1) ?c7 ?_))
  case c1 => simp
  case c2 =>
    intro j u hu
    obtain ⟨hj, rfl⟩ : j < n ∧ u = .int .i64 (f j) := by
      rw [List.getElem?_map] at hu
      rcases Nat.lt_or_ge j n with hj | hj
      · rw [List.getElem?_range hj] at hu; simp at hu; exact ⟨hj, hu.symm⟩
      · rw [List.getElem?_eq_none (by simpa using hj)] at hu; simp at hu
    have hc := H.out j hj
    rw [Addr.add_mid, World.cell?_alloc_lt _ _ _ (World.block_lt_of_cell? _ _ hc)]
    exact hc
  case c3 => intro u hu; simp at hu; obtain ⟨j, _, rfl⟩ := hu; rfl
  case c4 => unfold maxLen; omega
  case c5 => omega
  case c6 => simp
  case c7 => simp
  intro g cap w1 hown hgrow hat hlt
  have HO := hid hown
  have HG := hid hgrow
  clear hown hgrow hat
  go_wp2
  go_ret
  obtain ⟨q1, q2, q3, q4, q5⟩ := own_cells HO.out
  exact ⟨g, cap, rfl, ((Fr.refl _ _).alloc _).grown HG.out (fun k e => by cases e; exact .inr (Nat.le_refl _)), q1, q2, q5⟩

end Go.Proofs.YtakgjihhgpnnfaaDoor
