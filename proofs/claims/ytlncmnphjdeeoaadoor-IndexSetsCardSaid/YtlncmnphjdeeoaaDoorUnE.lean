/- From vertex to vertex: the program's and the document's 'Way'; walked. -/
import Derived.Test.YtlncmnphjdeeoaaDoorUnD
import Derived.Test.YtlncmnphjdeeoaaDoorApp2
import Derived.StillTailTactics
set_option linter.unusedVariables false
set_option linter.unusedSimpArgs false
namespace Go.Proofs.YtlncmnphjdeeoaaDoor
open Go.RowKit Go.Deep

/-- The arcs of k ways, one behind the other; or the first code. -/
def Ix.wayTo (x : Ix) (f : Nat → Int) : Nat → List Int × Int
  | 0 => ([], 0)
  | k + 1 => if (x.wayTo f k).2 ≠ 0 then x.wayTo f k else if (x.arcs (f k) (f (k + 1))).2 ≠ 0 then ([], (x.arcs (f k) (f (k + 1))).2) else ((x.wayTo f k).1 ++ (x.arcs (f k) (f (k + 1))).1, 0)

theorem Ix.wayTo_stay (x : Ix) (f : Nat → Int) (k : Nat) (h : (x.wayTo f k).2 ≠ 0) : ∀ j, x.wayTo f (k + j) = x.wayTo f k := by
  intro j
  induction j with
  | zero => rfl
  | succ j ih =>
    have : x.wayTo f (k + (j + 1)) = x.wayTo f (k + j + 1) := rfl
    rw [this, Ix.wayTo, ih, if_pos h]
theorem Ix.arcs_len (x : Ix) (u v : Int) : (x.arcs u v).1.length ≤ 23 ∧ ((x.arcs u v).2 = 0 → 0 < (x.arcs u v).1.length) := by
  unfold Ix.arcs
  split
  · have := x.add_len 25 u v [] (by simp)
    exact ⟨this.1, fun e => by simpa using this.2.1 e⟩
  · exact ⟨by simp, by simp⟩
theorem Ix.wayTo_len (x : Ix) (f : Nat → Int) : ∀ k, (x.wayTo f k).1.length ≤ 23 * k := by
  intro k
  induction k with
  | zero => simp [Ix.wayTo]
  | succ k ih =>
    have := (x.arcs_len (f k) (f (k + 1))).1
    rw [Ix.wayTo]
    split
    · omega
    · split
      · simp
      · simp; omega
theorem Ix.wayTo_code (x : Ix) (f : Nat → Int) : ∀ k, 0 < k → (x.wayTo f k).2 = 0 → 0 < (x.wayTo f k).1.length := by
  intro k
  induction k with
  | zero => intro h; omega
  | succ k ih =>
    intro _
    rw [Ix.wayTo]
    split
    · rename_i h; intro e; exact absurd e h
    · split
      · rename_i h; intro e; exact absurd e h
      · rename_i h
        have := (x.arcs_len (f k) (f (k + 1))).2 (by simpa using h)
        intro _; simp; omega

set_option maxRecDepth 100000 in
set_option maxHeartbeats 4000000 in
theorem pway_calls {x : Ix} (hfit : x.Fit) (hok : x.Ok) {w : World} {L : IxLoc} (h : IxMem w L x) (A0 : Option Addr) (n c0 : Nat) (f : Nat → Int) (ha : IntsF w A0 n f) (hn : n ≤ 100) :
    Calls Tryd.prog 19 #[.pointer (some ⟨L.b, 0, none⟩), .slice A0 n c0] w fun e w' => ∃ sv', e = .returned (.tuple #[sv', .int .i64 (x.wayTo f (n - 1)).2]) ∧ Fr No w w' ∧ SlL w' sv' (x.wayTo f (n - 1)).1 := by
  go_enter Tryd.func19, Tryd.ntmps19
  go_wp2
  go_loopg [6, 7] n (fun g p q wr => ∃ (i : Nat) (l : List Int) (A : Option Addr) (c : Nat), q = .int .i64 (i + 1 : Nat) ∧ (i + 1 ≤ n ∨ i = 0) ∧ p = .slice A l.length c ∧ wr.ownsRow w.heap.size 3 1 (.slice A l.length c) l.length (l.map (Value.int .i64)) ∧ (l = [] → A = none ∧ c = 0) ∧
      x.wayTo f i = (l, 0) ∧ g = n - i ∧ Fr No w wr)
  case atStart => exact ⟨0, [], none, 0, rfl, .inr rfl, rfl, World.ownsRow_nil _ _ _ _, fun _ => ⟨rfl, rfl⟩, rfl, rfl, Fr.refl _ _⟩
  case round =>
    obtain ⟨i, l, A, c, rfl, hi, rfl, hown, hnil, hw, hg, hf⟩ := hrel
    have hlen := x.wayTo_len f i
    rw [hw] at hlen
    simp only at hlen
    have HO := hid hown
    have HNIL := hid hnil
    have HW := hid hw
    have HG := hid hg
    have HF := hid hf
    clear hown hnil hw hg hf
    by_cases hlt : i + 1 < n
    · obtain ⟨b, o, rfl, hc⟩ := ha (by omega)
      have q1 := HF.out.cell_some (hc i (by omega)) (fun h => h)
      have q2 := HF.out.cell_some (hc (i + 1) (by omega)) (fun h => h)
      have HC := hid hc
      have HA := hid ha
      clear hc ha hi
      go_wp2
      have hwr : IntKind.i64.wrap (i : Int) = (i : Int) := IntWalk.i64_in _ (by omega)
      have hi1 : i < n := by omega
      have hi2 : (i : Int) < n := by omega
      have hi3 : (i : Int) + 1 < n := by omega
      have hi4 : (0 : Int) ≤ (i : Int) + 1 := by omega
      have hi5 : ((i : Int) + 1).toNat = i + 1 := by omega
      have hal := x.arcs_len (f i) (f (i + 1))
      have hnext : x.wayTo f (i + 1) = if (x.arcs (f i) (f (i + 1))).2 ≠ 0 then ([], (x.arcs (f i) (f (i + 1))).2) else (l ++ (x.arcs (f i) (f (i + 1))).1, 0) := by
        rw [Ix.wayTo, HW.out]; simp
      have HAL := hid hal
      have HNX := hid hnext
      clear hal hnext
      go_region_with (go_at_call 16; refine (parcs_calls hfit ?_ (f i) (f (i + 1))).mono ?_; exact h.no HF.out.drew; rintro e w1 ⟨sv, rfl, hf1, hs1⟩; (have HO1 := hid (own_fr HO.out (((Fr.refl _ _).drew).trans hf1) (fun _ _ h => h))); (have HFW1 := hid (HF.out.drew.trans hf1)); (have HS1 := hid hs1); clear hf1 hs1)
      all_goals (
        clear hwr hi2 hi3 hi4 hi5 q1 q2
        obtain ⟨al, hal⟩ : ∃ al, x.arcs (f i) (f (i + 1)) = al := ⟨_, rfl⟩
        rw [hal] at HNX HAL HS1 ⊢
        obtain ⟨l2, cd⟩ := al
        simp only at HNX HAL HS1 ⊢
        clear hal
        by_cases hz : cd = 0
        rotate_left
        · have hz' : (cd != 0) = true := by simpa using hz
          have hfin : x.wayTo f (n - 1) = ([], cd) := by
            have h1 : x.wayTo f (i + 1) = ([], cd) := by rw [HNX.out, if_pos hz]
            have h2 := x.wayTo_stay f (i + 1) (by rw [h1]; exact hz) (n - 1 - (i + 1))
            rw [show i + 1 + (n - 1 - (i + 1)) = n - 1 by omega] at h2
            rw [h2, h1]
          have HFIN := hid hfin
          clear hz hfin
          go_wp2
          go_ret2
          exact ⟨_, by rw [HFIN.out]; rfl, HFW1.out, by rw [HFIN.out]; exact SlL.nil _⟩
        · subst hz
          have hl0 : 0 < l2.length := HAL.out.2 rfl
          have hl1 : l2.length ≤ 23 := HAL.out.1
          rcases HS1.out with ⟨e, _⟩ | ⟨b2, o2, c2, _, rfl, hc2⟩
          · subst e; simp at hl0
          · have HC2 := hid hc2
            have hsz := HFW1.out.size
            clear hc2
            go_wp2_with (at_builtin; refine wpList_cat (.tmp 33) (.tmp 34) (.slice A l.length c) l b2 o2 c2 l2 ?_ ?_ ?_ ?_ w.heap.size ?_ ?_ ?_ ?_ ?_ ?_; rfl; rfl; rfl; rfl; exact HO1.out; exact hsz; exact HC2.out; exact hl0; omega; intro g' cap' w2 hown2 hgrow2 hat2 hlt2; have HO2 := hid hown2; have HG2 := hid hgrow2; clear hown2 hgrow2 hat2)
            go_roundg (n - (i + 1))
            case measure => have := HG.out; omega
            case rel =>
              refine ⟨i + 1, l ++ l2, some ⟨g', 0, none⟩, cap', by go_num, .inl (by omega), by simp, HO2.out, ?_, ?_, rfl, HFW1.out.grown HG2.out (fun k e => .inr (own_block HO1.out k e).1)⟩
              · intro e
                have := congrArg List.length e
                simp only [List.length_append, List.length_nil] at this; omega
              · rw [HNX.out]; simp)
    · have hfin : x.wayTo f (n - 1) = (l, 0) := by
        rw [← HW.out]; congr 1; omega
      have HFIN := hid hfin
      have ho : l = [] ∨ ∃ g cap, 0 < l.length ∧ Value.slice A l.length c = .slice (some ⟨g, 0, none⟩) l.length cap := by
        rcases Nat.eq_zero_or_pos l.length with h0 | h0
        · exact .inl (List.eq_nil_of_length_eq_zero h0)
        · obtain ⟨g, cap, e, _⟩ := HO.out.form h0
          exact .inr ⟨g, cap, h0, e⟩
      have HOO := hid ho
      clear ho hfin
      go_wp2
      go_ret2
      refine ⟨_, by rw [HFIN.out]; rfl, HF.out, ?_⟩
      rw [HFIN.out]
      rcases HOO.out with e | ⟨g, cap, h0, e⟩
      · left
        obtain ⟨rfl, rfl⟩ := HNIL.out e
        exact ⟨e, by rw [e]; rfl⟩
      · right
        have ho := HO.out
        rw [e] at ho
        obtain ⟨q1, q2, q3, q4, q5⟩ := own_list ho
        exact ⟨g, 0, cap, h0, e, fun j hj => by rw [Nat.zero_add]; exact q5 j hj⟩

set_option maxRecDepth 100000 in
set_option maxHeartbeats 4000000 in
theorem rway_calls {x : Ix} (hfit : x.Fit) (hok : x.Ok) {w : World} {L : RxLoc} (h : RxMem w L x) (A0 : Option Addr) (n c0 : Nat) (f : Nat → Int) (ha : IntsF w A0 n f) (hn : n ≤ 100) :
    Calls Tryd.prog 20 #[.pointer (some ⟨L.b, 0, none⟩), .slice A0 n c0] w fun e w' => ∃ sv', e = .returned (.tuple #[sv', .int .i64 (x.wayTo f (n - 1)).2]) ∧ Fr No w w' ∧ SlL w' sv' (x.wayTo f (n - 1)).1 := by
  go_enter Tryd.func20, Tryd.ntmps20
  go_wp2
  go_loopg [6, 7] n (fun g p q wr => ∃ (i : Nat) (l : List Int) (A : Option Addr) (c : Nat), q = .int .i64 (i + 1 : Nat) ∧ (i + 1 ≤ n ∨ i = 0) ∧ p = .slice A l.length c ∧ wr.ownsRow w.heap.size 3 1 (.slice A l.length c) l.length (l.map (Value.int .i64)) ∧ (l = [] → A = none ∧ c = 0) ∧
      x.wayTo f i = (l, 0) ∧ g = n - i ∧ Fr No w wr)
  case atStart => exact ⟨0, [], none, 0, rfl, .inr rfl, rfl, World.ownsRow_nil _ _ _ _, fun _ => ⟨rfl, rfl⟩, rfl, rfl, Fr.refl _ _⟩
  case round =>
    obtain ⟨i, l, A, c, rfl, hi, rfl, hown, hnil, hw, hg, hf⟩ := hrel
    have hlen := x.wayTo_len f i
    rw [hw] at hlen
    simp only at hlen
    have HO := hid hown
    have HNIL := hid hnil
    have HW := hid hw
    have HG := hid hg
    have HF := hid hf
    clear hown hnil hw hg hf
    by_cases hlt : i + 1 < n
    · obtain ⟨b, o, rfl, hc⟩ := ha (by omega)
      have q1 := HF.out.cell_some (hc i (by omega)) (fun h => h)
      have q2 := HF.out.cell_some (hc (i + 1) (by omega)) (fun h => h)
      have HC := hid hc
      have HA := hid ha
      clear hc ha hi
      go_wp2
      have hwr : IntKind.i64.wrap (i : Int) = (i : Int) := IntWalk.i64_in _ (by omega)
      have hi1 : i < n := by omega
      have hi2 : (i : Int) < n := by omega
      have hi3 : (i : Int) + 1 < n := by omega
      have hi4 : (0 : Int) ≤ (i : Int) + 1 := by omega
      have hi5 : ((i : Int) + 1).toNat = i + 1 := by omega
      have hal := x.arcs_len (f i) (f (i + 1))
      have hnext : x.wayTo f (i + 1) = if (x.arcs (f i) (f (i + 1))).2 ≠ 0 then ([], (x.arcs (f i) (f (i + 1))).2) else (l ++ (x.arcs (f i) (f (i + 1))).1, 0) := by
        rw [Ix.wayTo, HW.out]; simp
      have HAL := hid hal
      have HNX := hid hnext
      clear hal hnext
      go_region_with (go_at_call 17; refine (rarcs_calls hfit hok ?_ (f i) (f (i + 1))).mono ?_; exact h.no HF.out.drew; rintro e w1 ⟨sv, rfl, hf1, hs1⟩; (have HO1 := hid (own_fr HO.out (((Fr.refl _ _).drew).trans hf1) (fun _ _ h => h))); (have HFW1 := hid (HF.out.drew.trans hf1)); (have HS1 := hid hs1); clear hf1 hs1)
      all_goals (
        clear hwr hi2 hi3 hi4 hi5 q1 q2
        obtain ⟨al, hal⟩ : ∃ al, x.arcs (f i) (f (i + 1)) = al := ⟨_, rfl⟩
        rw [hal] at HNX HAL HS1 ⊢
        obtain ⟨l2, cd⟩ := al
        simp only at HNX HAL HS1 ⊢
        clear hal
        by_cases hz : cd = 0
        rotate_left
        · have hz' : (cd != 0) = true := by simpa using hz
          have hfin : x.wayTo f (n - 1) = ([], cd) := by
            have h1 : x.wayTo f (i + 1) = ([], cd) := by rw [HNX.out, if_pos hz]
            have h2 := x.wayTo_stay f (i + 1) (by rw [h1]; exact hz) (n - 1 - (i + 1))
            rw [show i + 1 + (n - 1 - (i + 1)) = n - 1 by omega] at h2
            rw [h2, h1]
          have HFIN := hid hfin
          clear hz hfin
          go_wp2
          go_ret2
          exact ⟨_, by rw [HFIN.out]; rfl, HFW1.out, by rw [HFIN.out]; exact SlL.nil _⟩
        · subst hz
          have hl0 : 0 < l2.length := HAL.out.2 rfl
          have hl1 : l2.length ≤ 23 := HAL.out.1
          rcases HS1.out with ⟨e, _⟩ | ⟨b2, o2, c2, _, rfl, hc2⟩
          · subst e; simp at hl0
          · have HC2 := hid hc2
            have hsz := HFW1.out.size
            clear hc2
            go_wp2_with (at_builtin; refine wpList_cat (.tmp 33) (.tmp 34) (.slice A l.length c) l b2 o2 c2 l2 ?_ ?_ ?_ ?_ w.heap.size ?_ ?_ ?_ ?_ ?_ ?_; rfl; rfl; rfl; rfl; exact HO1.out; exact hsz; exact HC2.out; exact hl0; omega; intro g' cap' w2 hown2 hgrow2 hat2 hlt2; have HO2 := hid hown2; have HG2 := hid hgrow2; clear hown2 hgrow2 hat2)
            go_roundg (n - (i + 1))
            case measure => have := HG.out; omega
            case rel =>
              refine ⟨i + 1, l ++ l2, some ⟨g', 0, none⟩, cap', by go_num, .inl (by omega), by simp, HO2.out, ?_, ?_, rfl, HFW1.out.grown HG2.out (fun k e => .inr (own_block HO1.out k e).1)⟩
              · intro e
                have := congrArg List.length e
                simp only [List.length_append, List.length_nil] at this; omega
              · rw [HNX.out]; simp)
    · have hfin : x.wayTo f (n - 1) = (l, 0) := by
        rw [← HW.out]; congr 1; omega
      have HFIN := hid hfin
      have ho : l = [] ∨ ∃ g cap, 0 < l.length ∧ Value.slice A l.length c = .slice (some ⟨g, 0, none⟩) l.length cap := by
        rcases Nat.eq_zero_or_pos l.length with h0 | h0
        · exact .inl (List.eq_nil_of_length_eq_zero h0)
        · obtain ⟨g, cap, e, _⟩ := HO.out.form h0
          exact .inr ⟨g, cap, h0, e⟩
      have HOO := hid ho
      clear ho hfin
      go_wp2
      go_ret2
      refine ⟨_, by rw [HFIN.out]; rfl, HF.out, ?_⟩
      rw [HFIN.out]
      rcases HOO.out with e | ⟨g, cap, h0, e⟩
      · left
        obtain ⟨rfl, rfl⟩ := HNIL.out e
        exact ⟨e, by rw [e]; rfl⟩
      · right
        have ho := HO.out
        rw [e] at ho
        obtain ⟨q1, q2, q3, q4, q5⟩ := own_list ho
        exact ⟨g, 0, cap, h0, e, fun j hj => by rw [Nat.zero_add]; exact q5 j hj⟩

end Go.Proofs.YtlncmnphjdeeoaaDoor
