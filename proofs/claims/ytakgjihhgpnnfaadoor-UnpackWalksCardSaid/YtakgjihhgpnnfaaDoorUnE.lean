/- From vertex to vertex: the program's and the document's 'Way'; walked. -/
import Derived.Test.YtakgjihhgpnnfaaDoorUnA
import Derived.Test.YtakgjihhgpnnfaaDoorApp
import Derived.StillTailTactics
set_option linter.unusedVariables false
set_option linter.unusedSimpArgs false
namespace Go.Proofs.YtakgjihhgpnnfaaDoor
open Go.RowKit Go.Deep

/-- The arcs of k ways, one behind the other; or the first code. -/
def Ix.wayTo (x : Ix) (f : Nat → Int) : Nat → List Int × Int
  | 0 => ([], 0)
  | k + 1 => if (x.wayTo f k).2 ≠ 0 then x.wayTo f k else if (x.arcs (f k) (f (k + 1))).2 ≠ 0 then ([], (x.arcs (f k) (f (k + 1))).2) else ((x.wayTo f k).1 ++ (x.arcs (f k) (f (k + 1))).1, 0)

theorem Ix.wayTo_stay (x : Ix) (f : Nat → Int) (k : Nat) (h : (x.wayTo f k).2 ≠ 0) : ∀ j, x.wayTo f (k + j) = x.wayTo f k := by
  intro j
  induction j with
  | zero => rfl
  | succ j ih =>
    have : x.wayTo f (k + (j + 1)) = x.wayTo f (k + j + 1) := rfl
    rw [this, Ix.wayTo, ih, if_pos h]
theorem Ix.arcs_len (x : Ix) (u v : Int) : (x.arcs u v).1.length ≤ 23 ∧ ((x.arcs u v).2 = 0 → 0 < (x.arcs u v).1.length) := by
  unfold Ix.arcs
  split
  · have := x.add_len 25 u v [] (by simp)
    exact ⟨this.1, fun e => by simpa using this.2.1 e⟩
  · exact ⟨by simp, by simp⟩
theorem Ix.wayTo_len (x : Ix) (f : Nat → Int) : ∀ k, (x.wayTo f k).1.length ≤ 23 * k := by
  intro k
  induction k with
  | zero => simp [Ix.wayTo]
  | succ k ih =>
    have := (x.arcs_len (f k) (f (k + 1))).1
    rw [Ix.wayTo]
    split
    · omega
    · split
      · simp
      · simp; omega
theorem Ix.wayTo_code (x : Ix) (f : Nat → Int) : ∀ k, 0 < k → (x.wayTo f k).2 = 0 → 0 < (x.wayTo f k).1.length := by
  intro k
  induction k with
  | zero => intro h; omega
  | succ k ih =>
    intro _
    rw [Ix.wayTo]
    split
    · rename_i h; intro e; exact absurd e h
    · split
      · rename_i h; intro e; exact absurd e h
      · rename_i h
        have := (x.arcs_len (f k) (f (k + 1))).2 (by simpa using h)
        intro _; simp; omega

set_option maxRecDepth 100000 in
set_option maxHeartbeats 4000000 in
theorem pway_calls {x : Ix} (hfit : x.Fit) (hok : x.Ok) {w : World} {L : IxLoc} (h : IxMem w L x) (A0 : Option Addr) (n c0 : Nat) (f : Nat → Int) (ha : IntsF w A0 n f) (hn : n ≤ 100) :
    Calls Tryd.prog 18 #[.pointer (some ⟨L.b, 0, none⟩), .slice A0 n c0] w fun e w' => ∃ sv', e = .returned (.tuple #[sv', .int .i64 (x.wayTo f (n - 1)).2]) ∧ Fr No w w' ∧ SlL w' sv' (x.wayTo f (n - 1)).1 := by
  go_enter Tryd.func18, Tryd.ntmps18
  go_wp2
  go_loopg [6, 7] n (fun g p q wr => ∃ (i : Nat) (l : List Int) (A : Option Addr) (c : Nat), q = .int .i64 (i + 1 : Nat) ∧ (i + 1 ≤ n ∨ i = 0) ∧ p = .slice A l.length c ∧ wr.ownsRow w.heap.size 3 1 (.slice A l.length c) l.length (l.map (Value.int .i64)) ∧ (l = [] → A = none ∧ c = 0) ∧
      x.wayTo f i = (l, 0) ∧ g = n - i ∧ Fr No w wr)
  case atStart => exact ⟨0, [], none, 0, rfl, .inr rfl, rfl, World.ownsRow_nil _ _ _ _, fun _ => ⟨rfl, rfl⟩, rfl, rfl, Fr.refl _ _⟩
  case round =>
    obtain ⟨i, l, A, c, rfl, hi, rfl, hown, hnil, hw, hg, hf⟩ := hrel
    have hlen := x.wayTo_len f i
    rw [hw] at hlen
    simp only at hlen
    have HO := hid hown
    have HNIL := hid hnil
    have HW := hid hw
    have HG := hid hg
    have HF := hid hf
    clear hown hnil hw hg hf
    by_cases hlt : i + 1 < n
    · obtain ⟨b, o, rfl, hc⟩ := ha (by omega)
      have q1 := HF.out.cell_some (hc i (by omega)) (fun h => h)
      have q2 := HF.out.cell_some (hc (i + 1) (by omega)) (fun h => h)
      have HC := hid hc
      have HA := hid ha
      clear hc ha hi
      go_wp2
      have hwr : IntKind.i64.wrap (i : Int) = (i : Int) := IntWalk.i64_in _ (by omega)
      have hi1 : i < n := by omega
      have hi2 : (i : Int) < n := by omega
      have hi3 : (i : Int) + 1 < n := by omega
      have hi4 : (0 : Int) ≤ (i : Int) + 1 := by omega
      have hi5 : ((i : Int) + 1).toNat = i + 1 := by omega
      have hal := x.arcs_len (f i) (f (i + 1))
      have hnext : x.wayTo f (i + 1) = if (x.arcs (f i) (f (i + 1))).2 ≠ 0 then ([], (x.arcs (f i) (f (i + 1))).2) else (l ++ (x.arcs (f i) (f (i + 1))).1, 0) := by
        rw [Ix.wayTo, HW.out]; simp
      have HAL := hid hal
      have HNX := hid hnext
      clear hal hnext
      go_region_with (go_at_call 12; refine (parcs_calls hfit ?_ (f i) (f (i + 1))).mono ?_; exact h.no HF.out.drew; rintro e w1 ⟨sv, rfl, hf1, hs1⟩; (have HO1 := hid (own_fr HO.out (((Fr.refl _ _).drew).trans hf1) (fun _ _ h => h))); (have HFW1 := hid (HF.out.drew.trans hf1)); (have HS1 := hid hs1); clear hf1 hs1)
      all_goals (
        clear hwr hi2 hi3 hi4 hi5 q1 q2
        obtain ⟨al, hal⟩ : ∃ al, x.arcs (f i) (f (i + 1)) = al := ⟨_, rfl⟩
        rw [hal] at HNX HAL HS1 ⊢
        obtain ⟨l2, cd⟩ := al
        simp only at HNX HAL HS1 ⊢
        clear hal
        by_cases hz : cd = 0
        rotate_left
        · have hz' : (cd != 0) = true := by simpa using hz
          have hfin : x.wayTo f (n - 1) = ([], cd) := by
            have h1 : x.wayTo f (i + 1) = ([], cd) := by rw [HNX.out, if_pos hz]
            have h2 := x.wayTo_stay f (i + 1) (by rw [h1]; exact hz) (n - 1 - (i + 1))
            rw [show i + 1 + (n - 1 - (i + 1)) = n - 1 by omega] at h2
            rw [h2, h1]
          have HFIN := hid hfin
          clear hz hfin
          go_wp2
          go_ret2
          exact ⟨_, by rw [HFIN.out]; rfl, HFW1.out, by rw [HFIN.out]; exact SlL.nil _⟩
        · subst hz
          have hl0 : 0 < l2.length := HAL.out.2 rfl
          have hl1 : l2.length ≤ 23 := HAL.out.1
          rcases HS1.out with ⟨e, _⟩ | ⟨b2, o2, c2, _, rfl, hc2⟩
          · subst e; simp at hl0
          · have HC2 := hid hc2
            have hsz := HFW1.out.size
            clear hc2
            go_wp2_with (at_builtin; refine wpList_cat (.tmp 33) (.tmp 34) (.slice A l.length c) l b2 o2 c2 l2 ?_ ?_ ?_ ?_ w.heap.size ?_ ?_ ?_ ?_ ?_ ?_; rfl; rfl; rfl; rfl; exact HO1.out; exact hsz; exact HC2.out; exact hl0; omega; intro g' cap' w2 hown2 hgrow2 hat2 hlt2; have HO2 := hid hown2; have HG2 := hid hgrow2; clear hown2 hgrow2 hat2)
            go_roundg (n - (i + 1))
            case measure => have := HG.out; omega
            case rel =>
              refine ⟨i + 1, l ++ l2, some ⟨g', 0, none⟩, cap', by go_num, .inl (by omega), by simp, HO2.out, ?_, ?_, rfl, HFW1.out.grown HG2.out (fun k e => .inr (own_block HO1.out k e).1)⟩
              · intro e
                have := congrArg List.length e
                simp only [List.length_append, List.length_nil] at this; omega
              · rw [HNX.out]; simp)
    · have hfin : x.wayTo f (n - 1) = (l, 0) := by
        rw [← HW.out]; congr 1; omega
      have HFIN := hid hfin
      have ho : l = [] ∨ ∃ g cap, 0 < l.length ∧ Value.slice A l.length c = .slice (some ⟨g, 0, none⟩) l.length cap := by
        rcases Nat.eq_zero_or_pos l.length with h0 | h0
        · exact .inl (List.eq_nil_of_length_eq_zero h0)
        · obtain ⟨g, cap, e, _⟩ := HO.out.form h0
          exact .inr ⟨g, cap, h0, e⟩
      have HOO := hid ho
      clear ho hfin
      go_wp2
      go_ret2
      refine ⟨_, by rw [HFIN.out]; rfl, HF.out, ?_⟩
      rw [HFIN.out]
      rcases HOO.out with e | ⟨g, cap, h0, e⟩
      · left
        obtain ⟨rfl, rfl⟩ := HNIL.out e
        exact ⟨e, by rw [e]; rfl⟩
      · right
        have ho := HO.out
        rw [e] at ho
        obtain ⟨q1, q2, q3, q4, q5⟩ := own_list ho
        exact ⟨g, 0, cap, h0, e, fun j hj => by rw [Nat.zero_add]; exact q5 j hj⟩

end Go.Proofs.YtakgjihhgpnnfaaDoor

/- The law's check that its parts are awake; walked. -/
set_option linter.unusedVariables false
set_option linter.unusedSimpArgs false
namespace Go.Proofs.YtakgjihhgpnnfaaDoor
open Go.RowKit Go.Deep

def awf (j : Nat) : Int := [1, 0, 2].getD j 0
def awg (j : Nat) : Nat := [1, 0, 2].getD j 0
def aw0 : Ix := Ix.new 3 awf awg
def aw1 : Ix := aw0.setI 0 1 ⟨2, 7, -1⟩
def aw2 : Ix := aw1.setI 0 2 ⟨5, -1, 1⟩
def aw3 : Ix := aw2.setI 1 2 ⟨3, 8, -1⟩
theorem aw_fit : aw2.Fit ∧ aw3.Fit := ⟨((Ix.Fit.new _ _ _).setI _ _ _).setI _ _ _, (((Ix.Fit.new _ _ _).setI _ _ _).setI _ _ _).setI _ _ _⟩
theorem aw_perm : PermF 3 awf := ⟨by omega, by decide, by
  intro i j hi hj
  have : (i = 0 ∧ j = 1) ∨ (i = 0 ∧ j = 2) ∨ (i = 1 ∧ j = 2) := by omega
  rcases this with ⟨rfl, rfl⟩ | ⟨rfl, rfl⟩ | ⟨rfl, rfl⟩ <;> decide⟩
theorem aw_g1 : ∀ i, i < 3 → awg (awf i).toNat = i := by decide
theorem aw_g2 : ∀ r, r < 3 → awg r < 3 ∧ awf (awg r) = r := by decide
theorem aw2_arcs : aw2.arcs 0 2 = ([], 3) := by decide +kernel
theorem aw3_arcs : aw3.arcs 0 2 = ([7, 8], 0) := by decide +kernel
theorem aw3_arcs0 : aw3.arcs 0 0 = ([], 1) := by decide +kernel
theorem aw3_way : aw3.wayTo (fun j => [0, 1, 2].getD j 0) 2 = ([7, 8], 0) := by decide +kernel

theorem lit_ints {w : World} {C : Array Value} {T : TypeId} (n : Nat) (f : Nat → Int) (h : ∀ j, j < n → C[j]? = some (.int .i64 (f j))) : IntsF (w.alloc (.cells C T)) (some ⟨w.heap.size, 0, none⟩) n f := fun _ =>
  ⟨_, _, rfl, fun j hj => by rw [Nat.zero_add, (own_no (Fr.refl _ _) w.heap.size (heap_new w _)).1 j]; exact h j hj⟩
theorem lit_sl {w : World} {C : Array Value} {T : TypeId} (l : List Int) (n c : Nat) (hn : n = l.length) (h0 : 0 < l.length) (h : ∀ j, j < l.length → C[j]? = some (.int .i64 (l.getD j 0))) : SlL (w.alloc (.cells C T)) (.slice (some ⟨w.heap.size, 0, none⟩) n c) l :=
  .inr ⟨_, _, c, h0, by rw [hn], fun j hj => by rw [Nat.zero_add, (own_no (Fr.refl _ _) w.heap.size (heap_new w _)).1 j]; exact h j hj⟩
theorem fr_sub {a b c : World} (h1 : Fr No a b) {k : Nat} (h2 : Fr (One k) b c) (hk : a.heap.size ≤ k) : Fr No a c :=
  h1.trans' h2 (fun j _ hj => by have : j = k := hj; omega)

set_option maxRecDepth 100000 in
set_option maxHeartbeats 4000000 in
theorem awake_calls (w : World) (hN : NoneVar w) : Calls Tryd.prog 7 #[] w fun e w' => e = .returned (.bool true) ∧ Fr No w w' := by
  have HN := hid hN
  clear hN
  go_enter Tryd.func7, Tryd.ntmps7
  go_wp2_with fail
  refine (new_yes (some ⟨w.heap.size, 0, none⟩) 3 3 awf _ (lit_ints 3 awf (by intro j hj; (have : j = 0 ∨ j = 1 ∨ j = 2 := by omega); rcases this with rfl | rfl | rfl <;> rfl)) (by decide) aw_perm awg aw_g1 aw_g2 (HN.out.fr ((Fr.refl No _).alloc _) (fun h => h))).mono ?_
  rintro e w1 ⟨L, rfl, hf, hm, hb, _, _⟩
  have hsz : w.heap.size ≤ L.b := by simp only [World.alloc, Array.size_push] at hb; omega
  have M0 := hid (show IxMem w1 L aw0 from hm)
  have F0 := hid (((Fr.refl No w).alloc _).trans hf)
  clear hf hm hb
  go_wp2_with fail
  refine (set_calls M0.out 0 1 ⟨2, 7, -1⟩).mono ?_
  rintro e w2 ⟨rfl, hm, hf⟩
  have M1 := hid (show IxMem w2 L aw1 from hm)
  have F1 := hid (fr_sub F0.out hf hsz)
  clear hm hf
  go_wp2_with fail
  refine (set_calls M1.out 0 2 ⟨5, -1, 1⟩).mono ?_
  rintro e w3 ⟨rfl, hm, hf⟩
  have M2 := hid (show IxMem w3 L aw2 from hm)
  have F2 := hid (fr_sub F1.out hf hsz)
  clear hm hf
  go_wp2_with fail
  refine (parcs_calls aw_fit.1 M2.out 0 2).mono ?_
  rintro e w4 ⟨sv1, rfl, hf, _⟩
  rw [aw2_arcs]
  have M2b := hid (M2.out.no hf)
  have F3 := hid (F2.out.trans hf)
  clear hf
  go_wp2_with fail
  refine (set_calls M2b.out 1 2 ⟨3, 8, -1⟩).mono ?_
  rintro e w5 ⟨rfl, hm, hf⟩
  have M3 := hid (show IxMem w5 L aw3 from hm)
  have F4 := hid (fr_sub F3.out hf hsz)
  clear hm hf
  go_wp2_with fail
  refine (parcs_calls aw_fit.2 M3.out 0 2).mono ?_
  rintro e w6 ⟨sv2, rfl, hf, hs⟩
  rw [aw3_arcs] at hs ⊢
  have M4 := hid (M3.out.no hf)
  have F5 := hid (F4.out.trans hf)
  have S5 := hid hs
  clear hf hs
  go_wp2_with fail
  refine (parcs_calls aw_fit.2 M4.out 0 0).mono ?_
  rintro e w7 ⟨sv3, rfl, hf, _⟩
  rw [aw3_arcs0]
  have M5 := hid (M4.out.no hf)
  have F6 := hid (F5.out.trans hf)
  have S6 := hid (S5.out.fr hf)
  clear hf
  go_wp2_with fail
  have fa := (Fr.refl No w7).alloc (Obj.cells #[Value.int IntKind.i64 0, Value.int IntKind.i64 1, Value.int IntKind.i64 2] 3)
  refine (pway_calls aw_fit.2 M5.out.ok (M5.out.no fa) (some ⟨w7.heap.size, 0, none⟩) 3 3 (fun j => [0, 1, 2].getD j 0) (lit_ints 3 _ (by intro j hj; (have : j = 0 ∨ j = 1 ∨ j = 2 := by omega); rcases this with rfl | rfl | rfl <;> rfl)) (by decide)).mono ?_
  rintro e w8 ⟨sv4, rfl, hf, hs⟩
  rw [show 3 - 1 = 2 from rfl, aw3_way] at hs ⊢
  have F7 := hid (F6.out.trans (fa.trans hf))
  have S7 := hid (S6.out.fr (fa.trans hf))
  have S8 := hid hs
  clear hf hs fa
  go_wp2_with fail
  have fa := (Fr.refl No w8).alloc (Obj.cells #[Value.int IntKind.i64 7, Value.int IntKind.i64 8] 3)
  refine (ints_same (l := [7, 8]) (S7.out.fr fa) (lit_sl [7, 8] 2 2 rfl (by decide) (by intro j hj; (have : j = 0 ∨ j = 1 := by simp at hj; omega); rcases this with rfl | rfl <;> rfl)) (by decide)).mono ?_
  rintro e w9 ⟨rfl, hf⟩
  have F8 := hid (F7.out.trans (fa.trans hf))
  have S9 := hid (S8.out.fr (fa.trans hf))
  clear hf fa
  go_wp2_with fail
  have fa := (Fr.refl No w9).alloc (Obj.cells #[Value.int IntKind.i64 7, Value.int IntKind.i64 8] 3)
  refine (ints_same (l := [7, 8]) (S9.out.fr fa) (lit_sl [7, 8] 2 2 rfl (by decide) (by intro j hj; (have : j = 0 ∨ j = 1 := by simp at hj; omega); rcases this with rfl | rfl <;> rfl)) (by decide)).mono ?_
  rintro e w10 ⟨rfl, hf⟩
  have F9 := hid (F8.out.trans (fa.trans hf))
  clear hf fa
  go_wp2
  go_ret
  exact ⟨rfl, F9.out⟩

end Go.Proofs.YtakgjihhgpnnfaaDoor

/- The two laws of unpacking; walked. -/
set_option linter.unusedVariables false
set_option linter.unusedSimpArgs false
namespace Go.Proofs.YtakgjihhgpnnfaaDoor
open Go.RowKit Go.Deep

theorem LinksF.fr {w w' : World} {A : Option Addr} {n : Nat} {f : Nat → Lk} (h : LinksF w A n f) (hf : Fr No w w') : LinksF w' A n f := fun hn => by
  obtain ⟨b, off, e, hc⟩ := h hn
  exact ⟨b, off, e, fun j hj => (hc j hj).fr hf (fun h => h)⟩
theorem Ix.fit_start (n num : Nat) (lk : Nat → Lk) (k : Nat) : ((Ix.start n num).sets lk k).Fit := (Ix.Fit.start _ _).sets _ _

end Go.Proofs.YtakgjihhgpnnfaaDoor
