/- The order of a number: as the document reckons it; that it is an order. Plain mathematics. -/
import Derived.Test.YtakgjihhgpnnfaaDoorBase
import Derived.Test.YtakgjihhgpnnfaaDoorPerm
set_option linter.unusedVariables false
set_option linter.unusedSimpArgs false
namespace Go.Proofs.YtakgjihhgpnnfaaDoor
open Go.RowKit

/-- From v on, among k numbers, the a-th that isn't gone. -/
def nth (g : Nat → Bool) : Nat → Nat → Nat → Option Nat
  | 0, _, _ => none
  | k + 1, v, a => if g v then nth g k (v + 1) a else if a = 0 then some v else nth g k (v + 1) (a - 1)

def setN (f : Nat → Nat) (i v : Nat) : Nat → Nat := fun j => if j = i then v else f j
def setB (f : Nat → Bool) (i : Nat) : Nat → Bool := fun j => if j = i then true else f j

structure OfSt where
  out : Nat → Nat
  gone : Nat → Bool
  num : Nat

def ofStep (n r : Nat) (s : OfSt) : OfSt :=
  match nth s.gone n 0 (s.num % (n - r)) with
  | some v => ⟨setN s.out v r, setB s.gone v, s.num / (n - r)⟩
  | none => ⟨s.out, s.gone, s.num / (n - r)⟩
def ofSt (n num : Nat) : Nat → OfSt
  | 0 => ⟨fun _ => 0, fun _ => false, num⟩
  | r + 1 => ofStep n r (ofSt n num r)
/-- Each vertex's rank, by the number. -/
def rankOf (n num v : Nat) : Nat := (ofSt n num n).out v

/-- How many of k numbers from v on aren't gone. -/
def left (g : Nat → Bool) : Nat → Nat → Nat
  | 0, _ => 0
  | k + 1, v => (if g v then 0 else 1) + left g k (v + 1)

theorem nth_some (g : Nat → Bool) : ∀ (k v a : Nat), a < left g k v → ∃ x, nth g k v a = some x ∧ v ≤ x ∧ x < v + k ∧ g x = false := by
  intro k
  induction k with
  | zero => intro v a h; simp [left] at h
  | succ k ih =>
    intro v a h
    simp only [left] at h
    simp only [nth]
    cases hg : g v with
    | true =>
      rw [hg] at h; simp only [if_true] at h ⊢
      obtain ⟨x, h1, h2, h3, h4⟩ := ih (v + 1) a (by omega)
      exact ⟨x, h1, by omega, by omega, h4⟩
    | false =>
      rw [hg] at h; simp only [Bool.false_eq_true, if_false] at h ⊢
      by_cases ha : a = 0
      · rw [if_pos ha]; exact ⟨v, rfl, by omega, by omega, hg⟩
      · rw [if_neg ha]
        obtain ⟨x, h1, h2, h3, h4⟩ := ih (v + 1) (a - 1) (by omega)
        exact ⟨x, h1, by omega, by omega, h4⟩

theorem left_setB_out (g : Nat → Bool) (x : Nat) : ∀ (k v : Nat), (x < v ∨ v + k ≤ x) → left (setB g x) k v = left g k v := by
  intro k
  induction k with
  | zero => intro v _; rfl
  | succ k ih =>
    intro v h
    simp only [left]
    rw [ih (v + 1) (by omega)]
    have : setB g x v = g v := if_neg (by omega)
    rw [this]
theorem left_setB (g : Nat → Bool) (x : Nat) (hx : g x = false) : ∀ (k v : Nat), v ≤ x → x < v + k → left (setB g x) k v + 1 = left g k v := by
  intro k
  induction k with
  | zero => intro v h1 h2; omega
  | succ k ih =>
    intro v h1 h2
    simp only [left]
    by_cases e : v = x
    · subst e
      rw [left_setB_out g v k (v + 1) (by omega)]
      have : setB g v v = true := if_pos rfl
      rw [this, hx]; simp; omega
    · have := ih (v + 1) (by omega) (by omega)
      have hv : setB g x v = g v := if_neg e
      rw [hv]; omega
theorem left_zero (g : Nat → Bool) : ∀ (k v : Nat), left g k v = 0 → ∀ x, v ≤ x → x < v + k → g x = true := by
  intro k
  induction k with
  | zero => intro v _ x h1 h2; omega
  | succ k ih =>
    intro v h x h1 h2
    simp only [left] at h
    by_cases e : x = v
    · subst e
      cases hg : g x with
      | true => rfl
      | false => rw [hg] at h; simp at h
    · exact ih (v + 1) (by omega) x (by omega) (by omega)
theorem left_all : ∀ (k v : Nat), left (fun _ => false) k v = k := by
  intro k
  induction k with
  | zero => intro v; rfl
  | succ k ih => intro v; simp only [left]; rw [ih]; simp; omega

structure OfInv (n r : Nat) (s : OfSt) : Prop where
  left : left s.gone n 0 = n - r
  lt : ∀ v, s.gone v = true → s.out v < r
  inj : ∀ u v, s.gone u = true → s.gone v = true → s.out u = s.out v → u = v

theorem ofInv (n num : Nat) : ∀ r, r ≤ n → OfInv n r (ofSt n num r) := by
  intro r
  induction r with
  | zero => intro _; exact ⟨left_all n 0, fun v h => (by cases h), fun u v h => (by cases h)⟩
  | succ r ih =>
    intro hr
    have h := ih (by omega)
    simp only [ofSt]
    have hm : (ofSt n num r).num % (n - r) < left (ofSt n num r).gone n 0 := by rw [h.left]; exact Nat.mod_lt _ (by omega)
    obtain ⟨x, e, h1, h2, h3⟩ := nth_some _ _ _ _ hm
    simp only [ofStep, e]
    refine ⟨?_, fun v hv => ?_, fun u v hu hv huv => ?_⟩
    · have := left_setB (ofSt n num r).gone x h3 n 0 (by omega) (by omega)
      have := h.left
      show Go.Proofs.YtakgjihhgpnnfaaDoor.left (setB (ofSt n num r).gone x) n 0 = n - (r + 1)
      omega
    · simp only [setB, setN] at hv ⊢
      by_cases e : v = x
      · rw [if_pos e]; omega
      · rw [if_neg e] at hv ⊢; have := h.lt v hv; omega
    · simp only [setB, setN] at hu hv huv
      by_cases eu : u = x
      · by_cases ev : v = x
        · omega
        · rw [if_pos eu, if_neg ev] at huv; rw [if_neg ev] at hv
          have := h.lt v hv; omega
      · by_cases ev : v = x
        · rw [if_neg eu, if_pos ev] at huv; rw [if_neg eu] at hu
          have := h.lt u hu; omega
        · rw [if_neg eu, if_neg ev] at huv; rw [if_neg eu] at hu; rw [if_neg ev] at hv
          exact h.inj u v hu hv huv

theorem ofSt_num_le (n num : Nat) : ∀ r, (ofSt n num r).num ≤ num := by
  intro r
  induction r with
  | zero => exact Nat.le_refl _
  | succ r ih =>
    have e : (ofSt n num (r + 1)).num = (ofSt n num r).num / (n - r) := by
      simp only [ofSt, ofStep]
      cases nth (ofSt n num r).gone n 0 ((ofSt n num r).num % (n - r)) <;> rfl
    rw [e]
    exact Nat.le_trans (Nat.div_le_self _ _) ih

/-- The vertex that comes next. -/
theorem ofNext (n num r : Nat) (hr : r < n) : ∃ x, nth (ofSt n num r).gone n 0 ((ofSt n num r).num % (n - r)) = some x ∧ x < n ∧ (ofSt n num r).gone x = false ∧
    ofSt n num (r + 1) = ⟨setN (ofSt n num r).out x r, setB (ofSt n num r).gone x, (ofSt n num r).num / (n - r)⟩ := by
  have h := ofInv n num r (by omega)
  have hm : (ofSt n num r).num % (n - r) < left (ofSt n num r).gone n 0 := by rw [h.left]; exact Nat.mod_lt _ (by omega)
  obtain ⟨x, e, h1, h2, h3⟩ := nth_some _ _ _ _ hm
  exact ⟨x, e, by omega, h3, by simp only [ofSt, ofStep, e]⟩

theorem rankOf_lt (n num v : Nat) (hv : v < n) : rankOf n num v < n := by
  have h := ofInv n num n (Nat.le_refl _)
  exact h.lt v (left_zero _ n 0 (by rw [h.left]; omega) v (by omega) (by omega))
theorem rankOf_inj (n num u v : Nat) (hu : u < n) (hv : v < n) (e : rankOf n num u = rankOf n num v) : u = v := by
  have h := ofInv n num n (Nat.le_refl _)
  exact h.inj u v (left_zero _ n 0 (by rw [h.left]; omega) u (by omega) (by omega)) (left_zero _ n 0 (by rw [h.left]; omega) v (by omega) (by omega)) e

end Go.Proofs.YtakgjihhgpnnfaaDoor

/- The order of a number, as the document reckons it; walked. -/
set_option linter.unusedVariables false
set_option linter.unusedSimpArgs false
namespace Go.Proofs.YtakgjihhgpnnfaaDoor
open Go.RowKit Go.Deep

set_option maxHeartbeats 400000 in
theorem held_calls (n : Int) (w : World) (h0 : 0 ≤ n) (h1 : n ≤ 24) :
    Calls Tryd.prog 73 #[.int .i64 n] w fun e w' => e = .returned (.int .i64 n) ∧ w = w' := by
  go_enter Tryd.func73, Tryd.ntmps73
  go_wp2
  go_ret
  exact ⟨rfl, rfl⟩

theorem info_bool : (Tryd.prog.info? 4).map (fun i => (i.zero, i.size, i.bytes)) = some (some (.bool false), 1, 1) := by kernel_rfl

set_option maxRecDepth 100000 in
set_option maxHeartbeats 2000000 in
theorem of_calls (n num : Nat) (w : World) (h0 : 0 < n) (h1 : n ≤ 24) (hnum : (num : Int) ≤ 18446744073709551615) :
    Calls Tryd.prog 34 #[.int .i64 (n : Nat), .int .u64 (num : Nat)] w fun e w' => ∃ b, e = .returned (.slice (some ⟨b, 0, none⟩) n n) ∧ Fr No w w' ∧ w.heap.size ≤ b ∧
      Blk w' b n 3 (fun i => .int .i64 (rankOf n num i : Nat)) := by
  have hmk := fun w => run_make_row' (P := Tryd.prog) 29 3 (.int .i64 0) 8 Tryd.underlying29 info_int rfl .i64 .i64 n (by omega) (by omega) w
  have hmb := fun w => run_make_row' (P := Tryd.prog) 128 4 (.bool false) 1 Tryd.underlying128 info_bool rfl .i64 .i64 n (by omega) (by omega) w
  go_enter Tryd.func34, Tryd.ntmps34
  go_wp2_with (go_at_call 73; refine (held_calls _ _ (by omega) (by omega)).mono ?_; rintro e w1 ⟨rfl, rfl⟩)
  have HB1 := hid ((Blk.made w n (.int .i64 0) 3).alloc (.cells (madeCells #[.bool false] n) 4))
  have HB2 := hid (Blk.made (w.alloc (.cells (madeCells #[.int .i64 0] n) 3)) n (.bool false) 4)
  clear hmk hmb
  go_loopw [1, 7] (fun c i wr => ∃ r : Nat, r ≤ n ∧ i = .int .i64 r ∧ c = .int .u64 ((ofSt n num r).num : Nat) ∧ Fr No w wr ∧ Blk wr w.heap.size n 3 (fun i => .int .i64 ((ofSt n num r).out i : Nat)) ∧
      Blk wr (w.heap.size + 1) n 4 (fun i => .bool ((ofSt n num r).gone i))) (fun _ i _ => n - (intOf i).toNat)
  case atStart => exact ⟨0, Nat.zero_le _, rfl, rfl, ((Fr.refl _ _).alloc _).alloc _, HB1.out, by have := HB2.out; simp only [World.size_alloc] at this; exact this⟩
  case round =>
    obtain ⟨r, hr, rfl, rfl, hf, hb1, hb2⟩ := hrel
    by_cases hlt : r < n
    · have hm1 := ofSt_num_le n num r
      obtain ⟨x, hx, hxn, hgx, hst⟩ := ofNext n num r hlt
      have HF := hid hf
      have HB1 := hid hb1
      have HB2 := hid hb2
      have HX := hid hx
      have HST := hid hst
      have HGX := hid hgx
      obtain ⟨m, hm⟩ : ∃ m, m = (ofSt n num r).num := ⟨_, rfl⟩
      rw [← hm] at hm1 ⊢
      have HM := hid hm
      clear hf hb1 hb2 hx hst hgx hm
      have hq0 : (0 : Int) ≤ (m : Int) % ((n : Int) - (r : Int)) := Int.emod_nonneg _ (by omega)
      have hq1 : (m : Int) % ((n : Int) - (r : Int)) < (n : Int) - (r : Int) := Int.emod_lt_of_pos _ (by omega)
      have hq2 : (0 : Int) ≤ (m : Int) / ((n : Int) - (r : Int)) := Int.ediv_nonneg (by omega) (by omega)
      have hq3 : (m : Int) / ((n : Int) - (r : Int)) ≤ 18446744073709551615 := by
        have h1 : (m : Int) / ((n : Int) - (r : Int)) ≤ (m : Int) := Int.ediv_le_self _ (by omega)
        omega
      go_wp2
      go_loop [9, 10] (fun p q => ∃ v a : Nat, v ≤ n ∧ q = .int .i64 v ∧ p = .int .i64 a ∧ a ≤ 24 ∧ nth (ofSt n num r).gone (n - v) v a = some x) (fun _ q => n - (intOf q).toNat)
      case atStart =>
        refine ⟨0, m % (n - r), Nat.zero_le _, rfl, ?_, by have := Nat.mod_lt m (show 0 < n - r by omega); omega, ?_⟩
        · have : ((m : Int) % ((n : Int) - (r : Int))) = ((m % (n - r) : Nat) : Int) := by
            rw [Int.natCast_emod]; congr 1; omega
          rw [← this]
        · have := HX.out; rw [HM.out]; exact this
      case round =>
        obtain ⟨v, a, hv, rfl, rfl, ha24, hn⟩ := hrel
        by_cases hvn : v < n
        · have hcg := HB2.out.cell hvn
          have HN := hid hn
          clear hn
          have hstep : nth (ofSt n num r).gone (n - v) v a = if (ofSt n num r).gone v then nth (ofSt n num r).gone (n - (v + 1)) (v + 1) a else if a = 0 then some v else nth (ofSt n num r).gone (n - (v + 1)) (v + 1) (a - 1) := by
            obtain ⟨k, hk⟩ : ∃ k, n - v = k + 1 := ⟨n - v - 1, by omega⟩
            rw [hk, show n - (v + 1) = k by omega]; rfl
          have HS := hid hstep
          clear hstep
          cases hg : (ofSt n num r).gone v with
          | true =>
            rw [hg] at hcg
            have HG := hid hg
            clear hg
            go_wp2
            go_round
            case rel => exact ⟨v + 1, a, by omega, by go_num, rfl, ha24, by have h1 := HS.out; rw [HG.out, if_pos rfl] at h1; rw [← h1]; exact HN.out⟩
            case measure => simp [intOf]; omega
          | false =>
            rw [hg] at hcg
            have HG := hid hg
            clear hg
            by_cases ha : a = 0
            · subst ha
              obtain rfl : x = v := by
                have h1 := HS.out; have h2 := HN.out
                rw [h1, HG.out] at h2; simp at h2; exact h2.symm
              have hc1 := HB1.out.cell hvn
              have hf1 : ∀ i, wr.frozen? ⟨w.heap.size, i, none⟩ = false := fun i => HB1.out.frozen i
              have hf2 : ∀ i, wr.frozen? ⟨w.heap.size + 1, i, none⟩ = false := fun i => HB2.out.frozen i
              go_wp2
              go_roundw
              case rel =>
                refine ⟨r + 1, hlt, by go_num, ?_, (HF.out.setCell (p := ⟨w.heap.size, _, none⟩) (.inr (Nat.le_refl _)) _).setCell (p := ⟨w.heap.size + 1, _, none⟩) (.inr (Nat.le_succ _)) _, ?_, ?_⟩
                · rw [HST.out, HM.out]; congr 1; rw [Int.natCast_ediv]; congr 1; omega
                · rw [HST.out]
                  refine ((HB1.out.setCell x (.int .i64 r)).setCell_ne (p := ⟨w.heap.size + 1, _, none⟩) (by simp) _).congr fun i _ => ?_
                  simp only [upd, setN]; split <;> rfl
                · rw [HST.out]
                  refine ((HB2.out.setCell_ne (p := ⟨w.heap.size, _, none⟩) (by simp) _).setCell x (.bool true)).congr fun i _ => ?_
                  simp only [upd, setB]; split <;> rfl
              case measure => simp [intOf]; omega
            · have hpos : 1 ≤ a := by omega
              have HA := hid ha
              clear ha
              go_wp2
              go_round
              case rel => exact ⟨v + 1, a - 1, by omega, by go_num, by congr 1; omega, by omega, by have h1 := HS.out; rw [HG.out, if_neg (by simp), if_neg HA.out] at h1; rw [← h1]; exact HN.out⟩
              case measure => simp [intOf]; omega
        · have e : n - v = 0 := by omega
          rw [e] at hn; cases hn
    · have e : r = n := by omega
      have HE := hid e
      have HF := hid hf
      have HB1 := hid hb1
      clear hf hb1 hb2 e
      go_wp2
      go_ret
      exact ⟨_, rfl, HF.out, Nat.le_refl _, HB1.out.congr fun i hi => by rw [HE.out]; rfl⟩

end Go.Proofs.YtakgjihhgpnnfaaDoor
