/- slices.IndexFunc and slices.DeleteFunc at links with the shortcuts' test; walked. -/
import Derived.Test.YtlncmnphjdeeoaaDoorLnkA
import Derived.Lib.SliceRun
set_option linter.unusedVariables false
set_option linter.unusedSimpArgs false
namespace Go.Proofs.YtlncmnphjdeeoaaDoor
open Go.RowKit Go.Deep

def Lk.val (l : Lk) : Value := .agg #[.int .i64 l.t, .int .i64 l.h, .int .i64 l.e.w, .int .i64 l.e.a, .int .i64 l.e.m]

set_option maxRecDepth 100000 in
set_option maxHeartbeats 1000000 in
theorem pred_calls (l : Lk) (w : World) : Calls Tryd.prog 78 #[.agg #[.int .i64 l.t, .int .i64 l.h, .int .i64 l.e.w, .int .i64 l.e.a, .int .i64 l.e.m]] w fun e w' => e = .returned (.bool (decide (l.e.m < 0))) ∧ Fr No w w' := by
  obtain ⟨t, u, ⟨a, b, c⟩⟩ := l
  simp only
  go_enter Tryd.func78, Tryd.ntmps78
  go_wp2
  go_ret
  exact ⟨rfl, (Fr.refl _ _).alloc _⟩

structure LkC (w : World) (b o : Nat) (l : Lk) : Prop where
  q0 : w.cell? ⟨b, o, none⟩ = some (.int .i64 l.t)
  q1 : w.cell? ⟨b, o + 1, none⟩ = some (.int .i64 l.h)
  q2 : w.cell? ⟨b, o + 2, none⟩ = some (.int .i64 l.e.w)
  q3 : w.cell? ⟨b, o + 3, none⟩ = some (.int .i64 l.e.a)
  q4 : w.cell? ⟨b, o + 4, none⟩ = some (.int .i64 l.e.m)
theorem LkAt.c {w : World} {b o : Nat} {l : Lk} (h : LkAt w b o l) : LkC w b o l := ⟨h.t, h.h, h.w0, h.a, h.m⟩

set_option maxRecDepth 100000 in
set_option maxHeartbeats 2000000 in
theorem idxfunc_calls {w : World} {A : Option Addr} {n c : Nat} {lk : Nat → Lk} (h : LinksF w A n lk) (hn : n ≤ 1000000) :
    Calls Tryd.prog 99 #[.slice A n c, .func (.func 78) #[] #[]] w fun e w' => ∃ r : Int, e = .returned (.int .i64 r) ∧ Fr No w w' ∧
      ((r = -1 ∧ ∀ j, j < n → 0 ≤ (lk j).e.m) ∨ (∃ k : Nat, k < n ∧ r = k ∧ (lk k).e.m < 0 ∧ ∀ j, j < k → 0 ≤ (lk j).e.m)) := by
  have H := hid h
  clear h
  go_enter Tryd.func99, Tryd.ntmps99
  go_wp2
  go_loopg [8] n (fun g p wr => ∃ i : Nat, p = .int .i64 i ∧ i ≤ n ∧ g = n - i ∧ Fr No w wr ∧ ∀ j, j < i → 0 ≤ (lk j).e.m)
  case atStart => exact ⟨0, rfl, Nat.zero_le _, rfl, Fr.refl _ _, fun j hj => by omega⟩
  case round =>
    obtain ⟨i, rfl, hi, hg, hf, ha⟩ := hrel
    have HG := hid hg
    have HF := hid hf
    have HA := hid ha
    clear hg hf ha
    by_cases hlt : i < n
    · obtain ⟨b, off, rfl, hc⟩ := H.out (by omega)
      obtain ⟨q0, q1, q2, q3, q4⟩ := ((hc i hlt).fr HF.out (fun h => h)).c
      have HC := hid hc
      clear hc
      have hlt2 : (i : Int) < n := by omega
      obtain ⟨y, hy⟩ : ∃ y, lk i = y := ⟨_, rfl⟩
      rw [hy] at q0 q1 q2 q3 q4
      have HY := hid hy
      clear hy
      cases hm : decide (y.e.m < 0) with
      | true =>
        go_wp2_with (go_at_call 78; refine (pred_calls y _).mono ?_; rintro e w1 ⟨rfl, hf1⟩; rw [hm])
        go_ret
        exact ⟨_, rfl, HF.out.trans hf1, .inr ⟨i, hlt, rfl, by rw [HY.out]; exact of_decide_eq_true hm, HA.out⟩⟩
      | false =>
        go_wp2_with (go_at_call 78; refine (pred_calls y _).mono ?_; rintro e w1 ⟨rfl, hf1⟩; rw [hm])
        go_roundg (n - (i + 1))
        case measure => have := HG.out; omega
        case rel =>
          refine ⟨i + 1, by go_num, hlt, rfl, HF.out.trans hf1, fun j hj => ?_⟩
          rcases Nat.lt_or_ge j i with h1 | h1
          · exact HA.out j h1
          · obtain rfl : j = i := by omega
            rw [HY.out]
            have := of_decide_eq_false hm
            omega
    · have e : i = n := by omega
      subst e
      go_wp2
      go_ret
      exact ⟨_, rfl, HF.out, .inl ⟨rfl, HA.out⟩⟩

theorem zeroLk (w : World) : (zeroValue 48).run Tryd.prog w = .ok (.agg #[.int .i64 0, .int .i64 0, .int .i64 0, .int .i64 0, .int .i64 0]) w := by kernel_rfl

def zLk : Array Value := #[.int .i64 0, .int .i64 0, .int .i64 0, .int .i64 0, .int .i64 0]
theorem zLk_one (n : Nat) : ∀ v ∈ (Builtin.zeroCells zLk n).toList, v.oneCell' = true := by
  intro v hv
  simp [Builtin.zeroCells] at hv
  obtain ⟨i, _, rfl⟩ := hv
  have : i % zLk.size < 5 := Nat.mod_lt _ (by decide)
  have h5 : i % zLk.size = 0 ∨ i % zLk.size = 1 ∨ i % zLk.size = 2 ∨ i % zLk.size = 3 ∨ i % zLk.size = 4 := by omega
  rcases h5 with h | h | h | h | h <;> rw [h] <;> rfl
theorem zLk_len (n : Nat) : (Builtin.zeroCells zLk n).toList.length = n * 5 := by simp [Builtin.zeroCells, zLk]

/-- 'clear' at a row of links. -/
theorem run_clear_lk (w : World) (b o n c ty : Nat) (hn : 0 < n) (hc : ∀ j, j < n * 5 → (w.cell? ⟨b, o + j, none⟩).isSome = true) (hf : ∀ j, j < n * 5 → w.frozen? ⟨b, o + j, none⟩ = false) :
    (Builtin.clear_ #[23] ty #[.slice (some ⟨b, o, none⟩) n c]).run Tryd.prog w = .ok (.tuple #[]) (w.setCells b o (Builtin.zeroCells zLk n).toList) := by
  have hst := Go.run_storeCells_cells (P := Tryd.prog) b o (Builtin.zeroCells zLk n).toList 0 w (by rw [zLk_len]; simpa using hc) (by rw [zLk_len]; simpa using hf) (zLk_one n)
  simp only [Nat.add_zero] at hst
  obtain ⟨m, rfl⟩ : ∃ m, n = m + 1 := ⟨n - 1, by omega⟩
  have hz := zeroLk w
  unfold zLk at hst ⊢
  simp [Builtin.clear_, run_underlying Tryd.underlying23, hz, Value.cells, hst]

theorem Fr.setCells {F : Nat → Prop} {a : World} {b : Nat} (hb : F b ∨ a.heap.size ≤ b) : ∀ (vs : List Value) (o : Nat) (w : World), Fr F a w → Fr F a (w.setCells b o vs) := by
  intro vs
  induction vs with
  | nil => intro o w h; exact h
  | cons v r ih => intro o w h; exact ih (o + 1) _ (h.setCell (p := ⟨b, o, none⟩) hb v)

/-- A row of links, some of whose elements are known. -/
def RowL (w : World) (g S : Nat) (ok : Nat → Prop) (f : Nat → Lk) : Prop :=
  ∃ C, w.heap[g]? = some (.cells C 48) ∧ C.size = S ∧ ∀ q, ok q → ∀ k, k < 5 → C[q * 5 + k]? = (f q).cl[k]?

section
variable {w w' : World} {g S : Nat} {ok : Nat → Prop} {f : Nat → Lk}
theorem RowL.lt (h : RowL w g S ok f) : g < w.heap.size := by obtain ⟨C, hC, _⟩ := h; exact some_lt hC
theorem RowL.fr (h : RowL w g S ok f) {F : Nat → Prop} (hf : Fr F w w') (hF : ¬ F g) : RowL w' g S ok f := by
  have hl := h.lt
  obtain ⟨C, hC, h1, h2⟩ := h
  exact ⟨C, (hf.block g hl hF).trans hC, h1, h2⟩
theorem RowL.frozen (h : RowL w g S ok f) (i : Nat) : w.frozen? ⟨g, i, none⟩ = false := by
  obtain ⟨C, hC, _⟩ := h
  exact (own_no (Fr.refl _ _) g hC).2.1 i
theorem RowL.has (h : RowL w g S ok f) (i : Nat) (hi : i < S) : ∃ v, w.cell? ⟨g, i, none⟩ = some v := by
  obtain ⟨C, hC, h1, _⟩ := h
  rw [cell_of hC]
  exact ⟨C[i]'(by omega), Array.getElem?_eq_getElem (by omega)⟩
theorem RowL.at (h : RowL w g S ok f) (q : Nat) (hq : ok q) : LkC w g (q * 5) (f q) := by
  obtain ⟨C, hC, _, h2⟩ := h
  have key : ∀ k, k < 5 → w.cell? ⟨g, q * 5 + k, none⟩ = (f q).cl[k]? := fun k hk => by rw [cell_of hC]; exact h2 q hq k hk
  exact ⟨key 0 (by omega), key 1 (by omega), key 2 (by omega), key 3 (by omega), key 4 (by omega)⟩
theorem RowL.mono (h : RowL w g S ok f) {ok' : Nat → Prop} {f' : Nat → Lk} (hm : ∀ q, ok' q → ok q ∧ f' q = f q) : RowL w g S ok' f' := by
  obtain ⟨C, hC, h1, h2⟩ := h
  exact ⟨C, hC, h1, fun q hq k hk => by rw [(hm q hq).2]; exact h2 q (hm q hq).1 k hk⟩
theorem set5_get (C : Array Value) (a : Nat) (v0 v1 v2 v3 v4 : Value) (ha : a + 5 ≤ C.size) (p : Nat) :
    (((((C.setIfInBounds a v0).setIfInBounds (a + 1) v1).setIfInBounds (a + 2) v2).setIfInBounds (a + 3) v3).setIfInBounds (a + 4) v4)[p]? =
      if a ≤ p ∧ p < a + 5 then [v0, v1, v2, v3, v4][p - a]? else C[p]? := by
  by_cases h : a ≤ p ∧ p < a + 5
  · rw [if_pos h]
    have : p = a ∨ p = a + 1 ∨ p = a + 2 ∨ p = a + 3 ∨ p = a + 4 := by omega
    rcases this with rfl | rfl | rfl | rfl | rfl
    · simp [Array.getElem?_setIfInBounds]; omega
    · simp [Array.getElem?_setIfInBounds]; omega
    · simp [Array.getElem?_setIfInBounds]; omega
    · simp [Array.getElem?_setIfInBounds]; omega
    · simp [Array.getElem?_setIfInBounds]; omega
  · rw [if_neg h]
    simp only [Array.getElem?_setIfInBounds]
    rw [if_neg (by omega), if_neg (by omega), if_neg (by omega), if_neg (by omega), if_neg (by omega)]
theorem RowL.put (h : RowL w g S ok f) (i : Nat) (hi : i * 5 + 5 ≤ S) (y : Lk) :
    RowL (((((w.setCell ⟨g, i * 5, none⟩ (.int .i64 y.t)).setCell ⟨g, i * 5 + 1, none⟩ (.int .i64 y.h)).setCell ⟨g, i * 5 + 2, none⟩ (.int .i64 y.e.w)).setCell ⟨g, i * 5 + 3, none⟩ (.int .i64 y.e.a)).setCell ⟨g, i * 5 + 4, none⟩ (.int .i64 y.e.m))
      g S (fun q => q = i ∨ ok q) (fun q => if q = i then y else f q) := by
  obtain ⟨C, hC, h1, h2⟩ := h
  refine ⟨_, heap_set (heap_set (heap_set (heap_set (heap_set hC _ _) _ _) _ _) _ _) _ _, by simpa using h1, fun q hq k hk => ?_⟩
  rw [set5_get _ _ _ _ _ _ _ (by omega)]
  by_cases e : q = i
  · subst e
    rw [if_pos (by omega), Nat.add_sub_cancel_left]
    show _ = (if q = q then y else f q).cl[k]?
    rw [if_pos rfl]; rfl
  · rw [if_neg (by omega)]
    show _ = (if q = i then y else f q).cl[k]?
    rw [if_neg e]
    exact h2 q (hq.resolve_left e) k hk
end

end Go.Proofs.YtlncmnphjdeeoaaDoor
