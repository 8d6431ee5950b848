/- Rows of links that are one's own: read, lengthened. -/
import Derived.Test.YtpkocidcfnlbiaaDoorMade
import Derived.Test.YtpkocidcfnlbiaaDoorUnA
import Derived.Test.YtpkocidcfnlbiaaDoorIdxE
import Derived.Lib.SliceRun
set_option linter.unusedVariables false
set_option linter.unusedSimpArgs false
namespace Go.Proofs.YtpkocidcfnlbiaaDoor
open Go.RowKit Go.Deep

def Lk.cl (l : Lk) : List Value := [.int .i64 l.t, .int .i64 l.h, .int .i64 l.e.w, .int .i64 l.e.a, .int .i64 l.e.m]
def lkCells (l : List Lk) : List Value := l.flatMap Lk.cl
def Lk.zero : Lk := ⟨0, 0, ⟨0, 0, 0⟩⟩

theorem info_lk : (Tryd.prog.info? 54).map (fun i => (i.zero, i.size, i.bytes)) = some (some (.agg #[.int .i64 0, .int .i64 0, .int .i64 0, .int .i64 0, .int .i64 0]), 5, 40) := by kernel_rfl
theorem i_lk : ∃ i, Tryd.prog.info? 54 = some i ∧ i.zero = some (.agg #[.int .i64 0, .int .i64 0, .int .i64 0, .int .i64 0, .int .i64 0]) ∧ i.size = 5 ∧ i.bytes = 40 := by
  obtain ⟨i, hi, h⟩ := Option.map_eq_some_iff.1 info_lk
  simp only [Prod.mk.injEq] at h
  exact ⟨i, hi, h.1, h.2.1, h.2.2⟩

theorem lkCells_len (l : List Lk) : (lkCells l).length = l.length * 5 := by
  induction l with
  | nil => rfl
  | cons a l ih => simp only [lkCells, List.flatMap_cons, List.length_append, List.length_cons] at *; rw [ih]; simp [Lk.cl]; omega
theorem lkCells_app (l : List Lk) (y : Lk) : lkCells (l ++ [y]) = lkCells l ++ y.cl := by simp [lkCells]
theorem lkCells_at (l : List Lk) : ∀ j, j < l.length → ∀ k, k < 5 → (lkCells l)[j * 5 + k]? = (l.getD j Lk.zero).cl[k]? := by
  induction l with
  | nil => intro j hj; simp at hj
  | cons a l ih =>
    intro j hj k hk
    have hcl : a.cl.length = 5 := rfl
    show (a.cl ++ lkCells l)[j * 5 + k]? = _
    cases j with
    | zero => rw [Nat.zero_mul, Nat.zero_add, List.getElem?_append_left (by omega)]; simp
    | succ j =>
      rw [List.getElem?_append_right (by omega), hcl, show (j + 1) * 5 + k - 5 = j * 5 + k by omega]
      have := ih j (by simpa using hj) k hk
      rw [this]; simp

/-- A slice of links. -/
def SlK (w : World) (v : Value) (l : List Lk) : Prop :=
  (l = [] ∧ v = .slice none 0 0) ∨ (∃ b off c, 0 < l.length ∧ v = .slice (some ⟨b, off, none⟩) l.length c ∧ ∀ j, j < l.length → LkAt w b (off + j * 5) (l.getD j Lk.zero))
theorem SlK.fr {w w' : World} {v : Value} {l : List Lk} (h : SlK w v l) (hf : Fr No w w') : SlK w' v l := by
  rcases h with h | ⟨b, off, c, h0, e, hc⟩
  · exact .inl h
  · exact .inr ⟨b, off, c, h0, e, fun j hj => (hc j hj).fr hf (fun h => h)⟩

theorem own_lks {w : World} {base : Nat} {v : Value} {l : List Lk} (h : w.ownsRow base 54 5 v l.length (lkCells l)) (h0 : 0 < l.length) :
    ∃ g cap, v = .slice (some ⟨g, 0, none⟩) l.length cap ∧ base ≤ g ∧ g < w.heap.size ∧ l.length ≤ cap ∧ ∀ j, j < l.length → LkAt w g (0 + j * 5) (l.getD j Lk.zero) := by
  have hh := h
  obtain ⟨_, h' | ⟨g, cap, cur, rfl, hb, hg, h1, h2, _⟩⟩ := hh
  · omega
  · have hc := h.cells (g := g) rfl
    have hl := h.lt g rfl
    refine ⟨g, cap, rfl, hb, hl.2, h1, fun j hj => ?_⟩
    have key : ∀ k, k < 5 → w.cell? ⟨g, 0 + j * 5 + k, none⟩ = (l.getD j Lk.zero).cl[k]? := fun k hk => by
      have e := lkCells_at l j hj k hk
      have : ∃ v, (l.getD j Lk.zero).cl[k]? = some v := by
        match k, hk with
        | 0, _ => exact ⟨_, rfl⟩
        | 1, _ => exact ⟨_, rfl⟩
        | 2, _ => exact ⟨_, rfl⟩
        | 3, _ => exact ⟨_, rfl⟩
        | 4, _ => exact ⟨_, rfl⟩
      obtain ⟨v, hv⟩ := this
      rw [hv] at e ⊢
      have := hc (j * 5 + k) v e
      rw [Addr.add_mid, Nat.zero_add] at this
      rw [Nat.zero_add]; exact this
    exact ⟨key 0 (by omega), key 1 (by omega), key 2 (by omega), key 3 (by omega), key 4 (by omega)⟩

/-- One link appended to a row of one's own that may be nil. -/
theorem wpList_pushK {w : World} {ops : Array Oper} {rest : List Oper} {o : Oper} {a : Act} {Q : Exit → Act → World → Prop} (s x : Operand)
    (v : Value) (l : List Lk) (b c : Nat) (y : Lk) (hgd : o.guard = none) (ho : o.op = .call { callee := .builtin .append, args := #[s, x], argTypes := #[23, 23] })
    (hs : a.eval s = v) (hx : a.eval x = .slice (some ⟨b, 0, none⟩) 1 c)
    (base : Nat) (hown : w.ownsRow base 54 5 v l.length (lkCells l)) (hbase : base ≤ w.heap.size)
    (hnew : w.heap[b]? = some (.cells y.cl.toArray 54)) (hb : l.length ≤ 1000000)
    (h : ∀ g cap w', w'.ownsRow base 54 5 (.slice (some ⟨g, 0, none⟩) (l ++ [y]).length cap) (l ++ [y]).length (lkCells (l ++ [y])) → w.grownBy w' v.ownBlock → (v.ownBlock = some g ∨ g = w.heap.size) → g < w'.heap.size → wpList Tryd.prog ops Q rest (a.put o.dst (.slice (some ⟨g, 0, none⟩) (l ++ [y]).length cap)) w') :
    wpList Tryd.prog ops Q (o :: rest) a w := by
  obtain ⟨i0, hi, hz0, hz1, hz2⟩ := i_lk
  refine wpList_append_lies w hgd s x 23 ho base 54 i0 (.agg #[.int .i64 0, .int .i64 0, .int .i64 0, .int .i64 0, .int .i64 0]) 5 40 Tryd.underlying23 hi hz0 hz1 hz2 rfl (by decide) v l.length _ hs hown ⟨b, 0, none⟩ 1 c y.cl hx rfl ?_ ?_ (by decide) (by unfold maxLen; omega) (by omega) hbase w.heap.size rfl ?_
  · intro j u hu
    rw [Addr.add_mid, Nat.zero_add, cell_of hnew]
    simpa using hu
  · intro u hu
    simp [Lk.cl] at hu
    rcases hu with rfl | rfl | rfl | rfl | rfl <;> rfl
  · intro g cap w' h1 h2 h3 h4
    have hl : (l ++ [y]).length = l.length + 1 := by simp
    have := h g cap w' (by rw [hl, lkCells_app]; exact h1) h2 h3 h4
    rwa [hl] at this

/-- An index's links, by rising rank. -/
def Ix.lkRow (x : Ix) (a : Nat) : Nat → List Lk
  | 0 => []
  | b + 1 => if x.at_ (x.by_ a : Nat) (x.by_ b : Nat) = En.none then x.lkRow a b else x.lkRow a b ++ [⟨(x.by_ a : Nat), (x.by_ b : Nat), x.at_ (x.by_ a : Nat) (x.by_ b : Nat)⟩]
def Ix.lks (x : Ix) : Nat → List Lk
  | 0 => []
  | a + 1 => x.lks a ++ x.lkRow a x.n
theorem Ix.lkRow_len (x : Ix) (a : Nat) : ∀ b, (x.lkRow a b).length ≤ b := by
  intro b
  induction b with
  | zero => simp [Ix.lkRow]
  | succ b ih =>
    rw [Ix.lkRow]
    split
    · omega
    · simp; omega
theorem Ix.lks_len (x : Ix) : ∀ a, (x.lks a).length ≤ a * x.n := by
  intro a
  induction a with
  | zero => simp [Ix.lks]
  | succ a ih => rw [Ix.lks, List.length_append]; have := x.lkRow_len a x.n; rw [Nat.add_mul]; omega

end Go.Proofs.YtpkocidcfnlbiaaDoor

/- The index's links; the program's 'Links' walked. -/
set_option linter.unusedVariables false
set_option linter.unusedSimpArgs false
namespace Go.Proofs.YtpkocidcfnlbiaaDoor
open Go.RowKit Go.Deep
attribute [local go_sem high] run_eql_en run_neq_en

theorem own_slK {w : World} {base : Nat} {A : Option Addr} {c : Nat} {l : List Lk} (h : w.ownsRow base 54 5 (.slice A l.length c) l.length (lkCells l)) (hn : l = [] → A = none ∧ c = 0) : SlK w (.slice A l.length c) l := by
  rcases Nat.eq_zero_or_pos l.length with h0 | h0
  · have e := List.eq_nil_of_length_eq_zero h0
    obtain ⟨rfl, rfl⟩ := hn e
    exact .inl ⟨e, by rw [e]; rfl⟩
  · obtain ⟨g, cap, e, hb, hl, hc, hat⟩ := own_lks h h0
    exact .inr ⟨g, 0, cap, h0, e, hat⟩

end Go.Proofs.YtpkocidcfnlbiaaDoor

/- slices.IndexFunc and slices.DeleteFunc at links with the shortcuts' test; walked. -/
set_option linter.unusedVariables false
set_option linter.unusedSimpArgs false
namespace Go.Proofs.YtpkocidcfnlbiaaDoor
open Go.RowKit Go.Deep

def Lk.val (l : Lk) : Value := .agg #[.int .i64 l.t, .int .i64 l.h, .int .i64 l.e.w, .int .i64 l.e.a, .int .i64 l.e.m]

structure LkC (w : World) (b o : Nat) (l : Lk) : Prop where
  q0 : w.cell? ⟨b, o, none⟩ = some (.int .i64 l.t)
  q1 : w.cell? ⟨b, o + 1, none⟩ = some (.int .i64 l.h)
  q2 : w.cell? ⟨b, o + 2, none⟩ = some (.int .i64 l.e.w)
  q3 : w.cell? ⟨b, o + 3, none⟩ = some (.int .i64 l.e.a)
  q4 : w.cell? ⟨b, o + 4, none⟩ = some (.int .i64 l.e.m)
theorem LkAt.c {w : World} {b o : Nat} {l : Lk} (h : LkAt w b o l) : LkC w b o l := ⟨h.t, h.h, h.w0, h.a, h.m⟩

theorem zeroLk (w : World) : (zeroValue 54).run Tryd.prog w = .ok (.agg #[.int .i64 0, .int .i64 0, .int .i64 0, .int .i64 0, .int .i64 0]) w := by kernel_rfl

def zLk : Array Value := #[.int .i64 0, .int .i64 0, .int .i64 0, .int .i64 0, .int .i64 0]
theorem zLk_one (n : Nat) : ∀ v ∈ (Builtin.zeroCells zLk n).toList, v.oneCell' = true := by
  intro v hv
  simp [Builtin.zeroCells] at hv
  obtain ⟨i, _, rfl⟩ := hv
  have : i % zLk.size < 5 := Nat.mod_lt _ (by decide)
  have h5 : i % zLk.size = 0 ∨ i % zLk.size = 1 ∨ i % zLk.size = 2 ∨ i % zLk.size = 3 ∨ i % zLk.size = 4 := by omega
  rcases h5 with h | h | h | h | h <;> rw [h] <;> rfl
theorem zLk_len (n : Nat) : (Builtin.zeroCells zLk n).toList.length = n * 5 := by simp [Builtin.zeroCells, zLk]

/-- 'clear' at a row of links. -/
theorem run_clear_lk (w : World) (b o n c ty : Nat) (hn : 0 < n) (hc : ∀ j, j < n * 5 → (w.cell? ⟨b, o + j, none⟩).isSome = true) (hf : ∀ j, j < n * 5 → w.frozen? ⟨b, o + j, none⟩ = false) :
    (Builtin.clear_ #[23] ty #[.slice (some ⟨b, o, none⟩) n c]).run Tryd.prog w = .ok (.tuple #[]) (w.setCells b o (Builtin.zeroCells zLk n).toList) := by
  have hst := Go.run_storeCells_cells (P := Tryd.prog) b o (Builtin.zeroCells zLk n).toList 0 w (by rw [zLk_len]; simpa using hc) (by rw [zLk_len]; simpa using hf) (zLk_one n)
  simp only [Nat.add_zero] at hst
  obtain ⟨m, rfl⟩ : ∃ m, n = m + 1 := ⟨n - 1, by omega⟩
  have hz := zeroLk w
  unfold zLk at hst ⊢
  simp [Builtin.clear_, run_underlying Tryd.underlying23, hz, Value.cells, hst]

theorem Fr.setCells {F : Nat → Prop} {a : World} {b : Nat} (hb : F b ∨ a.heap.size ≤ b) : ∀ (vs : List Value) (o : Nat) (w : World), Fr F a w → Fr F a (w.setCells b o vs) := by
  intro vs
  induction vs with
  | nil => intro o w h; exact h
  | cons v r ih => intro o w h; exact ih (o + 1) _ (h.setCell (p := ⟨b, o, none⟩) hb v)

/-- A row of links, some of whose elements are known. -/
def RowL (w : World) (g S : Nat) (ok : Nat → Prop) (f : Nat → Lk) : Prop :=
  ∃ C, w.heap[g]? = some (.cells C 54) ∧ C.size = S ∧ ∀ q, ok q → ∀ k, k < 5 → C[q * 5 + k]? = (f q).cl[k]?

section
variable {w w' : World} {g S : Nat} {ok : Nat → Prop} {f : Nat → Lk}
theorem RowL.lt (h : RowL w g S ok f) : g < w.heap.size := by obtain ⟨C, hC, _⟩ := h; exact some_lt hC
theorem RowL.fr (h : RowL w g S ok f) {F : Nat → Prop} (hf : Fr F w w') (hF : ¬ F g) : RowL w' g S ok f := by
  have hl := h.lt
  obtain ⟨C, hC, h1, h2⟩ := h
  exact ⟨C, (hf.block g hl hF).trans hC, h1, h2⟩
theorem RowL.frozen (h : RowL w g S ok f) (i : Nat) : w.frozen? ⟨g, i, none⟩ = false := by
  obtain ⟨C, hC, _⟩ := h
  exact (own_no (Fr.refl _ _) g hC).2.1 i
theorem RowL.has (h : RowL w g S ok f) (i : Nat) (hi : i < S) : ∃ v, w.cell? ⟨g, i, none⟩ = some v := by
  obtain ⟨C, hC, h1, _⟩ := h
  rw [cell_of hC]
  exact ⟨C[i]'(by omega), Array.getElem?_eq_getElem (by omega)⟩
theorem RowL.at (h : RowL w g S ok f) (q : Nat) (hq : ok q) : LkC w g (q * 5) (f q) := by
  obtain ⟨C, hC, _, h2⟩ := h
  have key : ∀ k, k < 5 → w.cell? ⟨g, q * 5 + k, none⟩ = (f q).cl[k]? := fun k hk => by rw [cell_of hC]; exact h2 q hq k hk
  exact ⟨key 0 (by omega), key 1 (by omega), key 2 (by omega), key 3 (by omega), key 4 (by omega)⟩
theorem RowL.mono (h : RowL w g S ok f) {ok' : Nat → Prop} {f' : Nat → Lk} (hm : ∀ q, ok' q → ok q ∧ f' q = f q) : RowL w g S ok' f' := by
  obtain ⟨C, hC, h1, h2⟩ := h
  exact ⟨C, hC, h1, fun q hq k hk => by rw [(hm q hq).2]; exact h2 q (hm q hq).1 k hk⟩
theorem set5_get (C : Array Value) (a : Nat) (v0 v1 v2 v3 v4 : Value) (ha : a + 5 ≤ C.size) (p : Nat) :
    (((((C.setIfInBounds a v0).setIfInBounds (a + 1) v1).setIfInBounds (a + 2) v2).setIfInBounds (a + 3) v3).setIfInBounds (a + 4) v4)[p]? =
      if a ≤ p ∧ p < a + 5 then [v0, v1, v2, v3, v4][p - a]? else C[p]? := by
  by_cases h : a ≤ p ∧ p < a + 5
  · rw [if_pos h]
    have : p = a ∨ p = a + 1 ∨ p = a + 2 ∨ p = a + 3 ∨ p = a + 4 := by omega
    rcases this with rfl | rfl | rfl | rfl | rfl
    · simp [Array.getElem?_setIfInBounds]; omega
    · simp [Array.getElem?_setIfInBounds]; omega
    · simp [Array.getElem?_setIfInBounds]; omega
    · simp [Array.getElem?_setIfInBounds]; omega
    · simp [Array.getElem?_setIfInBounds]; omega
  · rw [if_neg h]
    simp only [Array.getElem?_setIfInBounds]
    rw [if_neg (by omega), if_neg (by omega), if_neg (by omega), if_neg (by omega), if_neg (by omega)]
theorem RowL.put (h : RowL w g S ok f) (i : Nat) (hi : i * 5 + 5 ≤ S) (y : Lk) :
    RowL (((((w.setCell ⟨g, i * 5, none⟩ (.int .i64 y.t)).setCell ⟨g, i * 5 + 1, none⟩ (.int .i64 y.h)).setCell ⟨g, i * 5 + 2, none⟩ (.int .i64 y.e.w)).setCell ⟨g, i * 5 + 3, none⟩ (.int .i64 y.e.a)).setCell ⟨g, i * 5 + 4, none⟩ (.int .i64 y.e.m))
      g S (fun q => q = i ∨ ok q) (fun q => if q = i then y else f q) := by
  obtain ⟨C, hC, h1, h2⟩ := h
  refine ⟨_, heap_set (heap_set (heap_set (heap_set (heap_set hC _ _) _ _) _ _) _ _) _ _, by simpa using h1, fun q hq k hk => ?_⟩
  rw [set5_get _ _ _ _ _ _ _ (by omega)]
  by_cases e : q = i
  · subst e
    rw [if_pos (by omega), Nat.add_sub_cancel_left]
    show _ = (if q = q then y else f q).cl[k]?
    rw [if_pos rfl]; rfl
  · rw [if_neg (by omega)]
    show _ = (if q = i then y else f q).cl[k]?
    rw [if_neg e]
    exact h2 q (hq.resolve_left e) k hk
end

end Go.Proofs.YtpkocidcfnlbiaaDoor

/- slices.DeleteFunc at a row of links of one's own; the program's 'Shortcuts'; walked. -/
set_option linter.unusedVariables false
set_option linter.unusedSimpArgs false
namespace Go.Proofs.YtpkocidcfnlbiaaDoor
open Go.RowKit Go.Deep

/-- The kept ones among the first j. -/
def Lk.short (l : Lk) : Bool := decide (0 ≤ l.e.m)
def pk (lk : Nat → Lk) : Nat → List Lk
  | 0 => []
  | j + 1 => if (lk j).short then pk lk j ++ [lk j] else pk lk j
theorem pk_len (lk : Nat → Lk) : ∀ j, (pk lk j).length ≤ j := by
  intro j
  induction j with
  | zero => exact Nat.le_refl _
  | succ j ih =>
    rw [pk]
    split
    · simp; omega
    · omega
theorem pk_all (lk : Nat → Lk) (k : Nat) : (∀ j, j < k → 0 ≤ (lk j).e.m) → pk lk k = (List.range k).map lk := by
  intro h
  induction k with
  | zero => rfl
  | succ k ih =>
    rw [pk, if_pos (by simpa [Lk.short] using h k (by omega)), ih (fun j hj => h j (by omega)), List.range_succ, List.map_append]; rfl
theorem pk_none (lk : Nat → Lk) (k : Nat) (h : (lk k).e.m < 0) : pk lk (k + 1) = pk lk k := by
  rw [pk, if_neg (by simp [Lk.short]; omega)]
theorem pk_getD (lk : Nat → Lk) (k : Nat) (h : ∀ j, j < k → 0 ≤ (lk j).e.m) (q : Nat) (hq : q < k) : (pk lk k).getD q Lk.zero = lk q := by
  rw [pk_all lk k h]; simp [List.getD, hq]
theorem getD_app (l : List Lk) (y : Lk) (q : Nat) : q < l.length + 1 → (l ++ [y]).getD q Lk.zero = if q = l.length then y else l.getD q Lk.zero := by
  intro h
  by_cases e : q = l.length
  · subst e; simp [List.getD]
  · rw [if_neg e]; simp only [List.getD]; rw [List.getElem?_append_left (by omega)]

theorem RowL.setCells {g S : Nat} {ok : Nat → Prop} {f : Nat → Lk} : ∀ (vs : List Value) (o : Nat) {w : World}, RowL w g S ok f → (∀ q, ok q → q * 5 + 5 ≤ o) → RowL (w.setCells g o vs) g S ok f := by
  intro vs
  induction vs with
  | nil => intro o w h _; exact h
  | cons v r ih =>
    intro o w h hq
    refine ih (o + 1) ?_ (fun q h => by have := hq q h; omega)
    obtain ⟨C, hC, h1, h2⟩ := h
    refine ⟨_, heap_set hC o v, by simpa using h1, fun q hok k hk => ?_⟩
    have := hq q hok
    rw [Array.getElem?_setIfInBounds, if_neg (by omega)]
    exact h2 q hok k hk

theorem own_rowL {w : World} {base g c : Nat} {l : List Lk} (h : w.ownsRow base 54 5 (.slice (some ⟨g, 0, none⟩) l.length c) l.length (lkCells l)) :
    RowL w g (c * 5) (· < l.length) (fun q => l.getD q Lk.zero) ∧ base ≤ g ∧ l.length ≤ c ∧ c ≤ maxLen := by
  obtain ⟨_, h' | ⟨g', cap, cur, e, hb, hg, h1, h2, h3, h4⟩⟩ := h
  · cases h'.1
  · simp only [Value.slice.injEq, Option.some.injEq, Addr.mk.injEq, true_and, and_true] at e
    obtain ⟨rfl, rfl⟩ := e
    refine ⟨⟨cur, hg, h3, fun q hq k hk => ?_⟩, hb, h1, h2⟩
    have e := lkCells_at l q hq k hk
    rw [← h4, List.getElem?_take_of_lt (by omega)] at e
    rw [← e]; simp

/-- The links that are shortcuts, by rising rank. -/
def Ix.shorts (x : Ix) : List Lk := pk (fun q => (x.lks x.n).getD q Lk.zero) (x.lks x.n).length

end Go.Proofs.YtpkocidcfnlbiaaDoor
