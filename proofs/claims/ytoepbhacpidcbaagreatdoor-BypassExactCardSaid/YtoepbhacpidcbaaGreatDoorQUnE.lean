/- Unpacking, the document's 'Arcs' and the program's stack; walked. -/
import Derived.Deep.LoopGhost
import Derived.StillTailTactics
import Derived.Test.YtoepbhacpidcbaaGreatDoorQBase
import Derived.Test.YtoepbhacpidcbaaGreatDoorQIdx
import Derived.Test.YtoepbhacpidcbaaGreatDoorQIdxB
import Derived.Test.YtoepbhacpidcbaaGreatDoorQPerm
import Derived.Test.YtoepbhacpidcbaaGreatDoorQRef
import Derived.Test.YtoepbhacpidcbaaGreatDoorQUnref

set_option linter.unusedVariables false
set_option linter.unusedSimpArgs false
namespace Go.Proofs.YtoepbhacpidcbaaGreatDoor
open Go.RowKit Go.Deep
attribute [local go_sem ↓] Go.wp_at_zero Go.wp_at_succ
attribute [local go_sem high] run_eql_en run_neq_en

/-- The arcs of an entry and the code (1: no two vertices). -/
def Ix.arcs (x : Ix) (u v : Int) : List Int × Int := if x.two u v = true then x.add 25 u v [] else ([], 1)

set_option maxHeartbeats 1000000 in
theorem pop_calls (b off n c : Nat) (u v : Int) (w : World) (hn : n < 140737488351232) (hc : n + 1 ≤ c) (h0 : w.cell? ⟨b, off + n * 2, none⟩ = some (.int .i64 u)) (h1 : w.cell? ⟨b, off + n * 2 + 1, none⟩ = some (.int .i64 v)) :
    Calls Tryz.prog 211 #[.slice (some ⟨b, off, none⟩) (n + 1) c] w fun e w' => e = .returned (.tuple #[.agg #[.int .i64 u, .int .i64 v], .slice (some ⟨b, off, none⟩) n n]) ∧ Fr No w w' := by
  have hb := World.block_lt_of_cell? _ _ h0
  go_enter Tryz.func211, Tryz.ntmps211
  go_wp2
  go_region
  all_goals go_wp2
  all_goals
    have q := cell_of (heap_new w (.cells #[.int .i64 u, .int .i64 v] 280))
    refine bodyPost_ret (v := .tuple #[.agg #[.int .i64 u, .int .i64 v], .slice (some ⟨b, off, none⟩) n n]) (by simp [results, Tryz.results211, go_sem, q 0, q 1]) rfl ⟨rfl, ((Fr.refl _ _).alloc _).drew⟩

end Go.Proofs.YtoepbhacpidcbaaGreatDoor

/- The program's unpacking as plain mathematics: a stack of what is still to be unpacked. -/
set_option linter.unusedVariables false
set_option linter.unusedSimpArgs false
namespace Go.Proofs.YtoepbhacpidcbaaGreatDoor
open Go.RowKit Go.Deep

/-- What is left of n pairs, the last one first, behind arcs that are there. -/
def Ix.unw (x : Ix) (st : Nat → Int × Int) : Nat → List Int → List Int × Int
  | 0, l => (l, 0)
  | n + 1, l => if (x.add 25 (st n).1 (st n).2 l).2 ≠ 0 then ([], (x.add 25 (st n).1 (st n).2 l).2) else x.unw st n (x.add 25 (st n).1 (st n).2 l).1

theorem Ix.unw_congr (x : Ix) (st st' : Nat → Int × Int) : ∀ (n : Nat) (l : List Int), (∀ j, j < n → st j = st' j) → x.unw st n l = x.unw st' n l := by
  intro n
  induction n with
  | zero => intro l _; rfl
  | succ n ih =>
    intro l h
    simp only [Ix.unw]
    rw [h n (by omega), ih _ (fun j hj => h j (by omega))]

def pushed (st : Nat → Int × Int) (n : Nat) (p q : Int × Int) : Nat → Int × Int := fun j => if j = n then p else if j = n + 1 then q else st j

def Ix.meas (x : Ix) (st : Nat → Int × Int) : Nat → Nat
  | 0 => 0
  | n + 1 => (2 ^ x.dep (st n).1 (st n).2 - 1) + x.meas st n
theorem Ix.meas_congr (x : Ix) (st st' : Nat → Int × Int) : ∀ (n : Nat), (∀ j, j < n → st j = st' j) → x.meas st n = x.meas st' n := by
  intro n
  induction n with
  | zero => intro _; rfl
  | succ n ih =>
    intro h
    simp only [Ix.meas]
    rw [h n (by omega), ih (fun j hj => h j (by omega))]
theorem Ix.meas_pos (x : Ix) (u v : Int) : 1 ≤ 2 ^ x.dep u v - 1 := by
  have : 2 ^ 1 ≤ 2 ^ x.dep u v := Nat.pow_le_pow_right (by omega) (by unfold Ix.dep; omega)
  omega

theorem Ix.meas_ge (x : Ix) (st : Nat → Int × Int) : ∀ n, n ≤ x.meas st n := by
  intro n
  induction n with
  | zero => exact Nat.zero_le _
  | succ n ih =>
    have := x.meas_pos (st n).1 (st n).2
    simp only [Ix.meas]; omega
theorem Ix.unw_none {x : Ix} {st : Nat → Int × Int} {n : Nat} {l : List Int} (h0 : x.at_ (st n).1 (st n).2 = En.none) : x.unw st (n + 1) l = ([], 3) := by
  have e : x.add 25 (st n).1 (st n).2 l = ([], 3) := by rw [Ix.add, if_pos h0]
  simp only [Ix.unw, e]; rfl
theorem Ix.unw_long {x : Ix} {st : Nat → Int × Int} {n : Nat} {l : List Int} (h0 : x.at_ (st n).1 (st n).2 ≠ En.none) (hm : (x.at_ (st n).1 (st n).2).m < 0) (hl : 23 ≤ l.length) : x.unw st (n + 1) l = ([], 9) := by
  have e : x.add 25 (st n).1 (st n).2 l = ([], 9) := by rw [Ix.add, if_neg h0, if_pos hm, if_pos hl]
  simp only [Ix.unw, e]; rfl
theorem Ix.unw_arc {x : Ix} {st : Nat → Int × Int} {n : Nat} {l : List Int} (h0 : x.at_ (st n).1 (st n).2 ≠ En.none) (hm : (x.at_ (st n).1 (st n).2).m < 0) (hl : ¬ 23 ≤ l.length) : x.unw st (n + 1) l = x.unw st n (l ++ [(x.at_ (st n).1 (st n).2).a]) := by
  have e : x.add 25 (st n).1 (st n).2 l = (l ++ [(x.at_ (st n).1 (st n).2).a], 0) := by rw [Ix.add, if_neg h0, if_pos hm, if_neg hl]
  simp only [Ix.unw, e]; simp
theorem Ix.unw_mid {x : Ix} (hfit : x.Fit) (hok : x.Ok) {st : Nat → Int × Int} {n : Nat} {l : List Int} (h0 : x.at_ (st n).1 (st n).2 ≠ En.none) (hm : 0 ≤ (x.at_ (st n).1 (st n).2).m) :
    x.unw st (n + 1) l = x.unw (pushed st n ((x.at_ (st n).1 (st n).2).m, (st n).2) ((st n).1, (x.at_ (st n).1 (st n).2).m)) (n + 2) l ∧
    x.meas (pushed st n ((x.at_ (st n).1 (st n).2).m, (st n).2) ((st n).1, (x.at_ (st n).1 (st n).2).m)) (n + 2) < x.meas st (n + 1) := by
  have hc := hfit.cases hok (st n).1 (st n).2
  rw [or_iff_right h0] at hc
  obtain ⟨hw1, hw2, htw, hc⟩ := hc
  have hc : x.rk (x.at_ (st n).1 (st n).2).m.toNat < x.rk (st n).1.toNat ∧ x.rk (x.at_ (st n).1 (st n).2).m.toNat < x.rk (st n).2.toNat := by
    rcases hc with ⟨a, b, c⟩ | ⟨a, b, c, d, e⟩
    · omega
    · exact ⟨d, e⟩
  have hd := Ix.dep_mid hc.1 hc.2
  have h24 := Ix.dep_le hok htw
  obtain ⟨m, hM⟩ : ∃ m, (x.at_ (st n).1 (st n).2).m = m := ⟨_, rfl⟩
  rw [hM] at hd hm ⊢
  have p1 : pushed st n (m, (st n).2) ((st n).1, m) (n + 1) = ((st n).1, m) := by simp [pushed]
  have p0 : pushed st n (m, (st n).2) ((st n).1, m) n = (m, (st n).2) := by simp [pushed]
  have pj : ∀ j, j < n → pushed st n (m, (st n).2) ((st n).1, m) j = st j := fun j hj => by
    unfold pushed; rw [if_neg (by omega), if_neg (by omega)]
  constructor
  · have ea : x.add 25 (st n).1 (st n).2 l = if (x.add 25 (st n).1 m l).2 ≠ 0 then ([], (x.add 25 (st n).1 m l).2) else x.add 25 m (st n).2 (x.add 25 (st n).1 m l).1 := by
      rw [Ix.add, if_neg h0, hM, if_neg (show ¬ m < 0 by omega), Ix.add_fuel hfit hok 24 24 25 (st n).1 m l (by omega) (by omega) (by omega)]
      split
      · rfl
      · exact Ix.add_fuel hfit hok 24 24 25 m (st n).2 _ (by omega) (by omega) (by omega)
    have er : x.unw (pushed st n (m, (st n).2) ((st n).1, m)) (n + 2) l = if (x.add 25 (st n).1 m l).2 ≠ 0 then ([], (x.add 25 (st n).1 m l).2) else
        if (x.add 25 m (st n).2 (x.add 25 (st n).1 m l).1).2 ≠ 0 then ([], (x.add 25 m (st n).2 (x.add 25 (st n).1 m l).1).2) else x.unw st n (x.add 25 m (st n).2 (x.add 25 (st n).1 m l).1).1 := by
      simp only [Ix.unw, p1, p0]
      rw [Ix.unw_congr x _ st n _ pj]
    rw [er]
    simp only [Ix.unw]
    rw [ea]
    by_cases h1 : (x.add 25 (st n).1 m l).2 = 0
    · have h1' : ¬ (x.add 25 (st n).1 m l).2 ≠ 0 := by simpa using h1
      simp only [if_neg h1']
    · have h1' : (x.add 25 (st n).1 m l).2 ≠ 0 := h1
      simp only [if_pos h1']
  · simp only [Ix.meas, p1, p0]
    rw [Ix.meas_congr x _ st n pj]
    have a1 : 2 ^ x.dep (st n).1 m ≤ 2 ^ (x.dep (st n).1 (st n).2 - 1) := Nat.pow_le_pow_right (by omega) (by omega)
    have a2 : 2 ^ x.dep m (st n).2 ≤ 2 ^ (x.dep (st n).1 (st n).2 - 1) := Nat.pow_le_pow_right (by omega) (by omega)
    have a3 : 2 ^ x.dep (st n).1 (st n).2 = 2 * 2 ^ (x.dep (st n).1 (st n).2 - 1) := by
      have e : x.dep (st n).1 (st n).2 = x.dep (st n).1 (st n).2 - 1 + 1 := by omega
      rw [← Nat.pow_succ']; exact congrArg (2 ^ ·) e
    have a4 := Ix.meas_pos x (st n).1 m
    have a5 := Ix.meas_pos x m (st n).2
    omega

end Go.Proofs.YtoepbhacpidcbaaGreatDoor

/- The program's unpacking of an entry; walked. -/
set_option linter.unusedVariables false
set_option linter.unusedSimpArgs false
namespace Go.Proofs.YtoepbhacpidcbaaGreatDoor
open Go.RowKit Go.Deep
attribute [local go_sem ↓] Go.wp_at_zero Go.wp_at_succ
attribute [local go_sem high] run_eql_en run_neq_en

/-- Pairs in a row. -/
def PairsAt (w : World) (b n : Nat) (st : Nat → Int × Int) : Prop :=
  ∀ j, j < n → w.cell? ⟨b, j * 2, none⟩ = some (.int .i64 (st j).1) ∧ w.cell? ⟨b, j * 2 + 1, none⟩ = some (.int .i64 (st j).2)
theorem PairsAt.fr {w w' : World} {b n : Nat} {st : Nat → Int × Int} (h : PairsAt w b n st) (hf : Fr No w w') : PairsAt w' b n st :=
  fun j hj => ⟨hf.cell_some (h j hj).1 (fun h => h), hf.cell_some (h j hj).2 (fun h => h)⟩

def pairCells (st : Nat → Int × Int) (n : Nat) : List Value := (List.range n).flatMap fun j => [.int .i64 (st j).1, .int .i64 (st j).2]
theorem pairCells_len (st : Nat → Int × Int) : ∀ n, (pairCells st n).length = n * 2 := by
  intro n
  induction n with
  | zero => rfl
  | succ n ih =>
    simp only [pairCells, List.range_succ, List.flatMap_append, List.length_append] at ih ⊢
    rw [ih]; simp; omega
theorem pairCells_succ (st : Nat → Int × Int) (n : Nat) : pairCells st (n + 1) = pairCells st n ++ [.int .i64 (st n).1, .int .i64 (st n).2] := by
  simp [pairCells, List.range_succ, List.flatMap_append]
theorem pairCells_get (st : Nat → Int × Int) : ∀ n j, j < n → (pairCells st n)[j * 2]? = some (.int .i64 (st j).1) ∧ (pairCells st n)[j * 2 + 1]? = some (.int .i64 (st j).2) := by
  intro n
  induction n with
  | zero => intro j hj; omega
  | succ n ih =>
    intro j hj
    rw [pairCells_succ]
    have hl := pairCells_len st n
    by_cases e : j = n
    · subst e
      rw [List.getElem?_append_right (by omega), List.getElem?_append_right (by omega)]
      rw [show j * 2 - (pairCells st j).length = 0 by omega, show j * 2 + 1 - (pairCells st j).length = 1 by omega]
      exact ⟨rfl, rfl⟩
    · rw [List.getElem?_append_left (by omega), List.getElem?_append_left (by omega)]
      exact ih j (by omega)
theorem PairsAt.olds {w : World} {b n : Nat} {st : Nat → Int × Int} (h : PairsAt w b n st) : ∀ j u, (pairCells st n)[j]? = some u → w.cell? ((⟨b, 0, none⟩ : Addr).add j) = some u := by
  intro j u hu
  have hl := pairCells_len st n
  have hj : j < n * 2 := by rw [← hl]; exact (List.getElem?_eq_some_iff.1 hu).1
  have hg := pairCells_get st n (j / 2) (by omega)
  rw [Addr.add_mid, Nat.zero_add]
  rcases Nat.mod_two_eq_zero_or_one j with e | e
  · have ej : j = j / 2 * 2 := by omega
    rw [ej] at hu ⊢
    rw [hg.1] at hu; cases hu
    exact (h (j / 2) (by omega)).1
  · have ej : j = j / 2 * 2 + 1 := by omega
    rw [ej] at hu ⊢
    rw [hg.2] at hu; cases hu
    exact (h (j / 2) (by omega)).2
theorem own_pairs {w : World} {base g n cap : Nat} {st : Nat → Int × Int} (h : w.ownsRow base 280 2 (.slice (some ⟨g, 0, none⟩) n cap) n (pairCells st n)) : PairsAt w g n st := fun j hj => by
  have hc := h.cells (g := g) rfl
  have hg := pairCells_get st n j hj
  have h1 := hc _ _ hg.1
  have h2 := hc _ _ hg.2
  rw [Addr.add_mid, Nat.zero_add] at h1 h2
  exact ⟨h1, h2⟩

theorem info_two : (Tryz.prog.info? 280).map (fun i => (i.zero, i.size, i.bytes)) = some (some (.agg #[.int .i64 0, .int .i64 0]), 2, 16) := by kernel_rfl
theorem i_two : ∃ i, Tryz.prog.info? 280 = some i ∧ i.zero = some (.agg #[.int .i64 0, .int .i64 0]) ∧ i.size = 2 ∧ i.bytes = 16 := by
  obtain ⟨i, hi, h⟩ := Option.map_eq_some_iff.1 info_two
  simp only [Prod.mk.injEq] at h
  exact ⟨i, hi, h.1, h.2.1, h.2.2⟩

theorem own_fr {w w' : World} {base n size : Nat} {e : TypeId} {v : Value} {xs : List Value} (h : w.ownsRow base e size v n xs) {F : Nat → Prop} (hf : Fr F w w') (hF : ∀ k, base ≤ k → ¬ F k) : w'.ownsRow base e size v n xs := by
  obtain ⟨h1, h2⟩ := h
  refine ⟨h1, ?_⟩
  rcases h2 with h2 | ⟨g, cap, cur, hv, hb, hg, hr⟩
  · exact .inl h2
  · exact .inr ⟨g, cap, cur, hv, hb, (hf.block g (some_lt hg) (hF g hb)).trans hg, hr⟩

set_option maxRecDepth 100000 in
theorem wpList_pairs {w : World} {ops : Array Oper} {rest : List Oper} {o : Oper} {a : Act} {Q : Exit → Act → World → Prop} (s x : Operand) (bs n b c : Nat) (st : Nat → Int × Int) (p q : Int × Int)
    (hgd : o.guard = none) (ho : o.op = .call { callee := .builtin .append, args := #[s, x], argTypes := #[281, 281] })
    (hs : a.eval s = .slice (some ⟨bs, 0, none⟩) n n) (hx : a.eval x = .slice (some ⟨b, 0, none⟩) 2 c) (hp : PairsAt w bs n st)
    (hb : w.heap[b]? = some (.cells #[.int .i64 p.1, .int .i64 p.2, .int .i64 q.1, .int .i64 q.2] 280)) (hn : n ≤ 16777216)
    (h : ∀ g cap w', n + 2 ≤ cap → PairsAt w' g (n + 2) (pushed st n p q) → w.grownBy w' none → w.heap.size ≤ g → wpList Tryz.prog ops Q rest (a.put o.dst (.slice (some ⟨g, 0, none⟩) (n + 2) cap)) w') :
    wpList Tryz.prog ops Q (o :: rest) a w := by
  obtain ⟨i0, hi, hz0, hz1, hz2⟩ := i_two
  refine wpList_append_grows w hgd s x 281 ho 280 i0 _ 2 16 Tryz.underlying281 hi hz0 hz1 hz2 rfl (by decide) (some ⟨bs, 0, none⟩) n n (pairCells st n) hs (by simp) (pairCells_len st n) ?_
    ⟨b, 0, none⟩ 2 c [.int .i64 p.1, .int .i64 p.2, .int .i64 q.1, .int .i64 q.2] hx rfl ?_ ?_ (by omega) (by unfold maxLen; omega) (by omega) ?_
  · intro bb hbb; cases hbb; exact hp.olds
  · intro j u hu
    rw [Addr.add_mid, Nat.zero_add, cell_of hb]
    simpa using hu
  · intro u hu; simp at hu; rcases hu with rfl | rfl | rfl | rfl <;> rfl
  · intro v' w' h1 h2
    obtain ⟨g, cap, rfl, hg1, hg2⟩ := h1.form (by omega)
    have e : pairCells st n ++ [.int .i64 p.1, .int .i64 p.2, .int .i64 q.1, .int .i64 q.2] = pairCells (pushed st n p q) (n + 2) := by
      have p0 : pushed st n p q n = p := by simp [pushed]
      have p1 : pushed st n p q (n + 1) = q := by simp [pushed]
      have pj : pairCells (pushed st n p q) n = pairCells st n := by
        unfold pairCells
        rw [List.flatMap_def, List.flatMap_def]
        congr 1
        apply List.map_congr_left
        intro j hj
        have hj : j < n := by simpa using hj
        have : pushed st n p q j = st j := by unfold pushed; rw [if_neg (by omega), if_neg (by omega)]
        rw [this]
      rw [show n + 2 = (n + 1) + 1 from rfl, pairCells_succ, pairCells_succ, p0, p1, pj, List.append_assoc]; rfl
    rw [e] at h1
    refine h g cap w' ?_ (own_pairs h1) h2 hg1
    obtain ⟨_, hh | ⟨g', cap', cur, e1, _, _, h3, h4, _⟩⟩ := h1
    · cases hh.1
    · simp only [Value.slice.injEq] at e1; omega

set_option maxHeartbeats 1000000 in
theorem parcs_no {x : Ix} {w : World} {L : IxLoc} (h : IxMem w L x) (u v : Int) (hl : x.low u v < 0) :
    Calls Tryz.prog 173 #[.pointer (some ⟨L.b, 0, none⟩), .int .i64 u, .int .i64 v] w fun e w' => e = .returned (.tuple #[.slice none 0 0, .int .i64 1]) ∧ Fr No w w' := by
  go_enter Tryz.func173, Tryz.ntmps173
  go_wp2_with (go_at_call 99; refine (low_calls h _ _).mono ?_; rintro e w' ⟨rfl, k, rfl⟩)
  go_ret2
  exact ⟨rfl, Fr.of_drewN _⟩

set_option maxRecDepth 100000 in
set_option maxHeartbeats 4000000 in
theorem parcs_yes {x : Ix} (hfit : x.Fit) {w : World} {L : IxLoc} (h : IxMem w L x) (u v : Int) (hl : 0 ≤ x.low u v) :
    Calls Tryz.prog 173 #[.pointer (some ⟨L.b, 0, none⟩), .int .i64 u, .int .i64 v] w fun e w' => ∃ sv', e = .returned (.tuple #[sv', .int .i64 (x.unw (fun _ => (u, v)) 1 []).2]) ∧ Fr No w w' ∧ SlL w' sv' (x.unw (fun _ => (u, v)) 1 []).1 := by
  have H := hid h
  go_enter Tryz.func173, Tryz.ntmps173
  go_wp2_with (go_at_call 99; refine (low_calls h _ _).mono ?_; rintro e w' ⟨rfl, k, rfl⟩)
  have ht : x.two u v = true := by
    cases hc : x.two u v with
    | true => rfl
    | false => simp [Ix.low, hc] at hl
  have hd := Ix.dep_le h.ok ht
  have hm0 : x.meas (fun _ => (u, v)) 1 ≤ 16777216 := by
    have : 2 ^ x.dep u v ≤ 2 ^ 24 := Nat.pow_le_pow_right (by omega) hd
    simp only [Ix.meas]; omega
  have hnx0 : (((w.drewN k).alloc (.cells #[.int .i64 0, .int .i64 0] 280)).alloc (.cells #[.int .i64 u, .int .i64 v] 280)).heap[w.heap.size]? = some (.cells #[.int .i64 0, .int .i64 0] 280) := heap_alloc2 (w.drewN k) _ _
  have hst0 : (((w.drewN k).alloc (.cells #[.int .i64 0, .int .i64 0] 280)).alloc (.cells #[.int .i64 u, .int .i64 v] 280)).heap[w.heap.size + 1]? = some (.cells #[.int .i64 u, .int .i64 v] 280) := heap_alloc2' (w.drewN k) _ _
  have HNX0 := hid hnx0
  have HST0 := hid hst0
  have HT := hid ht
  have HM0 := hid hm0
  clear hnx0 hst0 ht hm0 hd hl
  go_loopg [8, 10] (x.meas (fun _ => (u, v)) 1) (fun g p q wr => ∃ (n : Nat) (st : Nat → Int × Int) (l : List Int) (A : Option Addr) (c bs cs : Nat) (a0 a1 : Int),
      q = .slice (some ⟨bs, 0, none⟩) n cs ∧ n ≤ cs ∧ PairsAt wr bs n st ∧ w.heap.size < bs ∧ p = .slice A l.length c ∧ wr.ownsRow (w.heap.size + 1) 3 1 (.slice A l.length c) l.length (l.map (Value.int .i64)) ∧ l.length ≤ 23 ∧ (l = [] → A = none ∧ c = 0) ∧ (∀ ad, A = some ad → ad.block ≠ bs) ∧
      x.unw st n l = x.unw (fun _ => (u, v)) 1 [] ∧ x.meas st n ≤ g ∧ g ≤ 16777216 ∧ Fr No w wr ∧ wr.heap[w.heap.size]? = some (.cells #[.int .i64 a0, .int .i64 a1] 280))
  case atStart =>
    refine ⟨1, fun _ => (u, v), [], none, 0, w.heap.size + 1, 1, 0, 0, rfl, Nat.le_refl _, fun j hj => ?_, Nat.lt_succ_self _, rfl, World.ownsRow_nil _ _ _ _, by simp, fun _ => ⟨rfl, rfl⟩, (fun ad e => by cases e), rfl, Nat.le_refl _, HM0.out, ((Fr.of_drewN k).alloc _).alloc _, HNX0.out⟩
    obtain rfl : j = 0 := by omega
    exact ⟨cell_of HST0.out 0, cell_of HST0.out 1⟩
  case round =>
    obtain ⟨n, st, l, A, c, bs, cs, a0, a1, rfl, hcs, hp, hbs, rfl, hown, hl23, hnil, hab, hu, hg, hg2, hf, hnx⟩ := hrel
    have hnm := x.meas_ge st n
    have HP := hid hp
    have HO := hid hown
    have HNIL := hid hnil
    have HAB := hid hab
    have HU := hid hu
    have HG := hid hg
    have HF := hid hf
    have HNX := hid hnx
    clear hp hown hnil hab hu hf hnx
    by_cases hn : n = 0
    · subst hn
      have ho : l = [] ∨ ∃ g cap, 0 < l.length ∧ Value.slice A l.length c = .slice (some ⟨g, 0, none⟩) l.length cap := by
        rcases Nat.eq_zero_or_pos l.length with h0 | h0
        · exact .inl (List.eq_nil_of_length_eq_zero h0)
        · obtain ⟨g, cap, e, _⟩ := HO.out.form h0
          exact .inr ⟨g, cap, h0, e⟩
      have HOO := hid ho
      clear ho hg
      go_wp2
      go_ret2
      refine ⟨_, by rw [← HU.out]; rfl, HF.out, ?_⟩
      rw [← HU.out]
      rcases HOO.out with e | ⟨g, cap, h0, e⟩
      · left
        obtain ⟨rfl, rfl⟩ := HNIL.out e
        exact ⟨e, by rw [e]; rfl⟩
      · right
        have ho := HO.out
        rw [e] at ho
        obtain ⟨q1, q2, q3, q4, q5⟩ := own_list ho
        exact ⟨g, 0, cap, h0, e, fun j hj => by rw [Nat.zero_add]; exact q5 j hj⟩
    · obtain ⟨n, rfl⟩ : ∃ m, n = m + 1 := ⟨n - 1, by omega⟩
      clear hn
      go_wp2_with fail
      have hpn := HP.out n (by omega)
      refine (pop_calls bs 0 n cs (st n).1 (st n).2 _ (by omega) hcs (by rw [Nat.zero_add]; exact hpn.1) (by rw [Nat.zero_add]; exact hpn.2)).mono ?_
      rintro e w1 ⟨rfl, hf1⟩
      obtain ⟨o1, o2, o3, o4⟩ := own_no hf1 w.heap.size HNX.out
      have hfw1 := HF.out.trans hf1
      have HFW1 := hid hfw1
      have O4 := hid o4
      have HF1 := hid hf1
      clear hf1 hfw1 o4 hpn
      go_wp2_with fail
      have hfs : Fr No w ((w1.setCell ⟨w.heap.size, 0, none⟩ (.int .i64 (st n).1)).setCell ⟨w.heap.size, 1, none⟩ (.int .i64 (st n).2)) :=
        (HFW1.out.setCell (p := ⟨w.heap.size, 0, none⟩) (.inr (Nat.le_refl _)) _).setCell (p := ⟨w.heap.size, 1, none⟩) (.inr (Nat.le_refl _)) _
      obtain ⟨⟨e0, e1, e2⟩, hE⟩ : ∃ e, x.at_ (st n).1 (st n).2 = e := ⟨_, rfl⟩
      refine (at_calls (h.no hfs) _ _).mono ?_
      rintro e w2 ⟨rfl, hf2⟩
      rw [hE]; simp only [En.val]
      have hs2 := set2 O4.out (.int .i64 (st n).1) (.int .i64 (st n).2)
      obtain ⟨p1, p2, p3, p4⟩ := own_no hf2 w.heap.size hs2
      have hfr : Fr (One w.heap.size) wr w2 := (((HF1.out.no (F := One w.heap.size)).set1 0 _).set1 1 _).trans hf2.no
      have hbsz : bs < w2.heap.size := Nat.lt_of_lt_of_le (World.block_lt_of_cell? _ _ (HP.out n (by omega)).1) hfr.size
      have hown2 := own_fr HO.out hfr (fun k hk (e : k = w.heap.size) => by omega)
      have hp2 : PairsAt w2 bs n st := fun j hj => ⟨hfr.cell_some (HP.out j (by omega)).1 (fun e : bs = w.heap.size => by omega), hfr.cell_some (HP.out j (by omega)).2 (fun e : bs = w.heap.size => by omega)⟩
      have hfw2 := hfs.trans hf2
      have hsz := hfw2.size
      have HFW2 := hid hfw2
      have HO2 := hid hown2
      have HP2 := hid hp2
      have P4 := hid p4
      have HE := hid hE
      clear hf2 hfs hs2 hfw2 hE o1 o2 p4 hfr hown2 hp2
      by_cases h0 : (⟨e0, e1, e2⟩ : En) = En.none
      · have hu3 : ([], 3) = x.unw (fun _ => (u, v)) 1 [] := by
          rw [← HU.out]; exact (Ix.unw_none (by rw [HE.out]; exact h0)).symm
        have HU3 := hid hu3
        simp only [En.none, En.mk.injEq] at h0
        obtain ⟨rfl, rfl, rfl⟩ := h0
        clear hu3 hg
        go_wp2
        go_ret2
        exact ⟨_, by rw [← HU3.out]; rfl, HFW2.out.alloc _, by rw [← HU3.out]; exact SlL.nil _⟩
      · have hc := hfit.cases h.ok (st n).1 (st n).2
        have hne : x.at_ (st n).1 (st n).2 ≠ En.none := by rw [HE.out]; exact h0
        rw [or_iff_right hne, HE.out] at hc
        obtain ⟨hw1, hw2, htw, hc⟩ := hc
        simp only at hw1 hw2 hc
        have HNE := hid hne
        have HC := hid hc
        clear hne hc h0 htw
        by_cases hm : e2 < 0
        · by_cases hl : 23 ≤ l.length
          · have hu3 : ([], 9) = x.unw (fun _ => (u, v)) 1 [] := by
              rw [← HU.out]; exact (Ix.unw_long HNE.out (by rw [HE.out]; exact hm) hl).symm
            have HU3 := hid hu3
            clear hu3 hg
            go_wp2
            go_ret2
            exact ⟨_, by rw [← HU3.out]; rfl, HFW2.out.alloc _, by rw [← HU3.out]; exact SlL.nil _⟩
          · have hu3 : x.unw st n (l ++ [e1]) = x.unw (fun _ => (u, v)) 1 [] := by
              rw [← HU.out, Ix.unw_arc HNE.out (by rw [HE.out]; exact hm) hl, HE.out]
            have HU3 := hid hu3
            have hlt : l.length < 23 := by omega
            clear hu3 hl
            go_wp2_with (at_builtin; refine wpList_push (.tmp 35) (.tmp 38) (.slice A l.length c) l (w2.heap.size + 1) 1 e1 ?_ ?_ ?_ ?_ (w.heap.size + 1) ?_ ?_ ?_ ?_ ?_; rfl; rfl; rfl; rfl; exact (HO2.out.alloc _).alloc _; (simp; omega); exact cell_of (heap_alloc2' w2 _ _) 0; omega; intro g' cap' w3 hown3 hgrow3 hat3 hlt3; have HAT := hid hat3; clear hat3; have HO3 := hid hown3; have HG3 := hid hgrow3; clear hown3 hgrow3)
            go_roundg (x.meas st n)
            case measure =>
              have := x.meas_pos (st n).1 (st n).2
              simp only [Ix.meas] at hg; omega
            case rel =>
              have hgr : ∀ k, (Value.slice A l.length c).ownBlock = some k → w.heap.size + 1 ≤ k ∧ k < w2.heap.size ∧ k ≠ bs := fun k hk => by
                cases A with
                | none => cases hk
                | some ad =>
                  cases hk
                  have := HO2.out.lt _ rfl
                  exact ⟨this.1, this.2, HAB.out ad rfl⟩
              have hf3 : Fr No w w3 := ((HFW2.out.alloc _).alloc _).grown HG3.out (fun k e => .inr (by have := (hgr k e).1; omega))
              have hkeep : ∀ b, b < w2.heap.size → b ≠ w.heap.size → (∀ k, (Value.slice A l.length c).ownBlock = some k → k ≠ b) → w3.heap[b]? = w2.heap[b]? := fun b hb hne hk => by
                rw [HG3.out.block b (by simp; omega) (fun e => hk b e.symm rfl)]
                exact (Below.heap_alloc _ _ _ (by simp; omega)).trans (Below.heap_alloc _ _ _ hb)
              refine ⟨n, st, l ++ [e1], some ⟨g', 0, none⟩, cap', bs, n, (st n).1, (st n).2, rfl, Nat.le_refl _, fun j hj => ?_, hbs, by simp, HO3.out, by simp; omega, by simp, fun ad e => ?_, HU3.out, Nat.le_refl _, by simp only [Ix.meas] at hg; omega, hf3, ?_⟩
              · have hb := hkeep bs hbsz (by omega) (fun k hk => (hgr k hk).2.2)
                exact ⟨(World.cell?_of_block (w := w2) (a := ⟨bs, j * 2, none⟩) hb).trans (HP2.out j hj).1, (World.cell?_of_block (w := w2) (a := ⟨bs, j * 2 + 1, none⟩) hb).trans (HP2.out j hj).2⟩
              · cases e
                rcases HAT.out with e | e
                · exact (hgr g' e).2.2
                · show g' ≠ bs
                  simp at e; omega
              · rw [HG3.out.block w.heap.size (by simp; omega) (fun e => by have := (hgr _ e.symm).1; omega)]
                exact (Below.heap_alloc _ _ _ (by simp; omega)).trans ((Below.heap_alloc _ _ _ (by omega)).trans P4.out)
        · have hm' : 0 ≤ e2 := by omega
          have hmid := Ix.unw_mid hfit h.ok (st := st) (n := n) (l := l) HNE.out (by rw [HE.out]; exact hm')
          rw [HE.out] at hmid
          simp only at hmid
          have HMID := hid hmid
          clear hmid hm
          go_wp2_with (at_builtin; refine wpList_pairs (.tmp 48) (.tmp 59) bs n (w2.heap.size + 1) 2 st (e2, (st n).2) ((st n).1, e2) ?_ ?_ ?_ ?_ ?_ ?_ ?_ ?_; rfl; rfl; rfl; rfl; exact (HP2.out.fr ((Fr.refl _ _).alloc _)).fr ((Fr.refl _ _).alloc _); exact heap_alloc2' w2 _ _; omega; intro g' cap' w3 hcap hp3 hgrow3 hgb3; have HP3 := hid hp3; have HG3 := hid hgrow3; clear hp3 hgrow3)
          go_roundg (x.meas (pushed st n (e2, (st n).2) ((st n).1, e2)) (n + 2))
          case measure => have := HMID.out.2; omega
          case rel =>
            have hgb : w2.heap.size + 2 ≤ g' := by simpa using hgb3
            have hf3 : Fr No w w3 := ((HFW2.out.alloc _).alloc _).grown HG3.out (fun k e => by cases e)
            have hf23 : Fr No w2 w3 := (((Fr.refl _ _).alloc _).alloc _).grown HG3.out (fun k e => by cases e)
            refine ⟨n + 2, _, l, A, c, g', cap', (st n).1, (st n).2, rfl, hcap, HP3.out, by omega, rfl, own_fr HO2.out hf23 (fun _ _ h => h), hl23, HNIL.out, fun ad e => ?_, ?_, Nat.le_refl _, by have := HMID.out.2; omega, hf3, (hf23.block _ p3 (fun h => h)).trans P4.out⟩
            · subst e
              have := (HO2.out.lt _ rfl).2
              omega
            · rw [← HMID.out.1]; exact HU.out

end Go.Proofs.YtoepbhacpidcbaaGreatDoor

/- The program's and the document's unpacking come to the same; equal lists of numbers; walked. -/
set_option linter.unusedVariables false
set_option linter.unusedSimpArgs false
namespace Go.Proofs.YtoepbhacpidcbaaGreatDoor
open Go.RowKit Go.Deep

theorem Ix.unw_one (x : Ix) (u v : Int) : x.unw (fun _ => (u, v)) 1 [] = x.add 25 u v [] := by
  have h := x.add_len 25 u v [] (by simp)
  simp only [Ix.unw]
  generalize x.add 25 u v [] = r at h ⊢
  obtain ⟨r1, r2⟩ := r
  by_cases e : r2 = 0
  · subst e; rfl
  · have := (h.2.2 e).1
    simp only at this e ⊢
    rw [if_pos e, this]

theorem parcs_calls {x : Ix} (hfit : x.Fit) {w : World} {L : IxLoc} (h : IxMem w L x) (u v : Int) :
    Calls Tryz.prog 173 #[.pointer (some ⟨L.b, 0, none⟩), .int .i64 u, .int .i64 v] w fun e w' => ∃ sv', e = .returned (.tuple #[sv', .int .i64 (x.arcs u v).2]) ∧ Fr No w w' ∧ SlL w' sv' (x.arcs u v).1 := by
  cases ht : x.two u v with
  | false =>
    have e : x.arcs u v = ([], 1) := by simp [Ix.arcs, ht]
    rw [e]
    refine (parcs_no h u v (by simp [Ix.low, ht])).mono ?_
    rintro r w' ⟨rfl, hf⟩
    exact ⟨_, rfl, hf, SlL.nil _⟩
  | true =>
    have e : x.arcs u v = x.add 25 u v [] := by simp [Ix.arcs, ht]
    obtain ⟨hne, h1, h2, h3, h4⟩ := two_iff ht
    rw [e, ← Ix.unw_one]
    exact parcs_yes hfit h u v (by simp only [Ix.low, ht, if_true]; split <;> omega)

/-- A slice that reads as a list. -/
theorem SlL.intsF {w : World} {v : Value} {l : List Int} (h : SlL w v l) : ∃ A c, v = .slice A l.length c ∧ IntsF w A l.length (fun j => l.getD j 0) := by
  rcases h with ⟨rfl, rfl⟩ | ⟨b, off, c, h0, rfl, hc⟩
  · exact ⟨none, 0, rfl, fun h => by simp at h⟩
  · exact ⟨_, c, rfl, fun _ => ⟨b, off, rfl, hc⟩⟩

set_option maxHeartbeats 1000000 in
theorem ints_calls (A B : Option Addr) (n m c d : Nat) (f g : Nat → Int) (w : World) (ha : IntsF w A n f) (hb : IntsF w B m g) (hn : n ≤ 140737488351232) (hm : m ≤ 140737488351232) (r : Bool) (hr : r = true ↔ (n = m ∧ ∀ j, j < n → f j = g j)) :
    Calls Tryz.prog 21 #[.slice A n c, .slice B m d] w fun e w' => e = .returned (.bool r) ∧ Fr No w w' := by
  have HR := hid hr
  clear hr
  by_cases hnm : n = m
  · subst hnm
    go_enter Tryz.func21, Tryz.ntmps21
    go_wp2
    go_loopg [5] n (fun k p wr => ∃ i : Nat, i ≤ n ∧ p = .int .i64 i ∧ k = n - i ∧ Fr No w wr ∧ ∀ j, j < i → f j = g j)
    case atStart => exact ⟨0, Nat.zero_le _, rfl, rfl, Fr.refl _ _, fun j hj => by omega⟩
    case round =>
      obtain ⟨i, hi, rfl, hk, hf, he⟩ := hrel
      by_cases hlt : i < n
      · obtain ⟨b1, o1, rfl, hc1⟩ := ha (by omega)
        obtain ⟨b2, o2, rfl, hc2⟩ := hb (by omega)
        have q1 := hf.cell_some (hc1 i hlt) (fun h => h)
        have q2 := hf.cell_some (hc2 i hlt) (fun h => h)
        have HF := hid hf
        have HE := hid he
        have HK := hid hk
        have HA := hid ha
        have HB := hid hb
        clear hf he hk hc1 hc2 ha hb
        by_cases hx : f i = g i
        · have HX := hid hx
          have hx' : (f i != g i) = false := by simpa using hx
          clear hx
          go_wp2
          go_quiet (fail)
          go_wp2
          go_roundg (n - (i + 1))
          case measure => have := HK.out; omega
          case rel =>
            refine ⟨i + 1, by omega, by go_num, rfl, HF.out.drewN _, fun j hj => ?_⟩
            rcases Nat.lt_succ_iff_lt_or_eq.1 hj with hj | rfl
            · exact HE.out j hj
            · exact HX.out
        · have HX := hid hx
          have hx' : (f i != g i) = true := by simpa using hx
          clear hx
          go_wp2
          go_quiet (fail)
          go_wp2
          go_ret
          refine ⟨ret_bool ?_, HF.out.drewN _⟩
          cases r with
          | false => rfl
          | true => exact absurd ((HR.out.1 rfl).2 i hlt) HX.out
      · have HF := hid hf
        have HE := hid he
        clear hf he hk
        go_wp2
        go_ret
        refine ⟨ret_bool ?_, HF.out⟩
        exact (HR.out.2 ⟨trivial, fun j hj => HE.out j (by omega)⟩).symm
  · have hnm' : ((n : Int) != (m : Int)) = true := by simp; omega
    have HN := hid hnm
    clear hnm
    go_enter Tryz.func21, Tryz.ntmps21
    go_wp2
    go_ret
    refine ⟨ret_bool ?_, Fr.refl _ _⟩
    cases r with
    | false => rfl
    | true => exact absurd (HR.out.1 rfl).1 HN.out

theorem ints_same {w : World} {a b : Value} {l : List Int} (ha : SlL w a l) (hb : SlL w b l) (hl : l.length ≤ 100000) :
    Calls Tryz.prog 21 #[a, b] w fun e w' => e = .returned (.bool true) ∧ Fr No w w' := by
  obtain ⟨A, c, rfl, h1⟩ := ha.intsF
  obtain ⟨B, d, rfl, h2⟩ := hb.intsF
  exact ints_calls A B _ _ c d _ _ w h1 h2 (by omega) (by omega) true (by simp)

end Go.Proofs.YtoepbhacpidcbaaGreatDoor
/- From vertex to vertex: the program's and the document's 'Way'; walked. -/
set_option linter.unusedVariables false
set_option linter.unusedSimpArgs false
namespace Go.Proofs.YtoepbhacpidcbaaGreatDoor
open Go.RowKit Go.Deep

theorem Ix.arcs_len (x : Ix) (u v : Int) : (x.arcs u v).1.length ≤ 23 ∧ ((x.arcs u v).2 = 0 → 0 < (x.arcs u v).1.length) := by
  unfold Ix.arcs
  split
  · have := x.add_len 25 u v [] (by simp)
    exact ⟨this.1, fun e => by simpa using this.2.1 e⟩
  · exact ⟨by simp, by simp⟩
end Go.Proofs.YtoepbhacpidcbaaGreatDoor

/- The law's check that its parts are awake; walked. -/
set_option linter.unusedVariables false
set_option linter.unusedSimpArgs false
namespace Go.Proofs.YtoepbhacpidcbaaGreatDoor
open Go.RowKit Go.Deep

def awf (j : Nat) : Int := [1, 0, 2].getD j 0
def awg (j : Nat) : Nat := [1, 0, 2].getD j 0
theorem aw_perm : PermF 3 awf := ⟨by omega, by decide, by
  intro i j hi hj
  have : (i = 0 ∧ j = 1) ∨ (i = 0 ∧ j = 2) ∨ (i = 1 ∧ j = 2) := by omega
  rcases this with ⟨rfl, rfl⟩ | ⟨rfl, rfl⟩ | ⟨rfl, rfl⟩ <;> decide⟩
theorem aw_g1 : ∀ i, i < 3 → awg (awf i).toNat = i := by decide
theorem aw_g2 : ∀ r, r < 3 → awg r < 3 ∧ awf (awg r) = r := by decide
theorem lit_ints {w : World} {C : Array Value} {T : TypeId} (n : Nat) (f : Nat → Int) (h : ∀ j, j < n → C[j]? = some (.int .i64 (f j))) : IntsF (w.alloc (.cells C T)) (some ⟨w.heap.size, 0, none⟩) n f := fun _ =>
  ⟨_, _, rfl, fun j hj => by rw [Nat.zero_add, (own_no (Fr.refl _ _) w.heap.size (heap_new w _)).1 j]; exact h j hj⟩
theorem lit_sl {w : World} {C : Array Value} {T : TypeId} (l : List Int) (n c : Nat) (hn : n = l.length) (h0 : 0 < l.length) (h : ∀ j, j < l.length → C[j]? = some (.int .i64 (l.getD j 0))) : SlL (w.alloc (.cells C T)) (.slice (some ⟨w.heap.size, 0, none⟩) n c) l :=
  .inr ⟨_, _, c, h0, by rw [hn], fun j hj => by rw [Nat.zero_add, (own_no (Fr.refl _ _) w.heap.size (heap_new w _)).1 j]; exact h j hj⟩
theorem fr_sub {a b c : World} (h1 : Fr No a b) {k : Nat} (h2 : Fr (One k) b c) (hk : a.heap.size ≤ k) : Fr No a c :=
  h1.trans' h2 (fun j _ hj => by have : j = k := hj; omega)

end Go.Proofs.YtoepbhacpidcbaaGreatDoor

/- The two laws of unpacking; walked. -/
set_option linter.unusedVariables false
set_option linter.unusedSimpArgs false
namespace Go.Proofs.YtoepbhacpidcbaaGreatDoor
open Go.RowKit Go.Deep

theorem LinksF.fr {w w' : World} {A : Option Addr} {n : Nat} {f : Nat → Lk} (h : LinksF w A n f) (hf : Fr No w w') : LinksF w' A n f := fun hn => by
  obtain ⟨b, off, e, hc⟩ := h hn
  exact ⟨b, off, e, fun j hj => (hc j hj).fr hf (fun h => h)⟩
end Go.Proofs.YtoepbhacpidcbaaGreatDoor
