/- slices.DeleteFunc at a row of links of one's own; the program's 'Shortcuts'; walked. -/
import Derived.Test.YtlncmnphjdeeoaaDoorDel
set_option linter.unusedVariables false
set_option linter.unusedSimpArgs false
namespace Go.Proofs.YtlncmnphjdeeoaaDoor
open Go.RowKit Go.Deep

/-- The kept ones among the first j. -/
def Lk.short (l : Lk) : Bool := decide (0 ≤ l.e.m)
def pk (lk : Nat → Lk) : Nat → List Lk
  | 0 => []
  | j + 1 => if (lk j).short then pk lk j ++ [lk j] else pk lk j
theorem pk_len (lk : Nat → Lk) : ∀ j, (pk lk j).length ≤ j := by
  intro j
  induction j with
  | zero => exact Nat.le_refl _
  | succ j ih =>
    rw [pk]
    split
    · simp; omega
    · omega
theorem pk_all (lk : Nat → Lk) (k : Nat) : (∀ j, j < k → 0 ≤ (lk j).e.m) → pk lk k = (List.range k).map lk := by
  intro h
  induction k with
  | zero => rfl
  | succ k ih =>
    rw [pk, if_pos (by simpa [Lk.short] using h k (by omega)), ih (fun j hj => h j (by omega)), List.range_succ, List.map_append]; rfl
theorem pk_none (lk : Nat → Lk) (k : Nat) (h : (lk k).e.m < 0) : pk lk (k + 1) = pk lk k := by
  rw [pk, if_neg (by simp [Lk.short]; omega)]
theorem pk_getD (lk : Nat → Lk) (k : Nat) (h : ∀ j, j < k → 0 ≤ (lk j).e.m) (q : Nat) (hq : q < k) : (pk lk k).getD q Lk.zero = lk q := by
  rw [pk_all lk k h]; simp [List.getD, hq]
theorem getD_app (l : List Lk) (y : Lk) (q : Nat) : q < l.length + 1 → (l ++ [y]).getD q Lk.zero = if q = l.length then y else l.getD q Lk.zero := by
  intro h
  by_cases e : q = l.length
  · subst e; simp [List.getD]
  · rw [if_neg e]; simp only [List.getD]; rw [List.getElem?_append_left (by omega)]

theorem RowL.setCells {g S : Nat} {ok : Nat → Prop} {f : Nat → Lk} : ∀ (vs : List Value) (o : Nat) {w : World}, RowL w g S ok f → (∀ q, ok q → q * 5 + 5 ≤ o) → RowL (w.setCells g o vs) g S ok f := by
  intro vs
  induction vs with
  | nil => intro o w h _; exact h
  | cons v r ih =>
    intro o w h hq
    refine ih (o + 1) ?_ (fun q h => by have := hq q h; omega)
    obtain ⟨C, hC, h1, h2⟩ := h
    refine ⟨_, heap_set hC o v, by simpa using h1, fun q hok k hk => ?_⟩
    have := hq q hok
    rw [Array.getElem?_setIfInBounds, if_neg (by omega)]
    exact h2 q hok k hk

set_option maxRecDepth 100000 in
set_option maxHeartbeats 4000000 in
theorem delfunc_calls {w : World} {g n c S : Nat} {lk : Nat → Lk} (h : RowL w g S (· < n) lk) (hS : n * 5 ≤ S) (hnc : n ≤ c) (hn : n ≤ 1000000) (hc : c ≤ 9223372036854775807) (h0 : 0 < n) :
    Calls Tryd.prog 77 #[.slice (some ⟨g, 0, none⟩) n c, .func (.func 78) #[] #[]] w fun e w' => e = .returned (.slice (some ⟨g, 0, none⟩) (pk lk n).length c) ∧ Fr (One g) w w' ∧
      RowL w' g S (· < (pk lk n).length) (fun q => (pk lk n).getD q Lk.zero) := by
  have H := hid h
  clear h
  have hl : LinksF w (some ⟨g, 0, none⟩) n lk := fun _ => ⟨g, 0, rfl, fun j hj => by
    rw [Nat.zero_add]
    have := H.out.at j hj
    exact ⟨this.q0, this.q1, this.q2, this.q3, this.q4⟩⟩
  go_enter Tryd.func77, Tryd.ntmps77
  go_wp2_with fail
  refine (idxfunc_calls hl hn).mono ?_
  clear hl
  rintro e w1 ⟨r, rfl, hf, hr⟩
  have H1 := hid (H.out.fr hf (fun h => h))
  have HF := hid (hf.no (F := One g))
  clear hf
  rcases hr with ⟨rfl, ha⟩ | ⟨k, hk, rfl, hkm, ha⟩
  · have HA := hid ha
    clear ha
    go_wp2
    go_ret
    have e : pk lk n = (List.range n).map lk := pk_all lk n HA.out
    have e2 : (pk lk n).length = n := by rw [e]; simp
    rw [e2]
    exact ⟨rfl, HF.out, H1.out.mono fun q hq => ⟨hq, pk_getD lk n HA.out q hq⟩⟩
  · have HA := hid ha
    have hkl : (pk lk k).length = k := by rw [pk_all lk k ha]; simp
    have hk1 : (pk lk (k + 1)).length = k := by rw [pk_none lk k hkm]; exact hkl
    have HK := hid (And.intro hkl hk1)
    have hkn : ¬ ((k : Int) = -1) := by omega
    have HR := hid (show RowL w1 g S (fun q => q < k ∨ (k + 1 ≤ q ∧ q < n)) (fun q => if q < k then (pk lk (k + 1)).getD q Lk.zero else lk q) from
      H1.out.mono fun q hq => by
        refine ⟨by omega, ?_⟩
        split
        · rename_i hq'; rw [pk_none lk k hkm]; exact pk_getD lk k ha q hq'
        · rfl)
    clear ha hkl hk1
    go_wp2
    clear hkn
    go_loopg [5, 6] (n - (k + 1)) (fun gg p q wr => ∃ (i j : Nat), p = .int .i64 i ∧ q = .int .i64 j ∧ j ≤ n ∧ i < j ∧ i = (pk lk j).length ∧ gg = n - j ∧ Fr (One g) w wr ∧
      RowL wr g S (fun q => q < i ∨ (j ≤ q ∧ q < n)) (fun q => if q < i then (pk lk j).getD q Lk.zero else lk q))
    case atStart => exact ⟨k, k + 1, rfl, by go_num, hk, by omega, HK.out.2.symm, rfl, HF.out, HR.out⟩
    case round =>
      clear HR H1 HF HK HA
      obtain ⟨i, j, rfl, rfl, hj, hij, hi, hg, hf, hr⟩ := hrel
      have HI := hid hi
      have HG := hid hg
      have HF := hid hf
      have HR := hid hr
      clear hi hg hf hr
      by_cases hlt : j < n
      · have hlt2 : (j : Int) < n := by omega
        obtain ⟨q0, q1, q2, q3, q4⟩ := HR.out.at j (.inr ⟨Nat.le_refl _, hlt⟩)
        rw [if_neg (by omega)] at q0 q1 q2 q3 q4
        have hgl := HR.out.lt
        obtain ⟨y, hy⟩ : ∃ y, lk j = y := ⟨_, rfl⟩
        rw [hy] at q0 q1 q2 q3 q4
        have HY := hid hy
        clear hy
        cases hm : decide (y.e.m < 0) with
        | true =>
          have hp : pk lk (j + 1) = pk lk j := pk_none lk j (by rw [HY.out]; exact of_decide_eq_true hm)
          have HP := hid hp
          clear hp
          go_wp2_with (go_at_call 78; refine (pred_calls y _).mono ?_; rintro e w2 ⟨rfl, hf2⟩; rw [hm])
          go_roundg (n - (j + 1))
          case measure => have := HG.out; omega
          case rel =>
            have hfw : Fr No wr w2 := ((Fr.refl No _).alloc _).trans hf2
            refine ⟨i, j + 1, rfl, by go_num, hlt, by omega, by rw [HP.out]; exact HI.out, rfl, HF.out.trans (hfw.no), (HR.out.fr hfw (fun h => h)).mono fun q hq => ⟨by omega, by rw [HP.out]⟩⟩
        | false =>
          have hp : pk lk (j + 1) = pk lk j ++ [y] := by
            rw [pk, if_pos (by rw [HY.out]; have := of_decide_eq_false hm; simp [Lk.short]; omega), HY.out]
          have HP := hid hp
          clear hp
          have hi2 : (i : Int) < n := by omega
          go_wp2_with (go_at_call 78; refine (pred_calls y _).mono ?_; rintro e w2 ⟨rfl, hf2⟩; rw [hm]; (have hfw : Fr No wr w2 := ((Fr.refl No _).alloc _).trans hf2); (have HFW := hid hfw); (have HR2 := hid (HR.out.fr hfw (fun h => h))); (obtain ⟨o1, o2, o3, o4⟩ := own_no hf2 wr.heap.size (heap_new _ _)); (obtain ⟨v0, s0⟩ := HR2.out.has (i * 5) (by omega)); (obtain ⟨v1, s1⟩ := HR2.out.has (i * 5 + 1) (by omega)); (obtain ⟨v2, s2⟩ := HR2.out.has (i * 5 + 2) (by omega)); (obtain ⟨v3, s3⟩ := HR2.out.has (i * 5 + 3) (by omega)); (obtain ⟨v4, s4⟩ := HR2.out.has (i * 5 + 4) (by omega)); (have fz := HR2.out.frozen); clear hf2 hfw)
          go_roundg (n - (j + 1))
          case measure => have := HG.out; omega
          case rel =>
            refine ⟨i + 1, j + 1, by go_num, by go_num, hlt, by omega, by rw [HP.out]; simp [HI.out], rfl,
              (((((HF.out.trans HFW.out.no).setCell (p := ⟨g, _, none⟩) (.inl rfl) _).setCell (p := ⟨g, _, none⟩) (.inl rfl) _).setCell (p := ⟨g, _, none⟩) (.inl rfl) _).setCell (p := ⟨g, _, none⟩) (.inl rfl) _).setCell (p := ⟨g, _, none⟩) (.inl rfl) _, ?_⟩
            refine (HR2.out.put i (by omega) y).mono fun q hq => ⟨by omega, ?_⟩
            rw [HP.out]
            by_cases e : q = i
            · subst e
              rw [if_pos (by omega), if_pos rfl, getD_app _ _ _ (by have := HI.out; omega), if_pos (by exact HI.out)]
            · rw [if_neg e]
              by_cases e2 : q < i
              · rw [if_pos (by omega), if_pos e2, getD_app _ _ _ (by have := HI.out; omega), if_neg (by have := HI.out; omega)]
              · rw [if_neg (by omega), if_neg e2]
      · have e : j = n := by omega
        subst e
        have hi2 : (i : Int) < j := by omega
        have hi3 : (i : Int) ≤ c := by omega
        have hclr : (Builtin.clear_ #[23] 0 #[.slice (some ⟨g, i * 5, none⟩) (j - i) (c - i)]).run Tryd.prog wr = .ok (.tuple #[]) (wr.setCells g (i * 5) (Builtin.zeroCells zLk (j - i)).toList) :=
          run_clear_lk wr g (i * 5) (j - i) (c - i) 0 (by omega) (fun q hq => by obtain ⟨v, hv⟩ := HR.out.has (i * 5 + q) (by omega); rw [hv]; rfl) (fun q _ => HR.out.frozen _)
        go_wp2
        go_ret
        rw [← HI.out]
        refine ⟨rfl, HF.out.trans (Fr.setCells (F := One g) (.inl rfl) _ _ _ (Fr.refl _ _)), RowL.setCells _ _ (HR.out.mono fun q hq => ⟨.inl hq, ?_⟩) (fun q hq => by omega)⟩
        rw [if_pos hq]

theorem own_rowL {w : World} {base g c : Nat} {l : List Lk} (h : w.ownsRow base 48 5 (.slice (some ⟨g, 0, none⟩) l.length c) l.length (lkCells l)) :
    RowL w g (c * 5) (· < l.length) (fun q => l.getD q Lk.zero) ∧ base ≤ g ∧ l.length ≤ c ∧ c ≤ maxLen := by
  obtain ⟨_, h' | ⟨g', cap, cur, e, hb, hg, h1, h2, h3, h4⟩⟩ := h
  · cases h'.1
  · simp only [Value.slice.injEq, Option.some.injEq, Addr.mk.injEq, true_and, and_true] at e
    obtain ⟨rfl, rfl⟩ := e
    refine ⟨⟨cur, hg, h3, fun q hq k hk => ?_⟩, hb, h1, h2⟩
    have e := lkCells_at l q hq k hk
    rw [← h4, List.getElem?_take_of_lt (by omega)] at e
    rw [← e]; simp

/-- The links that are shortcuts, by rising rank. -/
def Ix.shorts (x : Ix) : List Lk := pk (fun q => (x.lks x.n).getD q Lk.zero) (x.lks x.n).length

set_option maxRecDepth 100000 in
set_option maxHeartbeats 1000000 in
theorem delfunc_nil (w : World) :
    Calls Tryd.prog 77 #[.slice none 0 0, .func (.func 78) #[] #[]] w fun e w' => e = .returned (.slice none 0 0) ∧ Fr No w w' := by
  go_enter Tryd.func77, Tryd.ntmps77
  go_wp2_with fail
  refine (idxfunc_calls (w := w) (A := none) (n := 0) (c := 0) (lk := fun _ => Lk.zero) (fun h => by omega) (by omega)).mono ?_
  rintro e w1 ⟨r, rfl, hf, hr⟩
  have hr' : r = -1 := by
    rcases hr with ⟨h, _⟩ | ⟨k, hk, _⟩
    · exact h
    · omega
  subst hr'
  clear hr
  go_wp2
  go_ret
  exact ⟨rfl, hf⟩

set_option maxRecDepth 100000 in
set_option maxHeartbeats 1000000 in
theorem shortcuts_calls {x : Ix} {w : World} {L : IxLoc} (h : IxMem w L x) :
    Calls Tryd.prog 38 #[.pointer (some ⟨L.b, 0, none⟩)] w fun e w' => ∃ (A : Option Addr) (c : Nat), e = .returned (.slice A x.shorts.length c) ∧ Fr No w w' ∧
      (0 < x.shorts.length → SlK w' (.slice A x.shorts.length c) x.shorts) := by
  go_enter Tryd.func38, Tryd.ntmps38
  go_wp2_with fail
  refine (links_own h).mono ?_
  rintro e w1 ⟨A, c, rfl, hf, hown, hnil⟩
  have hlen := x.lks_len x.n
  have hn2 := h.ok.n2
  have hnn : x.n * x.n ≤ 24 * 24 := Nat.mul_le_mul hn2 hn2
  obtain ⟨l, hl⟩ : ∃ l, x.lks x.n = l := ⟨_, rfl⟩
  have hsh : x.shorts = pk (fun q => l.getD q Lk.zero) l.length := by rw [Ix.shorts, hl]
  have HSH := hid hsh
  rw [hl] at hown hnil hlen ⊢
  rcases Nat.eq_zero_or_pos l.length with h0 | h0
  · have e := List.eq_nil_of_length_eq_zero h0
    obtain ⟨rfl, rfl⟩ := hnil e
    subst e
    have HF := hid hf
    clear hf hown hnil hl hsh
    go_wp2_with fail
    refine (delfunc_nil w1).mono ?_
    rintro e w2 ⟨rfl, hf2⟩
    go_wp2
    go_ret
    rw [HSH.out]
    exact ⟨none, 0, rfl, HF.out.trans hf2, fun h => by simp [pk] at h⟩
  · obtain ⟨g, cap, e, hb, hl1, hcap, _⟩ := own_lks hown h0
    simp only [Value.slice.injEq] at e
    obtain ⟨rfl, _, rfl⟩ := e
    obtain ⟨hrow, hb', hc1, hc2⟩ := own_rowL hown
    have HF := hid hf
    have HROW := hid hrow
    have hc3 : c ≤ 9223372036854775807 := by unfold maxLen at hc2; omega
    clear hf hown hnil hl hsh hrow hc2
    go_wp2_with fail
    refine (delfunc_calls HROW.out (by omega) hc1 (by omega) hc3 h0).mono ?_
    rintro e w2 ⟨rfl, hf2, hr2⟩
    have HF2 := hid (HF.out.trans' hf2 (fun i hi hg => by have : i = g := hg; omega))
    have HR2 := hid hr2
    clear hf2 hr2
    go_wp2
    go_ret
    rw [HSH.out]
    refine ⟨_, c, rfl, HF2.out, fun hp => .inr ⟨g, 0, c, hp, rfl, fun j hj => ?_⟩⟩
    have := HR2.out.at j hj
    rw [Nat.zero_add]
    exact ⟨this.q0, this.q1, this.q2, this.q3, this.q4⟩

end Go.Proofs.YtlncmnphjdeeoaaDoor
