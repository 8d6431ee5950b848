/- What hangs on a vertex: the shortcuts by way of it; walked. -/
import Derived.Test.YtakgjihhgpnnfaaDoorLnk
import Derived.Test.YtakgjihhgpnnfaaDoorLks
set_option linter.unusedVariables false
set_option linter.unusedSimpArgs false
namespace Go.Proofs.YtakgjihhgpnnfaaDoor
open Go.RowKit Go.Deep

/-- The kept ones among the first j. -/
def pkv (v : Int) (lk : Nat → Lk) : Nat → List Lk
  | 0 => []
  | j + 1 => if (lk j).e.m = v then pkv v lk j ++ [lk j] else pkv v lk j
theorem pkv_all (v : Int) (lk : Nat → Lk) (k : Nat) : (∀ j, j < k → (lk j).e.m = v) → pkv v lk k = (List.range k).map lk := by
  intro h
  induction k with
  | zero => rfl
  | succ k ih =>
    rw [pkv, if_pos (h k (by omega)), ih (fun j hj => h j (by omega)), List.range_succ, List.map_append]; rfl
theorem pkv_none (v : Int) (lk : Nat → Lk) (k : Nat) (h : (lk k).e.m ≠ v) : pkv v lk (k + 1) = pkv v lk k := by
  rw [pkv, if_neg h]
theorem pkv_getD (v : Int) (lk : Nat → Lk) (k : Nat) (h : ∀ j, j < k → (lk j).e.m = v) (q : Nat) (hq : q < k) : (pkv v lk k).getD q Lk.zero = lk q := by
  rw [pkv_all v lk k h]; simp [List.getD, hq]
theorem pkv_filter (v : Int) (l : List Lk) : ∀ k, k ≤ l.length → pkv v (fun q => l.getD q Lk.zero) k = (l.take k).filter (fun y => decide (y.e.m = v))
  | 0, _ => rfl
  | k + 1, h => by
    have ih := pkv_filter v l k (by omega)
    have hk : k < l.length := by omega
    have e : l.getD k Lk.zero = l[k] := by simp [List.getD, hk]
    rw [pkv, ih, List.take_succ_eq_append_getElem hk, List.filter_append, e]
    by_cases hm : l[k].e.m = v
    · rw [if_pos hm]; simp [hm]
    · rw [if_neg hm]; simp [hm]

set_option maxRecDepth 100000 in
set_option maxHeartbeats 1000000 in
theorem hpred_calls (l : Lk) (w : World) (v : Int) (vb : Nat) (hv : w.cell? ⟨vb, 0, none⟩ = some (.int .i64 v)) : Calls Tryd.prog 51 #[.agg #[.int .i64 l.t, .int .i64 l.h, .int .i64 l.e.w, .int .i64 l.e.a, .int .i64 l.e.m], .pointer (some ⟨vb, 0, none⟩)] w fun e w' => e = .returned (.bool (decide (l.e.m ≠ v))) ∧ Fr No w w' := by
  obtain ⟨t, u, ⟨a, b, c⟩⟩ := l
  simp only
  have hl := cell_lt hv
  have hd : (c != v) = decide (c ≠ v) := by rw [Bool.eq_iff_iff]; simp
  go_enter Tryd.func51, Tryd.ntmps51
  go_wp2
  go_ret
  exact ⟨ret_bool (by first | exact hd | simp), (Fr.refl _ _).alloc _⟩

set_option maxRecDepth 100000 in
set_option maxHeartbeats 2000000 in
theorem hidx_calls {w : World} {A : Option Addr} {n c : Nat} {lk : Nat → Lk} (h : LinksF w A n lk) (hn : n ≤ 1000000) (v : Int) (vb : Nat) (hv : w.cell? ⟨vb, 0, none⟩ = some (.int .i64 v)) :
    Calls Tryd.prog 77 #[.slice A n c, .func (.func 51) #[] #[.pointer (some ⟨vb, 0, none⟩)]] w fun e w' => ∃ r : Int, e = .returned (.int .i64 r) ∧ Fr No w w' ∧
      ((r = -1 ∧ ∀ j, j < n → (lk j).e.m = v) ∨ (∃ k : Nat, k < n ∧ r = k ∧ (lk k).e.m ≠ v ∧ ∀ j, j < k → (lk j).e.m = v)) := by
  have H := hid h
  have HV := hid hv
  clear h hv
  go_enter Tryd.func77, Tryd.ntmps77
  go_wp2
  go_loopg [8] n (fun g p wr => ∃ i : Nat, p = .int .i64 i ∧ i ≤ n ∧ g = n - i ∧ Fr No w wr ∧ ∀ j, j < i → (lk j).e.m = v)
  case atStart => exact ⟨0, rfl, Nat.zero_le _, rfl, Fr.refl _ _, fun j hj => by omega⟩
  case round =>
    obtain ⟨i, rfl, hi, hg, hf, ha⟩ := hrel
    have HG := hid hg
    have HF := hid hf
    have HA := hid ha
    clear hg hf ha
    by_cases hlt : i < n
    · obtain ⟨b, off, rfl, hc⟩ := H.out (by omega)
      obtain ⟨q0, q1, q2, q3, q4⟩ := ((hc i hlt).fr HF.out (fun h => h)).c
      have HC := hid hc
      clear hc
      have hlt2 : (i : Int) < n := by omega
      obtain ⟨y, hy⟩ : ∃ y, lk i = y := ⟨_, rfl⟩
      rw [hy] at q0 q1 q2 q3 q4
      have HY := hid hy
      clear hy
      cases hm : decide (y.e.m ≠ v) with
      | true =>
        go_wp2_with (go_at_call 51; refine (hpred_calls y _ v vb (HF.out.cell_some HV.out (fun h => h))).mono ?_; rintro e w1 ⟨rfl, hf1⟩; rw [hm])
        go_ret
        exact ⟨_, rfl, HF.out.trans hf1, .inr ⟨i, hlt, rfl, by rw [HY.out]; exact of_decide_eq_true hm, HA.out⟩⟩
      | false =>
        go_wp2_with (go_at_call 51; refine (hpred_calls y _ v vb (HF.out.cell_some HV.out (fun h => h))).mono ?_; rintro e w1 ⟨rfl, hf1⟩; rw [hm])
        go_roundg (n - (i + 1))
        case measure => have := HG.out; omega
        case rel =>
          refine ⟨i + 1, by go_num, hlt, rfl, HF.out.trans hf1, fun j hj => ?_⟩
          rcases Nat.lt_or_ge j i with h1 | h1
          · exact HA.out j h1
          · obtain rfl : j = i := by omega
            rw [HY.out]
            have := of_decide_eq_false hm
            omega
    · have e : i = n := by omega
      subst e
      go_wp2
      go_ret
      exact ⟨_, rfl, HF.out, .inl ⟨rfl, HA.out⟩⟩

set_option maxRecDepth 100000 in
set_option maxHeartbeats 4000000 in
theorem hdel_calls {w : World} {g n c S : Nat} {lk : Nat → Lk} (h : RowL w g S (· < n) lk) (hS : n * 5 ≤ S) (hnc : n ≤ c) (hn : n ≤ 1000000) (hc : c ≤ 9223372036854775807) (h0 : 0 < n) (v : Int) (vb : Nat) (hv : w.cell? ⟨vb, 0, none⟩ = some (.int .i64 v)) (hvg : vb ≠ g) :
    Calls Tryd.prog 45 #[.slice (some ⟨g, 0, none⟩) n c, .func (.func 51) #[] #[.pointer (some ⟨vb, 0, none⟩)]] w fun e w' => e = .returned (.slice (some ⟨g, 0, none⟩) (pkv v lk n).length c) ∧ Fr (One g) w w' ∧
      RowL w' g S (· < (pkv v lk n).length) (fun q => (pkv v lk n).getD q Lk.zero) := by
  have H := hid h
  have HV := hid hv
  clear h hv
  have hl : LinksF w (some ⟨g, 0, none⟩) n lk := fun _ => ⟨g, 0, rfl, fun j hj => by
    rw [Nat.zero_add]
    have := H.out.at j hj
    exact ⟨this.q0, this.q1, this.q2, this.q3, this.q4⟩⟩
  go_enter Tryd.func45, Tryd.ntmps45
  go_wp2_with fail
  refine (hidx_calls hl hn v vb HV.out).mono ?_
  clear hl
  rintro e w1 ⟨r, rfl, hf, hr⟩
  have H1 := hid (H.out.fr hf (fun h => h))
  have HF := hid (hf.no (F := One g))
  clear hf
  rcases hr with ⟨rfl, ha⟩ | ⟨k, hk, rfl, hkm, ha⟩
  · have HA := hid ha
    clear ha
    go_wp2
    go_ret
    have e : pkv v lk n = (List.range n).map lk := pkv_all v lk n HA.out
    have e2 : (pkv v lk n).length = n := by rw [e]; simp
    rw [e2]
    exact ⟨rfl, HF.out, H1.out.mono fun q hq => ⟨hq, pkv_getD v lk n HA.out q hq⟩⟩
  · have HA := hid ha
    have hkl : (pkv v lk k).length = k := by rw [pkv_all v lk k ha]; simp
    have hk1 : (pkv v lk (k + 1)).length = k := by rw [pkv_none v lk k hkm]; exact hkl
    have HK := hid (And.intro hkl hk1)
    have hkn : ¬ ((k : Int) = -1) := by omega
    have HR := hid (show RowL w1 g S (fun q => q < k ∨ (k + 1 ≤ q ∧ q < n)) (fun q => if q < k then (pkv v lk (k + 1)).getD q Lk.zero else lk q) from
      H1.out.mono fun q hq => by
        refine ⟨by omega, ?_⟩
        split
        · rename_i hq'; rw [pkv_none v lk k hkm]; exact pkv_getD v lk k ha q hq'
        · rfl)
    clear ha hkl hk1
    go_wp2
    clear hkn
    go_loopg [5, 6] (n - (k + 1)) (fun gg p q wr => ∃ (i j : Nat), p = .int .i64 i ∧ q = .int .i64 j ∧ j ≤ n ∧ i < j ∧ i = (pkv v lk j).length ∧ gg = n - j ∧ Fr (One g) w wr ∧
      RowL wr g S (fun q => q < i ∨ (j ≤ q ∧ q < n)) (fun q => if q < i then (pkv v lk j).getD q Lk.zero else lk q))
    case atStart => exact ⟨k, k + 1, rfl, by go_num, hk, by omega, HK.out.2.symm, rfl, HF.out, HR.out⟩
    case round =>
      clear HR H1 HF HK HA
      obtain ⟨i, j, rfl, rfl, hj, hij, hi, hg, hf, hr⟩ := hrel
      have HI := hid hi
      have HG := hid hg
      have HF := hid hf
      have HR := hid hr
      clear hi hg hf hr
      by_cases hlt : j < n
      · have hlt2 : (j : Int) < n := by omega
        obtain ⟨q0, q1, q2, q3, q4⟩ := HR.out.at j (.inr ⟨Nat.le_refl _, hlt⟩)
        rw [if_neg (by omega)] at q0 q1 q2 q3 q4
        have hgl := HR.out.lt
        obtain ⟨y, hy⟩ : ∃ y, lk j = y := ⟨_, rfl⟩
        rw [hy] at q0 q1 q2 q3 q4
        have HY := hid hy
        clear hy
        cases hm : decide (y.e.m ≠ v) with
        | true =>
          have hp : pkv v lk (j + 1) = pkv v lk j := pkv_none v lk j (by rw [HY.out]; exact of_decide_eq_true hm)
          have HP := hid hp
          clear hp
          go_wp2_with (go_at_call 51; refine (hpred_calls y _ v vb ((HF.out.alloc _).cell_some HV.out hvg)).mono ?_; rintro e w2 ⟨rfl, hf2⟩; rw [hm])
          go_roundg (n - (j + 1))
          case measure => have := HG.out; omega
          case rel =>
            have hfw : Fr No wr w2 := ((Fr.refl No _).alloc _).trans hf2
            refine ⟨i, j + 1, rfl, by go_num, hlt, by omega, by rw [HP.out]; exact HI.out, rfl, HF.out.trans (hfw.no), (HR.out.fr hfw (fun h => h)).mono fun q hq => ⟨by omega, by rw [HP.out]⟩⟩
        | false =>
          have hp : pkv v lk (j + 1) = pkv v lk j ++ [y] := by
            rw [pkv, if_pos (by rw [HY.out]; have := of_decide_eq_false hm; omega), HY.out]
          have HP := hid hp
          clear hp
          have hi2 : (i : Int) < n := by omega
          go_wp2_with (go_at_call 51; refine (hpred_calls y _ v vb ((HF.out.alloc _).cell_some HV.out hvg)).mono ?_; rintro e w2 ⟨rfl, hf2⟩; rw [hm]; (have hfw : Fr No wr w2 := ((Fr.refl No _).alloc _).trans hf2); (have HFW := hid hfw); (have HR2 := hid (HR.out.fr hfw (fun h => h))); (obtain ⟨o1, o2, o3, o4⟩ := own_no hf2 wr.heap.size (heap_new _ _)); (obtain ⟨v0, s0⟩ := HR2.out.has (i * 5) (by omega)); (obtain ⟨v1, s1⟩ := HR2.out.has (i * 5 + 1) (by omega)); (obtain ⟨v2, s2⟩ := HR2.out.has (i * 5 + 2) (by omega)); (obtain ⟨v3, s3⟩ := HR2.out.has (i * 5 + 3) (by omega)); (obtain ⟨v4, s4⟩ := HR2.out.has (i * 5 + 4) (by omega)); (have fz := HR2.out.frozen); clear hf2 hfw)
          go_roundg (n - (j + 1))
          case measure => have := HG.out; omega
          case rel =>
            refine ⟨i + 1, j + 1, by go_num, by go_num, hlt, by omega, by rw [HP.out]; simp [HI.out], rfl,
              (((((HF.out.trans HFW.out.no).setCell (p := ⟨g, _, none⟩) (.inl rfl) _).setCell (p := ⟨g, _, none⟩) (.inl rfl) _).setCell (p := ⟨g, _, none⟩) (.inl rfl) _).setCell (p := ⟨g, _, none⟩) (.inl rfl) _).setCell (p := ⟨g, _, none⟩) (.inl rfl) _, ?_⟩
            refine (HR2.out.put i (by omega) y).mono fun q hq => ⟨by omega, ?_⟩
            rw [HP.out]
            by_cases e : q = i
            · subst e
              rw [if_pos (by omega), if_pos rfl, getD_app _ _ _ (by have := HI.out; omega), if_pos (by exact HI.out)]
            · rw [if_neg e]
              by_cases e2 : q < i
              · rw [if_pos (by omega), if_pos e2, getD_app _ _ _ (by have := HI.out; omega), if_neg (by have := HI.out; omega)]
              · rw [if_neg (by omega), if_neg e2]
      · have e : j = n := by omega
        subst e
        have hi2 : (i : Int) < j := by omega
        have hi3 : (i : Int) ≤ c := by omega
        have hclr : (Builtin.clear_ #[51] 0 #[.slice (some ⟨g, i * 5, none⟩) (j - i) (c - i)]).run Tryd.prog wr = .ok (.tuple #[]) (wr.setCells g (i * 5) (Builtin.zeroCells zLk (j - i)).toList) :=
          run_clear_lk wr g (i * 5) (j - i) (c - i) 0 (by omega) (fun q hq => by obtain ⟨v, hv⟩ := HR.out.has (i * 5 + q) (by omega); rw [hv]; rfl) (fun q _ => HR.out.frozen _)
        go_wp2
        go_ret
        rw [← HI.out]
        refine ⟨rfl, HF.out.trans (Fr.setCells (F := One g) (.inl rfl) _ _ _ (Fr.refl _ _)), RowL.setCells _ _ (HR.out.mono fun q hq => ⟨.inl hq, ?_⟩) (fun q hq => by omega)⟩
        rw [if_pos hq]

set_option maxRecDepth 100000 in
set_option maxHeartbeats 1000000 in
theorem hdel_nil (w : World) (A : Option Addr) (c : Nat) (v : Int) (vb : Nat) (hv : w.cell? ⟨vb, 0, none⟩ = some (.int .i64 v)) :
    Calls Tryd.prog 45 #[.slice A 0 c, .func (.func 51) #[] #[.pointer (some ⟨vb, 0, none⟩)]] w fun e w' => e = .returned (.slice A 0 c) ∧ Fr No w w' := by
  go_enter Tryd.func45, Tryd.ntmps45
  go_wp2_with fail
  refine (hidx_calls (w := w) (A := A) (n := 0) (c := c) (lk := fun _ => Lk.zero) (fun h => by omega) (by omega) v vb hv).mono ?_
  rintro e w1 ⟨r, rfl, hf, hr⟩
  have hr' : r = -1 := by
    rcases hr with ⟨h, _⟩ | ⟨k, hk, _⟩
    · exact h
    · omega
  subst hr'
  clear hr
  go_wp2
  go_ret
  exact ⟨rfl, hf⟩

/-- What hangs on a vertex. -/
def Ix.hang (x : Ix) (v : Int) : List Lk := x.shorts.filter (fun y => decide (y.e.m = v))


set_option maxRecDepth 100000 in
set_option maxHeartbeats 1000000 in
theorem shortcuts_own {x : Ix} {w : World} {L : IxLoc} (h : IxMem w L x) :
    Calls Tryd.prog 17 #[.pointer (some ⟨L.b, 0, none⟩)] w fun e w' => ∃ (A : Option Addr) (c : Nat), e = .returned (.slice A x.shorts.length c) ∧ Fr No w w' ∧
      (x.shorts = [] ∨ ∃ g, A = some ⟨g, 0, none⟩ ∧ w.heap.size ≤ g ∧ RowL w' g (c * 5) (· < x.shorts.length) (fun q => x.shorts.getD q Lk.zero) ∧ x.shorts.length ≤ c ∧ c ≤ 9223372036854775807) := by
  go_enter Tryd.func17, Tryd.ntmps17
  go_wp2_with fail
  refine (links_own h).mono ?_
  rintro e w1 ⟨A, c, rfl, hf, hown, hnil⟩
  have hlen := x.lks_len x.n
  have hn2 := h.ok.n2
  have hnn : x.n * x.n ≤ 24 * 24 := Nat.mul_le_mul hn2 hn2
  obtain ⟨l, hl⟩ : ∃ l, x.lks x.n = l := ⟨_, rfl⟩
  have hsh : x.shorts = pk (fun q => l.getD q Lk.zero) l.length := by rw [Ix.shorts, hl]
  have HSH := hid hsh
  rw [hl] at hown hnil hlen ⊢
  rcases Nat.eq_zero_or_pos l.length with h0 | h0
  · have e := List.eq_nil_of_length_eq_zero h0
    obtain ⟨rfl, rfl⟩ := hnil e
    subst e
    have HF := hid hf
    clear hf hown hnil hl hsh
    go_wp2_with fail
    refine (delfunc_nil w1).mono ?_
    rintro e w2 ⟨rfl, hf2⟩
    go_wp2
    go_ret
    rw [HSH.out]
    exact ⟨none, 0, rfl, HF.out.trans hf2, .inl rfl⟩
  · obtain ⟨g, cap, e, hb, hl1, hcap, _⟩ := own_lks hown h0
    simp only [Value.slice.injEq] at e
    obtain ⟨rfl, _, rfl⟩ := e
    obtain ⟨hrow, hb', hc1, hc2⟩ := own_rowL hown
    have HF := hid hf
    have HROW := hid hrow
    have hc3 : c ≤ 9223372036854775807 := by unfold maxLen at hc2; omega
    clear hf hown hnil hl hsh hrow hc2
    go_wp2_with fail
    refine (delfunc_calls HROW.out (by omega) hc1 (by omega) hc3 h0).mono ?_
    rintro e w2 ⟨rfl, hf2, hr2⟩
    have HF2 := hid (HF.out.trans' hf2 (fun i hi hg => by have : i = g := hg; omega))
    have HR2 := hid hr2
    clear hf2 hr2
    go_wp2
    go_ret
    rw [HSH.out]
    have hpl := pk_len (fun q => l.getD q Lk.zero) l.length
    exact ⟨_, c, rfl, HF2.out, .inr ⟨g, rfl, hb, HR2.out, by omega, hc3⟩⟩

set_option maxRecDepth 100000 in
set_option maxHeartbeats 1000000 in
theorem hang_calls {x : Ix} {w : World} {L : IxLoc} (h : IxMem w L x) (v : Int) :
    Calls Tryd.prog 22 #[.pointer (some ⟨L.b, 0, none⟩), .int .i64 v] w fun e w' => ∃ (A : Option Addr) (c : Nat), e = .returned (.slice A (x.hang v).length c) ∧ Fr No w w' ∧
      (0 < (x.hang v).length → SlK w' (.slice A (x.hang v).length c) (x.hang v)) ∧ (0 < (x.hang v).length → ∃ g, A = some ⟨g, 0, none⟩ ∧ w.heap.size ≤ g) := by
  have fa : Fr No w (w.alloc (.cells #[.int .i64 v] 3)) := (Fr.refl No w).alloc _
  have h1 := h.no fa
  have hv : (w.alloc (.cells #[.int .i64 v] 3)).cell? ⟨w.heap.size, 0, none⟩ = some (.int .i64 v) := cell_of (heap_new w _) 0
  have hsz : (w.alloc (.cells #[.int .i64 v] 3)).heap.size = w.heap.size + 1 := by simp
  have hlen : x.shorts.length ≤ 576 := by
    unfold Ix.shorts
    have := pk_len (fun q => (x.lks x.n).getD q Lk.zero) (x.lks x.n).length
    have h2 := x.lks_len x.n
    have hn2 := h.ok.n2
    have hnn : x.n * x.n ≤ 24 * 24 := Nat.mul_le_mul hn2 hn2
    omega
  have hhang : x.hang v = pkv v (fun q => x.shorts.getD q Lk.zero) x.shorts.length := by
    rw [pkv_filter v _ _ (Nat.le_refl _), List.take_length]; rfl
  have hown := shortcuts_own h1
  rw [hhang]
  obtain ⟨sh, hsh⟩ : ∃ sh, x.shorts = sh := ⟨_, rfl⟩
  rw [hsh] at hlen hown ⊢
  have FA := hid fa
  have HOWN := hid hown
  have HV := hid hv
  clear hsh hown h h1 hhang fa hv
  go_enter Tryd.func22, Tryd.ntmps22
  go_wp2_with fail
  refine HOWN.out.mono ?_
  rintro e w1 ⟨A, c, rfl, hf, hr⟩
  have HF := hid (FA.out.trans hf)
  have HV1 := hid (hf.cell_some HV.out (fun h => h))
  clear hf
  rcases hr with rfl | ⟨g, rfl, hb, hr, hc1, hc2⟩
  · go_wp2_with fail
    refine (hdel_nil w1 A c v w.heap.size HV1.out).mono ?_
    rintro e w2 ⟨rfl, hf2⟩
    go_wp2
    go_ret
    exact ⟨A, c, rfl, HF.out.trans hf2, fun h => by simp [pkv] at h, fun h => by simp [pkv] at h⟩
  · have HR := hid hr
    clear hr
    rcases Nat.eq_zero_or_pos sh.length with h0 | h0
    · have e := List.eq_nil_of_length_eq_zero h0
      subst e
      go_wp2_with fail
      refine (hdel_nil w1 _ c v w.heap.size HV1.out).mono ?_
      rintro e w2 ⟨rfl, hf2⟩
      go_wp2
      go_ret
      exact ⟨_, c, rfl, HF.out.trans hf2, fun h => by simp [pkv] at h, fun h => by simp [pkv] at h⟩
    · go_wp2_with fail
      refine (hdel_calls HR.out (by omega) hc1 (by omega) hc2 h0 v w.heap.size HV1.out (by omega)).mono ?_
      rintro e w2 ⟨rfl, hf2, hr2⟩
      have HF2 := hid (HF.out.trans' hf2 (fun i hi hg => by have : i = g := hg; omega))
      have HR2 := hid hr2
      clear hf2 hr2
      go_wp2
      go_ret
      refine ⟨_, c, rfl, HF2.out, fun hp => .inr ⟨g, 0, c, hp, rfl, fun j hj => ?_⟩, fun _ => ⟨g, rfl, by omega⟩⟩
      have := HR2.out.at j hj
      rw [Nat.zero_add]
      exact ⟨this.q0, this.q1, this.q2, this.q3, this.q4⟩


end Go.Proofs.YtakgjihhgpnnfaaDoor

/- What hangs on a vertex: the document's; walked. -/
set_option linter.unusedVariables false
set_option linter.unusedSimpArgs false
namespace Go.Proofs.YtakgjihhgpnnfaaDoor
open Go.RowKit Go.Deep

end Go.Proofs.YtakgjihhgpnnfaaDoor
