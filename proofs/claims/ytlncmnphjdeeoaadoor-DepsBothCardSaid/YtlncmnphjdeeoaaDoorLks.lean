/- The document's 'Links', both ways; and whether two lists of links are the same; walked. -/
import Derived.Test.YtlncmnphjdeeoaaDoorFam
import Derived.Test.YtlncmnphjdeeoaaDoorLnk
import Derived.Test.YtlncmnphjdeeoaaDoorUps
set_option linter.unusedVariables false
set_option linter.unusedSimpArgs false
namespace Go.Proofs.YtlncmnphjdeeoaaDoor
open Go.RowKit Go.Deep
attribute [local go_sem high] run_eql_en run_neq_en

/-- Is a link one that is asked for? -/
def Lk.want (s : Bool) (k : Lk) : Bool := !s || decide (0 ≤ k.e.m)
theorem want_all (l : List Lk) : l.filter (Lk.want false) = l := by
  rw [List.filter_eq_self]; intro k _; rfl
theorem pk_filter (l : List Lk) : ∀ k, k ≤ l.length → pk (fun q => l.getD q Lk.zero) k = (l.take k).filter (Lk.want true)
  | 0, _ => by simp [pk]
  | k + 1, hk => by
    have ih := pk_filter l k (by omega)
    have hg : l[k]? = some (l.getD k Lk.zero) := by rw [List.getD_eq_getElem?_getD, List.getElem?_eq_getElem (by omega)]; rfl
    unfold pk
    rw [ih, List.take_add_one, hg, Option.toList_some, List.filter_append]
    obtain ⟨y, hy⟩ : ∃ y, l.getD k Lk.zero = y := ⟨_, rfl⟩
    rw [hy]
    by_cases h : 0 ≤ y.e.m
    · simp [Lk.short, Lk.want, List.filter, h]
    · simp [Lk.short, Lk.want, List.filter, h]
theorem Ix.shorts_filter (x : Ix) : x.shorts = (x.lks x.n).filter (Lk.want true) := by
  unfold Ix.shorts
  rw [pk_filter _ _ (Nat.le_refl _), List.take_length]

set_option maxRecDepth 100000 in
set_option maxHeartbeats 2000000 in
theorem lks_same {w : World} {A B : Option Addr} {c d : Nat} {l : List Lk} (hl : l.length ≤ 1000) (ha : 0 < l.length → SlK w (.slice A l.length c) l) (hb : 0 < l.length → SlK w (.slice B l.length d) l) :
    Calls Tryd.prog 36 #[.slice A l.length c, .slice B l.length d] w fun e w' => e = .returned (.bool true) ∧ Fr No w w' := by
  have HA := hid ha
  have HB := hid hb
  clear ha hb
  go_enter Tryd.func36, Tryd.ntmps36
  go_wp2
  go_loopg [5] l.length (fun g p wr => ∃ j : Nat, p = .int .i64 j ∧ j ≤ l.length ∧ g = l.length - j ∧ Fr No w wr)
  case atStart => exact ⟨0, rfl, Nat.zero_le _, rfl, Fr.refl _ _⟩
  case round =>
    obtain ⟨j, rfl, hj, hg, hf⟩ := hrel
    have HG := hid hg
    have HF := hid hf
    clear hg hf
    by_cases hlt : j < l.length
    · have hlt2 : (j : Int) < l.length := by omega
      rcases (HA.out (by omega)).fr HF.out with ⟨h0, _⟩ | ⟨b1, o1, c1, _, e1, hc1⟩
      · subst h0; simp at hlt
      · rcases (HB.out (by omega)).fr HF.out with ⟨h0, _⟩ | ⟨b2, o2, c2, _, e2, hc2⟩
        · subst h0; simp at hlt
        · simp only [Value.slice.injEq] at e1 e2
          obtain ⟨rfl, _, rfl⟩ := e1
          obtain ⟨rfl, _, rfl⟩ := e2
          obtain ⟨p0, p1, p2, p3, p4⟩ := hc1 j hlt
          obtain ⟨q0, q1, q2, q3, q4⟩ := hc2 j hlt
          obtain ⟨⟨lt, lh, ⟨e0, e1, e2⟩⟩, hlk⟩ : ∃ y, l.getD j Lk.zero = y := ⟨_, rfl⟩
          rw [hlk] at p0 p1 p2 p3 p4 q0 q1 q2 q3 q4
          simp only at p0 p1 p2 p3 p4 q0 q1 q2 q3 q4
          clear hc1 hc2 hlk
          go_wp2_with fail
          go_quiet (fail)
          go_wp2
          go_roundg (l.length - (j + 1))
          case measure => have := HG.out; omega
          case rel => exact ⟨j + 1, by go_num, hlt, rfl, HF.out.drewN _⟩
    · have e : j = l.length := by omega
      subst e
      go_wp2
      go_ret
      exact ⟨rfl, HF.out⟩

end Go.Proofs.YtlncmnphjdeeoaaDoor

/- The document's 'Links': by rising rank, all or the shortcuts alone; walked. -/
set_option linter.unusedVariables false
set_option linter.unusedSimpArgs false
namespace Go.Proofs.YtlncmnphjdeeoaaDoor
open Go.RowKit Go.Deep
attribute [local go_sem high] run_eql_en run_neq_en

set_option maxRecDepth 100000 in
set_option maxHeartbeats 4000000 in
theorem rlinks_calls {x : Ix} {w : World} {R : RxLoc} (h : RxMem w R x) (s : Bool) :
    Calls Tryd.prog 37 #[.pointer (some ⟨R.b, 0, none⟩), .bool s] w fun e w' => ∃ (A : Option Addr) (c : Nat), e = .returned (.slice A ((x.lks x.n).filter (Lk.want s)).length c) ∧ Fr No w w' ∧ SlK w' (.slice A ((x.lks x.n).filter (Lk.want s)).length c) ((x.lks x.n).filter (Lk.want s)) := by
  have hn1 := h.ok.n1
  have hn2 := h.ok.n2
  have H := hid h
  clear h
  go_enter Tryd.func37, Tryd.ntmps37
  go_wp2
  go_loopg [5, 6] x.n (fun g p q wr => ∃ (i : Nat) (l : List Lk) (A : Option Addr) (c : Nat), q = .int .i64 i ∧ i ≤ x.n ∧ p = .slice A l.length c ∧ wr.ownsRow w.heap.size 48 5 (.slice A l.length c) l.length (lkCells l) ∧ (l = [] → A = none ∧ c = 0) ∧
      l = (x.lks i).filter (Lk.want s) ∧ g = x.n - i ∧ Fr No w wr)
  case atStart => exact ⟨0, [], none, 0, rfl, Nat.zero_le _, rfl, World.ownsRow_nil _ _ _ _, fun _ => ⟨rfl, rfl⟩, rfl, rfl, Fr.refl _ _⟩
  case round =>
    obtain ⟨i, l, A, c, rfl, hi, rfl, hown, hnil, hl, hg, hf⟩ := hrel
    have HO := hid hown
    have HNIL := hid hnil
    have HL := hid hl
    have HG := hid hg
    have HF := hid hf
    have c0 := (H.out.no hf).c0
    clear hown hnil hl hg hf
    have HGO := HG
    by_cases hlt : i < x.n
    · have hi2 : (i : Int) < x.n := by omega
      have hbi : x.byr (i : Nat) = (x.by_ i : Nat) := by unfold Ix.byr; rw [if_pos ⟨by omega, by omega⟩]; simp
      have HBI := hid hbi
      clear hbi
      go_wp2
      clear c0
      go_loopg [5, 7] x.n (fun g p q wr => ∃ (j : Nat) (l : List Lk) (A : Option Addr) (c : Nat), q = .int .i64 j ∧ j ≤ x.n ∧ p = .slice A l.length c ∧ wr.ownsRow w.heap.size 48 5 (.slice A l.length c) l.length (lkCells l) ∧ (l = [] → A = none ∧ c = 0) ∧
          l = (x.lks i ++ x.lkRow i j).filter (Lk.want s) ∧ g = x.n - j ∧ Fr No w wr)
      case atStart => exact ⟨0, l, A, c, rfl, Nat.zero_le _, rfl, HO.out, HNIL.out, by rw [HL.out]; simp [Ix.lkRow], rfl, HF.out⟩
      case round =>
        clear HO HNIL HL HG HF
        obtain ⟨j, l, A, c, rfl, hj, rfl, hown, hnil, hl, hg, hf⟩ := hrel
        have hlen : l.length ≤ 2000 := by
          rw [hl]
          have h1 := List.length_filter_le (Lk.want s) (x.lks i ++ x.lkRow i j)
          rw [List.length_append] at h1
          have := x.lks_len i
          have := x.lkRow_len i j
          have : i * x.n ≤ 24 * 24 := Nat.mul_le_mul (by omega) (by omega)
          omega
        have HO := hid hown
        have HNIL := hid hnil
        have HL := hid hl
        have HG := hid hg
        have HF := hid hf
        have c0 := (H.out.no hf).c0
        clear hown hnil hl hg hf
        by_cases hlt2 : j < x.n
        · have hj2 : (j : Int) < x.n := by omega
          have hbj : x.byr (j : Nat) = (x.by_ j : Nat) := by unfold Ix.byr; rw [if_pos ⟨by omega, by omega⟩]; simp
          have HBJ := hid hbj
          clear hbj
          go_wp2_with fail
          clear c0
          refine (rby_calls (H.out.no HF.out) (i : Nat)).mono ?_
          rintro e w1 ⟨rfl, hf1⟩
          rw [HBI.out]
          have HF1 := hid (HF.out.trans hf1)
          have HO1 := hid (own_fr HO.out hf1 (fun _ _ h => h))
          clear hf1
          go_wp2_with fail
          refine (rby_calls (H.out.no HF1.out) (j : Nat)).mono ?_
          rintro e w2 ⟨rfl, hf2⟩
          rw [HBJ.out]
          have HF2 := hid (HF1.out.trans hf2)
          have HO2 := hid (own_fr HO1.out hf2 (fun _ _ h => h))
          clear hf2 HO1
          go_wp2_with fail
          refine (rat_calls (H.out.no HF2.out) (x.by_ i : Nat) (x.by_ j : Nat)).mono ?_
          rintro e w3 ⟨rfl, hf3⟩
          obtain ⟨en, hen⟩ : ∃ en, x.at_ (x.by_ i : Nat) (x.by_ j : Nat) = en := ⟨_, rfl⟩
          rw [hen]
          obtain ⟨e0, e1, e2⟩ := en
          have HEN := hid hen
          have O3 := heap_new w3 (Obj.cells #[.int .i64 e0, .int .i64 e1, .int .i64 e2] 41)
          have fa := (Fr.refl No w3).alloc (Obj.cells #[.int .i64 e0, .int .i64 e1, .int .i64 e2] 41)
          obtain ⟨W3, hW3⟩ : ∃ W3, w3.alloc (Obj.cells #[.int .i64 e0, .int .i64 e1, .int .i64 e2] 41) = W3 := ⟨_, rfl⟩
          have HF3 := hid (HF2.out.trans (hf3.trans fa))
          have HO3 := hid (own_fr HO2.out (hf3.trans fa) (fun _ _ h => h))
          have q3 := cell_of O3
          have hz3 : w3.heap.size < (w3.alloc (Obj.cells #[.int .i64 e0, .int .i64 e1, .int .i64 e2] 41)).heap.size := by simp
          rw [hW3] at HF3 HO3 q3 hz3 O3
          have kk0 : ∀ n : Fam W3, n.v.cell? ⟨w3.heap.size, 0, none⟩ = some (.int .i64 e0) := Fam.cell (q3 0)
          have kk1 : ∀ n : Fam W3, n.v.cell? ⟨w3.heap.size, 1, none⟩ = some (.int .i64 e1) := Fam.cell (q3 1)
          have kk2 : ∀ n : Fam W3, n.v.cell? ⟨w3.heap.size, 2, none⟩ = some (.int .i64 e2) := Fam.cell (q3 2)
          clear hen hf3 HO2 fa q3
          simp only [En.val]
          have hstep : (x.lks i ++ x.lkRow i (j + 1)).filter (Lk.want s) = if x.at_ (x.by_ i : Nat) (x.by_ j : Nat) = En.none then l else if Lk.want s ⟨(x.by_ i : Nat), (x.by_ j : Nat), ⟨e0, e1, e2⟩⟩ then l ++ [⟨(x.by_ i : Nat), (x.by_ j : Nat), ⟨e0, e1, e2⟩⟩] else l := by
            rw [Ix.lkRow]
            split
            · exact HL.out.symm
            · rw [← List.append_assoc, List.filter_append, ← HL.out, HEN.out]
              split
              · rename_i h; simp [h]
              · rename_i h; simp [h]
          have HST := hid hstep
          have hE2 := eq3_en ⟨e0, e1, e2⟩ En.none
          have hE3 : eq3 e0 e1 e2 4611686018427387906 (-1) (-1) = decide (x.at_ (x.by_ i : Nat) (x.by_ j : Nat) = En.none) := by rw [HEN.out]; exact hE2
          have HE := hid hE3
          clear hstep hE2 hE3
          cases hE : eq3 e0 e1 e2 4611686018427387906 (-1) (-1) with
          | true =>
            have HX := hid (of_decide_eq_true (hE ▸ HE.out).symm)
            go_wp2_with fail
            try rw [hW3]
            refine wp_region_fam (by kernel_rfl) (by kernel_rfl) ?_
            repeat (go_big_quiet_step (exact Calls.fam (rnone_agg _)))
            refine wpQuiet_nil ?_
            rintro w4 ⟨⟨w4, hf4⟩, rfl⟩
            clear kk0 kk1 kk2
            go_wp2
            go_roundg (x.n - (j + 1))
            case measure => have := HG.out; omega
            case rel => exact ⟨j + 1, l, A, c, by go_num, by omega, rfl, own_fr HO3.out hf4 (fun _ _ h => h), HNIL.out, by rw [HST.out, if_pos HX.out], rfl, HF3.out.trans hf4⟩
          | false =>
            have HX := hid (of_decide_eq_false (hE ▸ HE.out).symm)
            cases hw : Lk.want s ⟨(x.by_ i : Nat), (x.by_ j : Nat), ⟨e0, e1, e2⟩⟩ with
            | false =>
              have hs : s = true ∧ e2 < 0 := by
                unfold Lk.want at hw
                cases s with
                | false => simp at hw
                | true => exact ⟨rfl, by simpa using hw⟩
              obtain ⟨rfl, he2⟩ := hs
              have hn1' : (0 ≤ e2) = False := by simp; omega
              have HW := hid hw
              clear hw
              go_wp2_with fail
              try rw [hW3]
              refine wp_region_fam (by kernel_rfl) (by kernel_rfl) ?_
              repeat (go_big_quiet_step (exact Calls.fam (rnone_agg _)))
              refine wpQuiet_nil ?_
              rintro w4 ⟨⟨w4, hf4⟩, rfl⟩
              clear kk0 kk1 kk2
              go_wp2
              go_roundg (x.n - (j + 1))
              case measure => have := HG.out; omega
              case rel => exact ⟨j + 1, l, A, c, by go_num, by omega, rfl, own_fr HO3.out hf4 (fun _ _ h => h), HNIL.out, by rw [HST.out, if_neg HX.out, HW.out]; simp, rfl, HF3.out.trans hf4⟩
            | true =>
              have hs : s = false ∨ (s = true ∧ 0 ≤ e2) := by
                unfold Lk.want at hw
                cases s with
                | false => exact .inl rfl
                | true => exact .inr ⟨rfl, by simpa using hw⟩
              have HW := hid hw
              clear hw
              have hsz := HF3.out.size
              rcases hs with rfl | ⟨rfl, he2⟩
              · go_wp2_with fail
                try rw [hW3]
                refine wp_region_fam (by kernel_rfl) (by kernel_rfl) ?_
                repeat (go_big_quiet_step (exact Calls.fam (rnone_agg _)))
                refine wpQuiet_nil ?_
                rintro w4 ⟨⟨w4, hf4⟩, rfl⟩
                obtain ⟨o1, o2, o3, o4⟩ := own_no hf4 w3.heap.size O3
                have HO4 := hid (own_fr HO3.out hf4 (fun _ _ h => h))
                have HF4 := hid (HF3.out.trans hf4)
                have hsz4 := hf4.size
                clear kk0 kk1 kk2 hf4
                go_wp2_with (at_builtin; refine wpList_pushK (.tmp 51) (.tmp 56) (.slice A l.length c) l w4.heap.size 1 ⟨(x.by_ i : Nat), (x.by_ j : Nat), ⟨e0, e1, e2⟩⟩ ?_ ?_ ?_ ?_ w.heap.size ?_ ?_ ?_ ?_ ?_; rfl; rfl; rfl; rfl; exact own_fr HO4.out ((Fr.refl No _).alloc _) (fun _ _ h => h); (simp; omega); exact heap_new w4 _; omega; intro g' cap' w5 hown2 hgrow2 hat2 hlt3; have HO5 := hid hown2; have HG5 := hid hgrow2; clear hown2 hgrow2 hat2)
                go_roundg (x.n - (j + 1))
                case measure => have := HG.out; omega
                case rel =>
                  exact ⟨j + 1, l ++ [⟨(x.by_ i : Nat), (x.by_ j : Nat), ⟨e0, e1, e2⟩⟩], some ⟨g', 0, none⟩, cap', by go_num, by omega, by simp, HO5.out, fun e => by simp at e, by rw [HST.out, if_neg HX.out, HW.out]; simp, rfl, (HF4.out.alloc _).grown HG5.out (fun k e => .inr (own_block HO4.out k e).1)⟩
              · have hn1' : (0 ≤ e2) = True := by simp; omega
                go_wp2_with fail
                try rw [hW3]
                refine wp_region_fam (by kernel_rfl) (by kernel_rfl) ?_
                repeat (go_big_quiet_step (exact Calls.fam (rnone_agg _)))
                refine wpQuiet_nil ?_
                rintro w4 ⟨⟨w4, hf4⟩, rfl⟩
                obtain ⟨o1, o2, o3, o4⟩ := own_no hf4 w3.heap.size O3
                have HO4 := hid (own_fr HO3.out hf4 (fun _ _ h => h))
                have HF4 := hid (HF3.out.trans hf4)
                have hsz4 := hf4.size
                clear kk0 kk1 kk2 hf4
                go_wp2_with (at_builtin; refine wpList_pushK (.tmp 51) (.tmp 56) (.slice A l.length c) l w4.heap.size 1 ⟨(x.by_ i : Nat), (x.by_ j : Nat), ⟨e0, e1, e2⟩⟩ ?_ ?_ ?_ ?_ w.heap.size ?_ ?_ ?_ ?_ ?_; rfl; rfl; rfl; rfl; exact own_fr HO4.out ((Fr.refl No _).alloc _) (fun _ _ h => h); (simp; omega); exact heap_new w4 _; omega; intro g' cap' w5 hown2 hgrow2 hat2 hlt3; have HO5 := hid hown2; have HG5 := hid hgrow2; clear hown2 hgrow2 hat2)
                go_roundg (x.n - (j + 1))
                case measure => have := HG.out; omega
                case rel =>
                  exact ⟨j + 1, l ++ [⟨(x.by_ i : Nat), (x.by_ j : Nat), ⟨e0, e1, e2⟩⟩], some ⟨g', 0, none⟩, cap', by go_num, by omega, by simp, HO5.out, fun e => by simp at e, by rw [HST.out, if_neg HX.out, HW.out]; simp, rfl, (HF4.out.alloc _).grown HG5.out (fun k e => .inr (own_block HO4.out k e).1)⟩
        · have e : j = x.n := by omega
          subst e
          go_wp2
          go_roundg (x.n - (i + 1))
          case measure => have := HGO.out; omega
          case rel => exact ⟨i + 1, l, A, c, by go_num, by omega, rfl, HO.out, HNIL.out, by rw [HL.out]; rfl, rfl, HF.out⟩
    · have e : i = x.n := by omega
      subst e
      go_wp2
      go_ret
      rw [← HL.out]
      exact ⟨A, c, rfl, HF.out, own_slK HO.out HNIL.out⟩

end Go.Proofs.YtlncmnphjdeeoaaDoor
