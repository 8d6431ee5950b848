/- ringroadref16.Ways and Dist: the least sums of ways up, and of ways up and then down, as the document says; walked. -/
import Derived.Test.YtpkocidcfnlbiaaDoorCl
import Derived.Test.YtpkocidcfnlbiaaDoorLks
import Derived.Test.YtpkocidcfnlbiaaDoorMid
import Derived.Test.YtpkocidcfnlbiaaDoorSum
set_option linter.unusedVariables false
set_option linter.unusedSimpArgs false
namespace Go.Proofs.YtpkocidcfnlbiaaDoor
open Go.RowKit Go.Deep

/-- A row of one's own: its first n places hold U. -/
def RwI (W : World) (g c n : Nat) (U : Nat → Int) : Prop := n ≤ c ∧ ∃ V : Nat → Value, Blk W g c 3 V ∧ ∀ i, i < n → V i = .int .i64 (U i)
theorem RwI.fr {W W' : World} {g c n : Nat} {U : Nat → Int} (h : RwI W g c n U) {F : Nat → Prop} (hf : Fr F W W') (hF : ¬ F g) : RwI W' g c n U := by
  obtain ⟨h0, V, h1, h2⟩ := h
  exact ⟨h0, V, h1.fr hf hF, h2⟩
theorem RwI.cell {W : World} {g c n : Nat} {U : Nat → Int} (h : RwI W g c n U) {i : Nat} (hi : i < n) : W.cell? ⟨g, i, none⟩ = some (.int .i64 (U i)) := by
  obtain ⟨h0, V, h1, h2⟩ := h
  rw [h1.cell (show i < c by omega), h2 i hi]
theorem RwI.frozen {W : World} {g c n : Nat} {U : Nat → Int} (h : RwI W g c n U) (i : Nat) : W.frozen? ⟨g, i, none⟩ = false := by
  obtain ⟨h0, V, h1, h2⟩ := h
  exact h1.frozen i
theorem RwI.lt {W : World} {g c n : Nat} {U : Nat → Int} (h : RwI W g c n U) : g < W.heap.size := by
  obtain ⟨h0, V, h1, h2⟩ := h
  exact h1.lt
theorem RwI.set {W : World} {g c n : Nat} {U : Nat → Int} (h : RwI W g c n U) (i : Nat) (z : Int) : RwI (W.setCell ⟨g, i, none⟩ (.int .i64 z)) g c n (updI U i z) := by
  obtain ⟨h0, V, h1, h2⟩ := h
  refine ⟨h0, _, h1.setCell i (.int .i64 z), fun k hk => ?_⟩
  show (if k = i then Value.int .i64 z else V k) = Value.int .i64 (if k = i then z else U k)
  split
  · rfl
  · exact h2 k hk
theorem RwI.congr {W : World} {g c n : Nat} {U U' : Nat → Int} (h : RwI W g c n U) (e : ∀ i, i < n → U i = U' i) : RwI W g c n U' := by
  obtain ⟨h0, V, h1, h2⟩ := h
  exact ⟨h0, V, h1, fun i hi => (h2 i hi).trans (by rw [e i hi])⟩
theorem RwI.ints {W : World} {g c n : Nat} {U : Nat → Int} (h : RwI W g c n U) : IntsF W (some ⟨g, 0, none⟩) n U := fun _ => ⟨g, 0, rfl, fun j hj => by rw [Nat.zero_add]; exact h.cell hj⟩
/-- Out of a row that was appended to. -/
theorem own_rw {W : World} {base c : Nat} {A : Option Addr} {l : List Int} (h : W.ownsRow base 3 1 (.slice A l.length c) l.length (l.map (Value.int .i64))) (hl : 0 < l.length) : ∃ g, A = some ⟨g, 0, none⟩ ∧ base ≤ g ∧ RwI W g c l.length (fun j => l.getD j 0) := by
  obtain ⟨h1, h2 | ⟨g, cap, cur, e1, hb, hg, hn, _, hsz, ht⟩⟩ := h
  · have := h2.1
    simp only [Value.slice.injEq] at this
    omega
  · simp only [Value.slice.injEq] at e1
    obtain ⟨rfl, _, rfl⟩ := e1
    refine ⟨g, rfl, hb, hn, fun i => cur[i]?.getD undef, ⟨cur, hg, by omega, fun i hi => by show cur[i]? = some (cur[i]?.getD undef); rw [Array.getElem?_eq_getElem (by omega)]; rfl⟩, fun i hi => ?_⟩
    have e : (cur.toList.take (l.length * 1))[i]? = (l.map (Value.int .i64))[i]? := by rw [ht]
    rw [List.getElem?_take, if_pos (by omega), List.getElem?_map, List.getElem?_eq_getElem hi, Array.getElem?_toList] at e
    show cur[i]?.getD undef = _
    rw [e]
    simp [List.getD, List.getElem?_eq_getElem hi]

def WayR (w : World) (x : Ix) (s : Nat) (back : Bool) (e : Ending) (w' : World) : Prop := ∃ (g c : Nat) (U : Nat → Int), e = .returned (.slice (some ⟨g, 0, none⟩) x.n c) ∧ Fr No w w' ∧ w.heap.size ≤ g ∧ RwI w' g c x.n U ∧ UpS x (x.ew back) s U

set_option maxRecDepth 100000 in
set_option maxHeartbeats 4000000 in
theorem rways_calls {w : World} {R : RxLoc} {x : Ix} (h : RxMem w R x) (s : Nat) (hs : s < x.n) (back : Bool) :
    Calls Tryd.prog 10 #[.pointer (some ⟨R.b, 0, none⟩), .int .i64 (s : Nat), .bool back] w (WayR w x s back) := by
  have hn := h.ok.n2
  have hn1 := h.ok.n1
  have HOK := hid h.ok
  have H := hid h
  clear h
  go_enter Tryd.func10, Tryd.ntmps10
  go_wp2
  go_loopg [7, 8] (x.n + 1) (fun gk p q wr => ∃ (r : Nat) (A : Option Addr) (c : Nat) (l : List Int), q = .int .i64 r ∧ r ≤ x.n ∧ p = .slice A l.length c ∧ wr.ownsRow w.heap.size 3 1 (.slice A l.length c) l.length (l.map (Value.int .i64)) ∧
      l = List.replicate r 4611686018427387906 ∧ gk = x.n + 1 - r ∧ Fr No w wr)
  case atStart => exact ⟨0, none, 0, [], rfl, by omega, rfl, World.ownsRow_nil _ _ _ _, rfl, rfl, Fr.refl _ _⟩
  case round =>
    obtain ⟨r, A, c, l, rfl, hr, rfl, hown, hl, hg, hf⟩ := hrel
    have HO := hid hown
    have HL := hid hl
    have HG := hid hg
    have HF := hid hf
    have hlen : l.length = r := by rw [hl]; simp
    have hsz := hf.size
    have c0 := (H.out.no hf).c0
    clear hown hl hg hf
    by_cases hlt : r < x.n
    · have hlt2 : (r : Int) < x.n := by omega
      go_wp2_with (at_builtin; refine wpList_push (.tmp 24) (.tmp 25) (.slice A l.length c) l wr.heap.size 1 4611686018427387906 ?_ ?_ ?_ ?_ w.heap.size ?_ ?_ ?_ ?_ ?_; rfl; rfl; rfl; rfl; exact own_fr HO.out ((Fr.refl No _).alloc _) (fun _ _ h => h); (simp; omega); exact cell_of (heap_new wr _) 0; omega; intro g' cap' w6 hown4 hgrow4 hat4 hlt4; have HO6 := hid hown4; have HG6 := hid hgrow4; clear hown4 hgrow4 hat4)
      all_goals go_roundg (x.n + 1 - (r + 1))
      all_goals first
        | (have := HG.out; omega)
        | exact ⟨r + 1, some ⟨g', 0, none⟩, cap', l ++ [4611686018427387906], by go_num, by omega, (by simp; try omega), HO6.out, by rw [HL.out, List.replicate_succ'], rfl, (HF.out.alloc _).grown HG6.out (fun k e => .inr (own_block HO.out k e).1)⟩
    · obtain rfl : r = x.n := by omega
      obtain ⟨g, rfl, hbg, hrw⟩ := own_rw HO.out (by omega)
      rw [hlen] at hrw ⊢
      have hrw0 : RwI wr g c x.n (fun _ => 4611686018427387906) := hrw.congr (fun i hi => by
        rw [HL.out, List.getD, List.getElem?_replicate, if_pos hi]; rfl)
      have HRW := hid hrw0
      have hrk := (HOK.out.rk s hs).1
      have r1 := (H.out.no HF.out).rk s hs
      have s1 := hrw0.cell hs
      have s2 := hrw0.frozen s
      have lg := hrw0.lt
      have hs2 : (s : Int) < x.n := by omega
      have hgR : g ≠ R.b := fun e => by have := H.out.lt; omega
      have hgR2 : g ≠ R.br := fun e => by have := H.out.hr.1; omega
      obtain ⟨rs, hrs⟩ : ∃ r, x.rk s = r := ⟨_, rfl⟩
      have HRS := hid hrs
      rw [hrs] at r1 hrk
      clear HO HL HG hrw hrw0 hlen hrs
      go_wp2
      have hw1 : RwI (wr.setCell ⟨g, s, none⟩ (.int .i64 0)) g c x.n (fun v => if v = s then 0 else 4611686018427387906) := (HRW.out.set s 0).congr (fun i hi => rfl)
      have hf1 : Fr No w (wr.setCell ⟨g, s, none⟩ (.int .i64 0)) := HF.out.setCell (p := ⟨g, s, none⟩) (.inr hbg) _
      have hi0 := WI.first (ew := x.ew back) HOK.out hs
      rw [HRS.out] at hi0
      have HW1 := hid hw1
      have HF1 := hid hf1
      have HI0 := hid hi0
      clear hw1 hf1 hi0 HRW HF c0 r1 s1 s2 lg
      generalize wr.setCell ⟨g, s, none⟩ (.int .i64 0) = W1 at HW1 HF1 ⊢
      go_loopg [9] (x.n + 1 - rs) (fun gk p wr => ∃ (r : Nat) (U : Nat → Int), p = .int .i64 r ∧ r ≤ x.n ∧ rs ≤ r ∧ gk = x.n + 1 - r ∧ Fr No w wr ∧ RwI wr g c x.n U ∧ WI x (x.ew back) s r [] U)
      case atStart => exact ⟨rs, _, rfl, by omega, by omega, rfl, HF1.out, HW1.out, HI0.out⟩
      case round =>
        clear HF1 HW1 HI0
        obtain ⟨r, U, rfl, hr, hrr, hgk, hf, hw, hi⟩ := hrel
        have HGK := hid hgk
        have HF := hid hf
        have HW := hid hw
        have HI := hid hi
        have c0 := (H.out.no hf).c0
        clear hgk hf hw hi
        by_cases hlt : r < x.n
        · have hlt2 : (r : Int) < x.n := by omega
          obtain ⟨v, hv⟩ : ∃ v, x.by_ r = v := ⟨_, rfl⟩
          have hb := HOK.out.by_ r hlt
          have hbyr : x.byr (r : Nat) = (x.by_ r : Nat) := HOK.out.byr_nat hlt
          rw [hv] at hb hbyr
          have HV := hid hv
          have HBY := hid hbyr
          have hvn := hb.1
          have hvr := hb.2
          clear hv hb hbyr
          go_wp2_with fail
          clear c0
          refine (rby_calls (H.out.no HF.out) (r : Nat)).mono ?_
          rw [HBY.out]
          rintro e w2 ⟨rfl, hf2⟩
          have HF2 := hid (HF.out.trans hf2)
          have HW2 := hid (HW.out.fr hf2 (fun h => h))
          clear hf2 HF HW
          go_wp2_with fail
          have lg2 := HW2.out.lt
          refine (rup2_calls (H.out.no HF2.out) (v : Nat) back).mono ?_
          obtain ⟨l, hl⟩ : ∃ l, x.ups (v : Nat) back = l := ⟨_, rfl⟩
          have hlen : l.length ≤ x.n := by
            rw [← hl]
            unfold Ix.ups
            split
            · exact x.upsTo_le _ _ _
            · exact Nat.zero_le _
          have hmem := HOK.out.ups_mem back hvn
          have hor := HOK.out.ups_or back hvn
          rw [hl] at hmem hor ⊢
          rintro e w3 ⟨A, lc, rfl, hf3, hsl, hnew⟩
          have HF3 := hid (HF2.out.trans hf3)
          have HW3 := hid (HW2.out.fr hf3 (fun h => h))
          have HSL := hid (show IntsF w3 A l.length (fun j => l.getD j 0) from SlL.ints' hsl)
          have HNEW : Hid (∀ a : Addr, A = some a → a.block ≠ g) := hid fun a ha e => by have := hnew a ha; omega
          have HMEM := hid hmem
          have HOR := hid hor
          clear hl hmem hor hf3 hsl hnew lg2 HF2 HW2
          go_wp2
          go_loopg [12] (l.length + 1) (fun gk p wr => ∃ (i : Nat) (U : Nat → Int), p = .int .i64 i ∧ i ≤ l.length ∧ gk = l.length + 1 - i ∧ Fr No w wr ∧ Fr (One g) w3 wr ∧ RwI wr g c x.n U ∧ WI x (x.ew back) s r (l.take i) U)
          case atStart => exact ⟨0, _, rfl, by omega, rfl, HF3.out, Fr.refl _ _, HW3.out, by rw [List.take_zero]; exact HI.out⟩
          case round =>
            clear HF3 HW3 HI
            obtain ⟨i, U, rfl, hi, hgk2, hf, hf3, hw, hwi⟩ := hrel
            have HGK2 := hid hgk2
            have HF := hid hf
            have HF3 := hid hf3
            have HW := hid hw
            have HI := hid hwi
            clear hgk2 hf hf3 hw hwi
            by_cases hli : i < l.length
            · have hli2 : (i : Int) < l.length := by omega
              obtain ⟨bA, off, rfl, hc⟩ := HSL.out (by omega)
              have hbAg : bA ≠ g := HNEW.out _ rfl
              have q0 : wr.cell? ⟨bA, off + i, none⟩ = some (.int .i64 (l.getD i 0)) := HF3.out.cell_some (hc i hli) hbAg
              have hz : l.getD i 0 ∈ l := by rw [List.getD, List.getElem?_eq_getElem hli]; exact List.getElem_mem hli
              obtain ⟨z, hz1, hz2, hz3, _⟩ := (HMEM.out _).1 hz
              have htake : l.take (i + 1) = l.take i ++ [(z : Int)] := by
                rw [List.take_succ_eq_append_getElem hli, ← hz1, List.getD, List.getElem?_eq_getElem hli]; rfl
              rw [hz1] at q0
              have hne : v ≠ z := fun e => by subst e; omega
              have hst := HI.out.step HOK.out (by rw [HRS.out]; exact hrr) hlt (HOK.out.ew_b back) hz2 (by omega)
              rw [← htake, HV.out] at hst
              have a1 : x.at_ (v : Nat) (z : Nat) = x.ent v z := at_nat (two_nat hvn hz2 hne)
              have a2 : x.at_ (z : Nat) (v : Nat) = x.ent z v := at_nat (two_nat hz2 hvn (fun e => hne e.symm))
              obtain ⟨⟨e0, e1, e2⟩, he1⟩ : ∃ y, x.ent v z = y := ⟨_, rfl⟩
              obtain ⟨⟨d0, d1, d2⟩, he2⟩ : ∃ y, x.ent z v = y := ⟨_, rfl⟩
              rw [he1] at a1
              rw [he2] at a2
              have hew : x.ew back v z = if back then d0 else e0 := by unfold Ix.ew; rw [he1, he2]
              have heb := HOK.out.ew_b back v z
              rw [hew] at hst heb
              have HST := hid hst
              have HA1 := hid a1
              have HA2 := hid a2
              have lbA := cell_lt q0
              have s1 := HW.out.cell hvn
              have s2 := HW.out.cell hz2
              have s3 := HW.out.frozen z
              have hbv := HI.out.b v hvn
              obtain ⟨uv, huv⟩ : ∃ u, U v = u := ⟨_, rfl⟩
              obtain ⟨uz, huz⟩ : ∃ u, U z = u := ⟨_, rfl⟩
              rw [huv] at s1 hbv
              rw [huz] at s2
              have HUV := hid huv
              have HUZ := hid huz
              have hz2i : (z : Int) < x.n := by omega
              have hvni : (v : Int) < x.n := by omega
              clear hc hz hz1 htake hst a1 a2 he1 he2 hew huv huz
              go_wp2_with fail
              refine (rat_calls (H.out.no HF.out) (v : Nat) (z : Nat)).mono ?_
              rw [HA1.out]
              simp only [En.val]
              rintro e w4 ⟨rfl, hf4⟩
              have HF4 := hid (HF.out.trans hf4)
              have HF34 := hid (HF3.out.trans hf4.no)
              have HW4 := hid (HW.out.fr hf4 (fun h => h))
              have q1 := hf4.cell_some q0 (fun h => h)
              have s1' := hf4.cell_some s1 (fun h => h)
              have s2' := hf4.cell_some s2 (fun h => h)
              have l4A := cell_lt q1
              have l4g := cell_lt s1'
              clear hf4 q0 s1 s2 s3 HF HF3 HW
              cases back with
              | false =>
                simp only [Bool.false_eq_true, if_false] at heb HST
                go_wp2_with fail
                have hf5 := HF4.out.alloc (.cells #[.int .i64 e0, .int .i64 e1, .int .i64 e2] 52)
                have hf35 := HF34.out.alloc (.cells #[.int .i64 e0, .int .i64 e1, .int .i64 e2] 52)
                have fa := (Fr.refl No w4).alloc (.cells #[.int .i64 e0, .int .i64 e1, .int .i64 e2] 52)
                have hw5 := HW4.out.fr fa (fun h => h)
                have hw5v := fa.cell_some s1' (fun h => h)
                have q5 := fa.cell_some q1 (fun h => h)
                have hbx5 : (w4.alloc (.cells #[.int .i64 e0, .int .i64 e1, .int .i64 e2] 52)).cell? ⟨w4.heap.size, 0, none⟩ = some (.int .i64 e0) := cell_of (heap_new w4 _) 0
                clear fa
                generalize w4.alloc (.cells #[.int .i64 e0, .int .i64 e1, .int .i64 e2] 52) = W5 at hf5 hf35 hw5 hw5v q5 hbx5 ⊢
                have HF5 := hid hf5
                have HF35 := hid hf35
                have HW5 := hid hw5
                have q2 := q5
                have kk1 : ∀ nn : Fam W5, nn.v.cell? ⟨g, v, none⟩ = some (.int .i64 uv) := Fam.cell (hw5v)
                have kk2 : ∀ nn : Fam W5, nn.v.cell? ⟨w4.heap.size, 0, none⟩ = some (.int .i64 e0) := Fam.cell hbx5
                obtain ⟨by_, hby⟩ : ∃ y, tw uv e0 = y := ⟨_, rfl⟩
                have htw : ∀ nn : Fam W5, Calls Tryd.prog 29 #[.int .i64 uv, .int .i64 e0] nn.v fun e w' => e = .returned (.int .i64 by_) ∧ Fr No nn.v w' := fun nn => by
                  have := tw_calls hbv heb nn.v
                  rw [hby] at this
                  exact this
                have hst := HST.out
                rw [HUV.out, HUZ.out, hby] at hst
                have HST2 := hid hst
                clear HST hst hby hf5 hf35 hw5 hw5v hbx5 q5 HF4 HF34 HW4 q1 s1' s2' l4A l4g
                refine wp_region_fam (by kernel_rfl) (by kernel_rfl) ?_
                repeat (go_big_quiet_step (exact Calls.fam (htw _)))
                refine wpQuiet_nil ?_
                rintro w7 ⟨⟨w7, hf7⟩, rfl⟩
                have HF7 := hid (HF5.out.trans hf7)
                have HF37 := hid (HF35.out.trans hf7.no)
                have HW7 := hid (HW5.out.fr hf7 (fun h => h))
                have q3 := hf7.cell_some q2 (fun h => h)
                have s5 : w7.cell? ⟨g, z, none⟩ = some (.int .i64 uz) := by rw [← HUZ.out]; exact HW7.out.cell hz2
                have s6 := HW7.out.frozen z
                clear hf7 kk1 kk2 htw q2
                by_cases h4 : by_ < uz
                · have g4 : decide (by_ < uz) = true := by simp; exact h4
                  go_wp2
                  go_roundg (l.length + 1 - (i + 1))
                  case measure => have := HGK2.out; omega
                  case rel => exact ⟨i + 1, updI U z by_, by go_num, by omega, rfl, HF7.out.setCell (p := ⟨g, z, none⟩) (.inr hbg) _, HF37.out.set1 _ _, HW7.out.set z by_, by have := HST2.out; rw [if_pos h4] at this; exact this⟩
                · have g4 : decide (by_ < uz) = false := by simp; omega
                  go_wp2
                  go_roundg (l.length + 1 - (i + 1))
                  case measure => have := HGK2.out; omega
                  case rel => exact ⟨i + 1, U, by go_num, by omega, rfl, HF7.out, HF37.out, HW7.out, by have := HST2.out; rw [if_neg (by omega)] at this; exact this⟩
              | true =>
                simp only [if_true] at heb HST
                go_wp2_with fail
                have fa := (Fr.refl No w4).alloc (.cells #[.int .i64 e0, .int .i64 e1, .int .i64 e2] 52)
                refine (rat_calls (H.out.no (HF4.out.trans fa)) (z : Nat) (v : Nat)).mono ?_
                rw [HA2.out]
                simp only [En.val]
                rintro e w6 ⟨rfl, hf6⟩
                obtain ⟨o1, o2, o3, o4⟩ := own_no hf6 w4.heap.size (heap_new w4 _)
                have hf46 := fa.trans hf6
                have hl6 : w4.heap.size ≤ w6.heap.size := hf46.size
                have hne4 : w4.heap.size ≠ g := by omega
                go_wp2_with fail
                have o5 := set3 o4 (.int .i64 d0) (.int .i64 d1) (.int .i64 d2)
                have fb : Fr (One w4.heap.size) w6 (((w6.setCell ⟨w4.heap.size, 0, none⟩ (.int .i64 d0)).setCell ⟨w4.heap.size, 1, none⟩ (.int .i64 d1)).setCell ⟨w4.heap.size, 2, none⟩ (.int .i64 d2)) := (((Fr.refl _ w6).set1 _ _).set1 _ _).set1 _ _
                have hf5 := (HF4.out.trans hf46).trans' fb (fun k hk (e : k = w4.heap.size) => by have := HF4.out.size; omega)
                have hf35 := (HF34.out.trans hf46.no).trans' fb (fun k hk (e : k = w4.heap.size) => by have := HF34.out.size; omega)
                have hw5 := (HW4.out.fr hf46 (fun h => h)).fr fb (fun (e : g = w4.heap.size) => hne4 e.symm)
                have hw5v := fb.cell_some (hf46.cell_some s1' (fun h => h)) (fun (e : g = w4.heap.size) => hne4 e.symm)
                have q5 := fb.cell_some (hf46.cell_some q1 (fun h => h)) (fun (e : bA = w4.heap.size) => by omega)
                have hbx5 := cell_of o5 0
                clear fa fb o1 o2 o3 o4 o5 hf6 hf46 hl6
                generalize ((w6.setCell ⟨w4.heap.size, 0, none⟩ (.int .i64 d0)).setCell ⟨w4.heap.size, 1, none⟩ (.int .i64 d1)).setCell ⟨w4.heap.size, 2, none⟩ (.int .i64 d2) = W5 at hf5 hf35 hw5 hw5v q5 hbx5 ⊢
                simp at hbx5
                have HF5 := hid hf5
                have HF35 := hid hf35
                have HW5 := hid hw5
                have q2 := q5
                have kk1 : ∀ nn : Fam W5, nn.v.cell? ⟨g, v, none⟩ = some (.int .i64 uv) := Fam.cell (hw5v)
                have kk2 : ∀ nn : Fam W5, nn.v.cell? ⟨w4.heap.size, 0, none⟩ = some (.int .i64 d0) := Fam.cell hbx5
                obtain ⟨by_, hby⟩ : ∃ y, tw uv d0 = y := ⟨_, rfl⟩
                have htw : ∀ nn : Fam W5, Calls Tryd.prog 29 #[.int .i64 uv, .int .i64 d0] nn.v fun e w' => e = .returned (.int .i64 by_) ∧ Fr No nn.v w' := fun nn => by
                  have := tw_calls hbv heb nn.v
                  rw [hby] at this
                  exact this
                have hst := HST.out
                rw [HUV.out, HUZ.out, hby] at hst
                have HST2 := hid hst
                clear HST hst hby hf5 hf35 hw5 hw5v hbx5 q5 HF4 HF34 HW4 q1 s1' s2' l4A l4g
                refine wp_region_fam (by kernel_rfl) (by kernel_rfl) ?_
                repeat (go_big_quiet_step (exact Calls.fam (htw _)))
                refine wpQuiet_nil ?_
                rintro w7 ⟨⟨w7, hf7⟩, rfl⟩
                have HF7 := hid (HF5.out.trans hf7)
                have HF37 := hid (HF35.out.trans hf7.no)
                have HW7 := hid (HW5.out.fr hf7 (fun h => h))
                have q3 := hf7.cell_some q2 (fun h => h)
                have s5 : w7.cell? ⟨g, z, none⟩ = some (.int .i64 uz) := by rw [← HUZ.out]; exact HW7.out.cell hz2
                have s6 := HW7.out.frozen z
                clear hf7 kk1 kk2 htw q2
                by_cases h4 : by_ < uz
                · have g4 : decide (by_ < uz) = true := by simp; exact h4
                  go_wp2
                  go_roundg (l.length + 1 - (i + 1))
                  case measure => have := HGK2.out; omega
                  case rel => exact ⟨i + 1, updI U z by_, by go_num, by omega, rfl, HF7.out.setCell (p := ⟨g, z, none⟩) (.inr hbg) _, HF37.out.set1 _ _, HW7.out.set z by_, by have := HST2.out; rw [if_pos h4] at this; exact this⟩
                · have g4 : decide (by_ < uz) = false := by simp; omega
                  go_wp2
                  go_roundg (l.length + 1 - (i + 1))
                  case measure => have := HGK2.out; omega
                  case rel => exact ⟨i + 1, U, by go_num, by omega, rfl, HF7.out, HF37.out, HW7.out, by have := HST2.out; rw [if_neg (by omega)] at this; exact this⟩
            · obtain rfl : i = l.length := by omega
              have hnx := HI.out
              rw [List.take_length] at hnx
              have hnx2 := hnx.next HOK.out hlt (fun z hz hzr => by rw [HV.out]; exact HOR.out z hz (by omega))
              have HNX := hid hnx2
              clear hnx hnx2
              go_wp2
              go_roundg (x.n + 1 - (r + 1))
              case measure => have := HGK.out; omega
              case rel => exact ⟨r + 1, U, by go_num, by omega, by omega, rfl, HF.out, HW.out, HNX.out⟩
        · obtain rfl : r = x.n := by omega
          go_wp2
          go_ret
          exact ⟨g, c, U, rfl, HF.out, hbg, HW.out, HI.out.last HOK.out⟩

end Go.Proofs.YtpkocidcfnlbiaaDoor
