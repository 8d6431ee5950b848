/- The index that the document builds, vertex by vertex, is the one that is built rank by rank, plain; ringroadref16.Build; walked. -/

import Derived.Test.YtoepbhacpidcbaaGreatDoorQBase
import Derived.Test.YtoepbhacpidcbaaGreatDoorQIdx
import Derived.Test.YtoepbhacpidcbaaGreatDoorQPerm
import Derived.Test.YtoepbhacpidcbaaGreatDoorQIdxB
import Derived.Test.YtoepbhacpidcbaaGreatDoorQRef
import Derived.Test.YtoepbhacpidcbaaGreatDoorQUnref
import Derived.Test.YtoepbhacpidcbaaGreatDoorQItr
import Derived.Test.YtoepbhacpidcbaaGreatDoorQUnE
import Derived.Test.YtoepbhacpidcbaaGreatDoorQDst
import Derived.Test.YtoepbhacpidcbaaGreatDoorQLnk
import Derived.Test.YtoepbhacpidcbaaGreatDoorQLks
import Derived.Test.YtoepbhacpidcbaaGreatDoorQMid
import Derived.Test.YtoepbhacpidcbaaGreatDoorQBig
import Derived.Test.YtoepbhacpidcbaaGreatDoorQCp2
import Derived.Test.YtoepbhacpidcbaaGreatDoorQGoes
import Derived.Test.YtoepbhacpidcbaaGreatDoorQGOps
import Derived.Test.YtoepbhacpidcbaaGreatDoorQGB
import Derived.Test.YtoepbhacpidcbaaGreatDoorQG8
import Derived.Test.YtoepbhacpidcbaaGreatDoorQWh
import Derived.Test.YtoepbhacpidcbaaGreatDoorQHpK
import Derived.Test.YtoepbhacpidcbaaGreatDoorQRB

set_option linter.unusedVariables false
set_option linter.unusedSimpArgs false
namespace Go.Proofs.YtoepbhacpidcbaaGreatDoor
open Go.RowKit Go.Shelf Go.Deep

/-- The pairs of ranks as the document sets them: those of one lower rank, by vertex. -/
def pd1 (x : Ix) (lo : Nat) : Nat → List (PrEl x.n)
  | 0 => []
  | w + 1 => if h : lo < x.rk w ∧ x.rk w < x.n then pd1 x lo w ++ [⟨(lo, x.rk w), ⟨by show lo < x.n; omega, h.2, by show lo ≠ x.rk w; omega⟩⟩, ⟨(x.rk w, lo), ⟨h.2, by show lo < x.n; omega, by show x.rk w ≠ lo; omega⟩⟩] else pd1 x lo w
def pds (x : Ix) : Nat → List (PrEl x.n)
  | 0 => []
  | lo + 1 => pds x lo ++ pd1 x lo x.n
theorem pd1_succ (x : Ix) (lo w : Nat) : pd1 x lo (w + 1) = if h : lo < x.rk w ∧ x.rk w < x.n then pd1 x lo w ++ [⟨(lo, x.rk w), ⟨by show lo < x.n; omega, h.2, by show lo ≠ x.rk w; omega⟩⟩, ⟨(x.rk w, lo), ⟨h.2, by show lo < x.n; omega, by show x.rk w ≠ lo; omega⟩⟩] else pd1 x lo w := rfl
theorem pds_succ (x : Ix) (lo : Nat) : pds x (lo + 1) = pds x lo ++ pd1 x lo x.n := rfl
theorem pd1_mem (x : Ix) (lo : Nat) : ∀ k (el : PrEl x.n), el ∈ pd1 x lo k ↔ min el.1.1 el.1.2 = lo ∧ ∃ w, w < k ∧ max el.1.1 el.1.2 = x.rk w
  | 0, el => by simp [pd1]
  | k + 1, el => by
    obtain ⟨⟨a, b⟩, ha, hb, hne⟩ := el
    simp only at ha hb hne
    rw [pd1_succ]
    split
    · rename_i h
      rw [List.mem_append, pd1_mem x lo k]
      simp only [List.mem_cons, List.not_mem_nil, or_false, Subtype.mk.injEq, Prod.mk.injEq]
      constructor
      · rintro (⟨h1, w, hw, h2⟩ | h1)
        · exact ⟨h1, w, by omega, h2⟩
        · exact ⟨by omega, k, by omega, by omega⟩
      · rintro ⟨h1, w, hw, h2⟩
        by_cases e : w = k
        · subst e; right; omega
        · left; exact ⟨h1, w, by omega, h2⟩
    · rename_i h
      rw [pd1_mem x lo k]
      simp only
      constructor
      · rintro ⟨h1, w, hw, h2⟩; exact ⟨h1, w, by omega, h2⟩
      · rintro ⟨h1, w, hw, h2⟩
        by_cases e : w = k
        · subst e; exact absurd (by omega) h
        · exact ⟨h1, w, by omega, h2⟩
theorem pds_mem (x : Ix) : ∀ k (el : PrEl x.n), el ∈ pds x k → min el.1.1 el.1.2 < k
  | 0, el, h => by simp [pds] at h
  | k + 1, el, h => by
    rw [pds_succ, List.mem_append, pd1_mem] at h
    rcases h with h | h
    · have := pds_mem x k el h; omega
    · omega
theorem pds_all {x : Ix} (hx : x.Ok) : ∀ k (el : PrEl x.n), min el.1.1 el.1.2 < k → el ∈ pds x k
  | 0, el, h => by omega
  | k + 1, el, h => by
    rw [pds_succ, List.mem_append, pd1_mem]
    have hel := el.2
    by_cases e : min el.1.1 el.1.2 = k
    · have hb := hx.by_ (max el.1.1 el.1.2) (by omega)
      exact .inr ⟨e, _, hb.1, hb.2.symm⟩
    · exact .inl (pds_all hx k el (by omega))
theorem pd1_pw {x : Ix} (hx : x.Ok) (lo : Nat) : ∀ k, k ≤ x.n → (pd1 x lo k).Pairwise (fun p q => p ≠ q)
  | 0, _ => List.Pairwise.nil
  | k + 1, hk => by
    rw [pd1_succ]
    split
    · rename_i h
      rw [List.pairwise_append]
      refine ⟨pd1_pw hx lo k (by omega), ?_, ?_⟩
      · refine List.pairwise_pair.2 fun e => ?_
        simp only [Subtype.mk.injEq, Prod.mk.injEq] at e
        omega
      · intro a ha b hb e
        rw [pd1_mem] at ha
        obtain ⟨h1, w, hw, h2⟩ := ha
        have hwk : x.rk w ≠ x.rk k := fun e2 => by have := hx.inj (by omega) (by omega) e2; omega
        simp only [List.mem_cons, List.not_mem_nil, or_false] at hb
        rcases hb with rfl | rfl <;> subst e <;> simp only at h1 h2 <;> omega
    · exact pd1_pw hx lo k (by omega)
theorem pds_pw {x : Ix} (hx : x.Ok) : ∀ k, (pds x k).Pairwise (prR x.n)
  | 0 => List.Pairwise.nil
  | k + 1 => by
    rw [pds_succ, List.pairwise_append]
    refine ⟨pds_pw hx k, ?_, ?_⟩
    · refine List.Pairwise.imp_of_mem ?_ (pd1_pw hx k x.n (Nat.le_refl _))
      intro a b ha hb h
      rw [pd1_mem] at ha hb
      exact ⟨by omega, h⟩
    · intro a ha b hb
      have := pds_mem x k a ha
      rw [pd1_mem] at hb
      exact ⟨by omega, fun e => by subst e; omega⟩

theorem Ix.ext4 {x y : Ix} (h1 : y.n = x.n) (h2 : y.rk = x.rk) (h3 : y.by_ = x.by_) (h4 : ∀ u v, y.ent u v = x.ent u v) : y = x := by
  cases x; cases y
  simp only at h1 h2 h3
  subst h1 h2 h3
  congr
  funext u v
  exact h4 u v
/-- What lies between no two vertices stays. -/
theorem Ix.Ok.bld_out {G : Gr} (hw : G.Wt) {n : Nat} : ∀ (l : List (PrEl n)) (x : Ix), x.Ok → x.n = n → ∀ u v, ¬ (u < n ∧ v < n ∧ u ≠ v) → (x.bld G l).ent u v = x.ent u v := by
  intro l
  induction l with
  | nil => intro x _ _ u v _; rfl
  | cons p l ih =>
    intro x h hn u v ho
    subst hn
    have h1 := ih (x.bstep G p.1) (h.bstep_ok hw p) (Ix.bstep_n _ _ _) u v ho
    have e : x.bld G (p :: l) = (x.bstep G p.1).bld G l := rfl
    rw [e, h1, h.bstep_set hw p]
    obtain ⟨p1, p2, p3⟩ := p.2
    have b1 := h.by_ p.1.1 p1
    have b2 := h.by_ p.1.2 p2
    show (if u = _ ∧ v = _ then _ else x.ent u v) = x.ent u v
    rw [if_neg]
    rintro ⟨e1, e2⟩
    exact ho ⟨by omega, by omega, fun e => p3 (h.by_inj p1 p2 (by omega))⟩
theorem Ix.Ok.pds_build {x : Ix} (h : x.Ok) {G : Gr} (hw : G.Wt) : x.bld G (pds x x.n) = x.build G := by
  obtain ⟨h1, h2⟩ := Ix.Ok.bld_right hw (pds x x.n) [] x h rfl (by simpa using pds_pw h x.n) (fun q hq => by cases hq)
  obtain ⟨s1, s2, s3⟩ := Ix.bld_shape G (pds x x.n) x
  have hb := h.build_whole hw
  have hwh : Whole G (x.bld G (pds x x.n)) := fun u v hu hv hne => by
    rw [s1] at hu hv
    have ru := h.rk u hu
    have rv := h.rk v hv
    have := h2 ⟨(x.rk u, x.rk v), ru.1, rv.1, fun e => hne (h.inj hu hv e)⟩ (by
      rw [List.nil_append]
      refine pds_all h x.n _ ?_
      show min (x.rk u) (x.rk v) < x.n
      omega)
    unfold Ix.RightAt at this
    rw [s3] at this
    simp only [ru.2, rv.2] at this
    exact this
  refine Ix.ext4 (by rw [s1, Ix.build_n]) (by rw [s2, Ix.build_rk]) (by rw [s3, Ix.build_by]) fun u v => ?_
  by_cases hc : u < x.n ∧ v < x.n ∧ u ≠ v
  · have := Whole.uniq hb.2 hwh hb.1 hw (by rw [s1, Ix.build_n]) (by rw [s2, Ix.build_rk]) (by rw [s3, Ix.build_by]) x.n u v (by rw [Ix.build_n]; exact hc.1) (by rw [Ix.build_n]; exact hc.2.1) hc.2.2 (by rw [Ix.build_rk]; have := (h.rk u hc.1).1; omega)
    exact this
  · rw [Ix.Ok.bld_out hw _ x h rfl u v hc]
    exact (Ix.Ok.bld_out hw (prs x.n x.n) x h rfl u v hc).symm

/-- One more pair, as the document sets it. -/
theorem Ix.Ok.dset {x0 : Ix} (h0 : x0.Ok) {G : Gr} (hw : G.Wt) (l : List (PrEl x0.n)) (el : PrEl x0.n) (hl : (x0.bld G l).Ok) {y : Ix} (hy : x0.bld G l = y) {a b : Nat} (ha : x0.by_ el.1.1 = a) (hb : x0.by_ el.1.2 = b) :
    x0.bld G (l ++ [el]) = y.set a b (y.best (a : Nat) (b : Nat) (G.best (a : Nat) (b : Nat))) ∧ (y.best (a : Nat) (b : Nat) (G.best (a : Nat) (b : Nat))).Ok ∧ y.two (a : Nat) (b : Nat) = true ∧ (x0.bld G (l ++ [el])).Ok := by
  obtain ⟨s1, s2, s3⟩ := Ix.bld_shape G l x0
  rw [Ix.bld_snoc]
  rw [hy] at hl s1 s2 s3 ⊢
  have hp := hl.bstep_set hw ⟨el.1, by rw [s1]; exact el.2⟩
  have hk := hl.bstep_ok hw ⟨el.1, by rw [s1]; exact el.2⟩
  obtain ⟨e1, e2, e3⟩ := el.2
  have ht := hl.two_by (a := el.1.1) (b := el.1.2) (by rw [s1]; exact e1) (by rw [s1]; exact e2) e3
  simp only [s3, ha, hb] at hp ht
  exact ⟨hp, hl.may_ok (hl.best_may ht (G.best_wt hw _ _)), ht, hk⟩


theorem Ix.Ok.low_by {y : Ix} (h : y.Ok) {r q : Nat} (hr : r < y.n) (hq : q < y.n) : y.low (y.by_ r : Nat) (q : Nat) = (y.by_ r : Nat) ↔ r < y.rk q := by
  have hb := h.by_ r hr
  unfold Ix.low
  by_cases e : y.by_ r = q
  · rw [show y.two (y.by_ r : Nat) (q : Nat) = false by unfold Ix.two; simp [e], if_neg (by simp)]
    rw [← e, hb.2]
    omega
  · rw [show y.two (y.by_ r : Nat) (q : Nat) = true by unfold Ix.two; simp only [decide_eq_true_eq]; omega, if_pos rfl]
    simp only [Int.toNat_natCast, hb.2]
    split
    · rename_i h1; exact ⟨fun _ => h1, fun _ => rfl⟩
    · rename_i h1; exact ⟨fun h2 => absurd (by omega) e, fun h2 => absurd h2 h1⟩

def RbdR (w : World) (x : Ix) (e : Ending) (w' : World) : Prop := ∃ L : RxLoc, e = .returned (.pointer (some ⟨L.b, 0, none⟩)) ∧ Fr No w w' ∧ RxMem w' L x ∧ w.heap.size ≤ L.b ∧ w.heap.size ≤ L.br

set_option maxRecDepth 100000 in
set_option maxHeartbeats 4000000 in
theorem rbuild_calls {w : World} {b : Nat} {G : Gr} (h : RGM w b G) (hn1 : 1 ≤ G.n) (hn : G.n ≤ 24) (hw : G.Wt) (br off c : Nat) (f : Nat → Int) (hc : ∀ j, j < G.n → w.cell? ⟨br, off + j, none⟩ = some (.int .i64 (f j))) (hd : PermF G.n f) (g : Nat → Nat)
    (hg1 : ∀ i, i < G.n → g (f i).toNat = i) (hg2 : ∀ r, r < G.n → g r < G.n ∧ f (g r) = r) :
    Calls Tryz.prog 48 #[.pointer (some ⟨b, 0, none⟩), .slice (some ⟨br, off, none⟩) G.n c] w (RbdR w ((Ix.new G.n f g).build G)) := by
  have hx0 := Ix.new_ok hn1 hd hg1 hg2
  have HNEW := hid (rnew_calls br off G.n c f w hc hn1 hd g hg1 hg2)
  obtain ⟨x0, hx⟩ : ∃ x0, Ix.new G.n f g = x0 := ⟨_, rfl⟩
  have hxn : x0.n = G.n := by rw [← hx]; rfl
  rw [hx] at hx0 HNEW ⊢
  rw [← hx0.pds_build hw]
  have H := hid h
  have HX0 := hid hx0
  have HW := hid hw
  clear h hw hc hd hg1 hg2 hx hx0
  go_enter Tryz.func48, Tryz.ntmps48
  go_wp2_with fail
  refine HNEW.out.mono ?_
  rintro e w1 ⟨L, rfl, hf1, hx1, hl1, hl2⟩
  have F1 := hid hf1
  have HX1 := hid hx1
  clear hf1 hx1 HNEW
  go_wp2
  go_loopg [6] (G.n + 1) (fun gk p wr => ∃ r : Nat, p = .int .i64 r ∧ r ≤ G.n ∧ gk = G.n + 1 - r ∧ Fr No w wr ∧ RxMem wr L (x0.bld G (pds x0 r)))
  case atStart => exact ⟨0, rfl, by omega, rfl, F1.out, HX1.out⟩
  case round =>
    clear F1 HX1
    obtain ⟨r, rfl, hr, hgk, hf, hs⟩ := hrel
    have HGK := hid hgk
    have HF := hid hf
    have c0 := (H.out.no hf).c0
    have hsn := hs.ok
    have HS := hid hs
    clear hgk hf hs
    by_cases hlt : r < G.n
    · have hlt2 : (r : Int) < G.n := by omega
      have hrx : r < x0.n := by omega
      obtain ⟨v, hv⟩ : ∃ v, x0.by_ r = v := ⟨_, rfl⟩
      have hvn := (HX0.out.by_ r hrx).1
      rw [hv] at hvn
      have hby : ∀ wz, Fr No wr wz → Calls Tryz.prog 104 #[.pointer (some ⟨L.b, 0, none⟩), .int .i64 (r : Nat)] wz fun e w' => e = .returned (.int .i64 (v : Nat)) ∧ Fr No wz w' := fun wz hz => by
        have hsh := Ix.bld_shape G (pds x0 r) x0
        have := rby_calls (HS.out.no hz) (r : Nat)
        rw [hsn.byr_nat (by rw [hsh.1]; exact hrx), hsh.2.2, hv] at this
        exact this
      have HBY := hid hby
      have HV := hid hv
      clear hby hsn hv
      go_wp2_with fail
      clear c0
      refine (HBY.out _ (Fr.refl _ _)).mono ?_
      rintro e w2 ⟨rfl, hf2⟩
      have HF2 := hid (HF.out.trans hf2)
      have HS2 := hid (HS.out.no hf2)
      clear hf2 HBY HF HS
      go_wp2
      go_loopg [8] (G.n + 1) (fun gk p wr => ∃ q : Nat, p = .int .i64 q ∧ q ≤ G.n ∧ gk = G.n + 1 - q ∧ Fr No w wr ∧ RxMem wr L (x0.bld G (pds x0 r ++ pd1 x0 r q)))
      case atStart => exact ⟨0, rfl, by omega, rfl, HF2.out, by unfold pd1; rw [List.append_nil]; exact HS2.out⟩
      case round =>
        clear HF2 HS2
        obtain ⟨q, rfl, hq, hgk2, hf, hs⟩ := hrel
        have HGK2 := hid hgk2
        have HF := hid hf
        have c0 := (H.out.no hf).c0
        have hyk := hs.ok
        have HS := hid hs
        clear hgk2 hf hs
        by_cases hlq : q < G.n
        · have hlq2 : (q : Int) < G.n := by omega
          have hqx : q < x0.n := by omega
          have hrkq := (HX0.out.rk q hqx)
          obtain ⟨s1, s2, s3⟩ := Ix.bld_shape G (pds x0 r ++ pd1 x0 r q) x0
          have hlo := hyk.low_by (r := r) (q := q) (by omega) (by omega)
          rw [s2, s3, HV.out] at hlo
          have hst := pd1_succ x0 r q
          obtain ⟨y, hy⟩ : ∃ y, x0.bld G (pds x0 r ++ pd1 x0 r q) = y := ⟨_, rfl⟩
          have HY := hid hy
          rw [hy] at HS hlo hyk s1
          have hlowc : Calls Tryz.prog 100 #[.pointer (some ⟨L.b, 0, none⟩), .int .i64 (v : Nat), .int .i64 (q : Nat)] wr fun e w' => e = .returned (.int .i64 (y.low (v : Nat) (q : Nat))) ∧ Fr No wr w' := rlow_calls HS.out _ _
          obtain ⟨lw, hlw⟩ : ∃ lw, y.low (v : Nat) (q : Nat) = lw := ⟨_, rfl⟩
          rw [hlw] at hlo hlowc
          have HLOW := hid hlowc
          have HLO := hid hlo
          have HST := hid hst
          have HRK := hid hrkq
          have S1 := hid s1
          clear hlowc hlo hst hlw s2 s3 hy hyk s1 hrkq
          go_wp2_with fail
          clear c0
          refine HLOW.out.mono ?_
          rintro e w3 ⟨rfl, hf3⟩
          have HF3 := hid (HF.out.trans hf3)
          have HS3 := hid (HS.out.no hf3)
          clear hf3 HLOW HF HS
          by_cases hc : r < x0.rk q
          · have hlv : lw = (v : Nat) := HLO.out.2 hc
            subst hlv
            have hst := HST.out
            rw [dif_pos ⟨hc, HRK.out.1⟩] at hst
            have hd1 := HX0.out.dset HW.out (pds x0 r ++ pd1 x0 r q) ⟨(r, x0.rk q), ⟨hrx, HRK.out.1, by show r ≠ x0.rk q; omega⟩⟩ (by rw [HY.out]; exact HS3.out.ok) HY.out HV.out HRK.out.2
            obtain ⟨d1, d2, d3, d4⟩ := hd1
            obtain ⟨⟨e0, e1, e2⟩, he⟩ : ∃ e, y.best (v : Nat) (q : Nat) (G.best (v : Nat) (q : Nat)) = e := ⟨_, rfl⟩
            rw [he] at d1 d2
            have hb1 : ∀ nn : Fam w3, Calls Tryz.prog 105 #[.pointer (some ⟨L.b, 0, none⟩), .pointer (some ⟨b, 0, none⟩), .int .i64 (v : Nat), .int .i64 (q : Nat)] nn.v fun e w' => e = .returned (.agg #[.int .i64 e0, .int .i64 e1, .int .i64 e2]) ∧ Fr No nn.v w' := fun nn => by
              have := rxbest_calls (HS3.out.no nn.h) (H.out.no (HF3.out.trans nn.h)) (v : Nat) (q : Nat)
              rw [he] at this
              exact this
            have hd2 := HX0.out.dset HW.out ((pds x0 r ++ pd1 x0 r q) ++ [⟨(r, x0.rk q), ⟨hrx, HRK.out.1, by show r ≠ x0.rk q; omega⟩⟩]) ⟨(x0.rk q, r), ⟨HRK.out.1, hrx, by show x0.rk q ≠ r; omega⟩⟩ d4 d1 HRK.out.2 HV.out
            obtain ⟨y2, hy2⟩ : ∃ y2, y.set v q ⟨e0, e1, e2⟩ = y2 := ⟨_, rfl⟩
            rw [hy2] at d1 hd2
            obtain ⟨k1, k2, k3, k4⟩ := hd2
            obtain ⟨⟨z0, z1, z2⟩, hz⟩ : ∃ e, y2.best (q : Nat) (v : Nat) (G.best (q : Nat) (v : Nat)) = e := ⟨_, rfl⟩
            rw [hz] at k1 k2
            rw [List.append_assoc, List.append_assoc] at k1
            simp only [List.cons_append, List.nil_append] at k1
            rw [← hst] at k1
            have K1 := hid k1
            have K2 := hid k2
            have K3 := hid k3
            have D2 := hid d2
            have D3 := hid d3
            have HZ := hid hz
            have HY2 := hid hy2
            have hv24 : (v : Int) < 24 := by omega
            have hq24 : (q : Int) < 24 := by omega
            clear d1 d2 d3 d4 k1 k2 k3 k4 he hz hy2 hst hc
            go_wp2_with fail
            refine wp_region_fam_tail 12 (by kernel_rfl) (by kernel_rfl) ?_
            simp only [List.take_succ_cons, List.take_zero, List.drop_succ_cons, List.drop_zero]
            repeat (go_big_quiet_step (exact Calls.fam (hb1 _)))
            refine wpQuiet_nil ?_
            rintro w5 ⟨⟨w5, hf5⟩, rfl⟩
            have HF5 := hid (HF3.out.trans hf5)
            have HS5 := hid (HS3.out.no hf5)
            have fz := fun i => HS5.out.blk.frozen i
            have p0 : w5.cell? ⟨L.b, 1 + v * 72 + q * 3, none⟩ = _ := HS5.out.at_pl (u := v) (v := q) (by omega) (by omega) 0 (by omega)
            have p1 := HS5.out.at_pl (u := v) (v := q) (by omega) (by omega) 1 (by omega)
            have p2 := HS5.out.at_pl (u := v) (v := q) (by omega) (by omega) 2 (by omega)
            clear hf5 hb1
            go_wp2
            clear p0 p1 p2 fz
            have hs6 := HS5.out.stored D3.out D2.out
            simp only [Int.toNat_natCast] at hs6
            rw [HY2.out] at hs6
            have hf6 := ((HF5.out.setCell (p := ⟨L.b, 1 + v * 72 + q * 3, none⟩) (.inr hl1) (.int .i64 e0)).setCell (p := ⟨L.b, 1 + v * 72 + q * 3 + 1, none⟩) (.inr hl1) (.int .i64 e1)).setCell (p := ⟨L.b, 1 + v * 72 + q * 3 + 2, none⟩) (.inr hl1) (.int .i64 e2)
            obtain ⟨w6, hw6⟩ : ∃ w6, ((w5.setCell ⟨L.b, 1 + v * 72 + q * 3, none⟩ (.int .i64 e0)).setCell ⟨L.b, 1 + v * 72 + q * 3 + 1, none⟩ (.int .i64 e1)).setCell ⟨L.b, 1 + v * 72 + q * 3 + 2, none⟩ (.int .i64 e2) = w6 := ⟨_, rfl⟩
            rw [hw6] at hs6 hf6 ⊢
            have HS6 := hid hs6
            have HF6 := hid hf6
            have hb2 : ∀ nn : Fam w6, Calls Tryz.prog 105 #[.pointer (some ⟨L.b, 0, none⟩), .pointer (some ⟨b, 0, none⟩), .int .i64 (q : Nat), .int .i64 (v : Nat)] nn.v fun e w' => e = .returned (.agg #[.int .i64 z0, .int .i64 z1, .int .i64 z2]) ∧ Fr No nn.v w' := fun nn => by
              have := rxbest_calls (HS6.out.no nn.h) (H.out.no (HF6.out.trans nn.h)) (q : Nat) (v : Nat)
              rw [HZ.out] at this
              exact this
            clear hs6 hf6 hw6 HS5 HF5 HZ HS3 HF3
            go_wp2_with fail
            refine wp_region_fam_tail 12 (by kernel_rfl) (by kernel_rfl) ?_
            simp only [List.take_succ_cons, List.take_zero, List.drop_succ_cons, List.drop_zero]
            repeat (go_big_quiet_step (exact Calls.fam (hb2 _)))
            refine wpQuiet_nil ?_
            rintro w7 ⟨⟨w7, hf7⟩, rfl⟩
            have HF7 := hid (HF6.out.trans hf7)
            have HS7 := hid (HS6.out.no hf7)
            have fz := fun i => HS7.out.blk.frozen i
            have p0 : w7.cell? ⟨L.b, 1 + q * 72 + v * 3, none⟩ = _ := HS7.out.at_pl (u := q) (v := v) (by omega) (by omega) 0 (by omega)
            have p1 := HS7.out.at_pl (u := q) (v := v) (by omega) (by omega) 1 (by omega)
            have p2 := HS7.out.at_pl (u := q) (v := v) (by omega) (by omega) 2 (by omega)
            clear hf7 hb2 HS6 HF6
            go_wp2
            go_roundg (G.n + 1 - (q + 1))
            case measure => have := HGK2.out; omega
            case rel =>
              have hs8 := HS7.out.stored K3.out K2.out
              simp only [Int.toNat_natCast] at hs8
              rw [← K1.out] at hs8
              exact ⟨q + 1, by go_num, by omega, rfl, ((HF7.out.setCell (p := ⟨L.b, 1 + q * 72 + v * 3, none⟩) (.inr hl1) (.int .i64 z0)).setCell (p := ⟨L.b, 1 + q * 72 + v * 3 + 1, none⟩) (.inr hl1) (.int .i64 z1)).setCell (p := ⟨L.b, 1 + q * 72 + v * 3 + 2, none⟩) (.inr hl1) (.int .i64 z2), hs8⟩
          · have hlv : ¬ lw = (v : Nat) := fun h => hc (HLO.out.1 h)
            have g1 : decide (lw = (v : Nat)) = false := by simp [hlv]
            have g2 : (lw == ((v : Nat) : Int)) = false := by simp [hlv]
            have hst := HST.out
            rw [dif_neg (fun hh => hc hh.1)] at hst
            have HST2 := hid hst
            clear hst hlv
            go_wp2
            go_roundg (G.n + 1 - (q + 1))
            case measure => have := HGK2.out; omega
            case rel => exact ⟨q + 1, by go_num, by omega, rfl, HF3.out, by rw [HST2.out, HY.out]; exact HS3.out⟩
        · obtain rfl : q = G.n := by omega
          clear hyk
          go_wp2
          go_roundg (G.n + 1 - (r + 1))
          case measure => have := HGK.out; omega
          case rel => exact ⟨r + 1, by go_num, by omega, rfl, HF.out, by rw [pds_succ, congrArg (pd1 x0 r) hxn]; exact HS.out⟩
    · obtain rfl : r = G.n := by omega
      clear hsn
      go_wp2
      go_ret
      exact ⟨L, rfl, HF.out, by rw [congrArg (pds x0) hxn]; exact HS.out, hl1, hl2⟩

end Go.Proofs.YtoepbhacpidcbaaGreatDoor
