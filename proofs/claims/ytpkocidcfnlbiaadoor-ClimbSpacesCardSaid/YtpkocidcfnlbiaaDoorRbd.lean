/- The index that the document builds, vertex by vertex, is the one that is built rank by rank, plain; ringroadref16.Build; walked. -/
import Derived.Test.YtpkocidcfnlbiaaDoorRB
import Derived.Test.YtpkocidcfnlbiaaDoorBW
import Derived.Test.YtpkocidcfnlbiaaDoorWh
set_option linter.unusedVariables false
set_option linter.unusedSimpArgs false
namespace Go.Proofs.YtpkocidcfnlbiaaDoor
open Go.RowKit Go.Shelf Go.Deep

/-- The pairs of ranks as the document sets them: those of one lower rank, by vertex. -/
def pd1 (x : Ix) (lo : Nat) : Nat → List (PrEl x.n)
  | 0 => []
  | w + 1 => if h : lo < x.rk w ∧ x.rk w < x.n then pd1 x lo w ++ [⟨(lo, x.rk w), ⟨by show lo < x.n; omega, h.2, by show lo ≠ x.rk w; omega⟩⟩, ⟨(x.rk w, lo), ⟨h.2, by show lo < x.n; omega, by show x.rk w ≠ lo; omega⟩⟩] else pd1 x lo w
def pds (x : Ix) : Nat → List (PrEl x.n)
  | 0 => []
  | lo + 1 => pds x lo ++ pd1 x lo x.n
theorem pd1_succ (x : Ix) (lo w : Nat) : pd1 x lo (w + 1) = if h : lo < x.rk w ∧ x.rk w < x.n then pd1 x lo w ++ [⟨(lo, x.rk w), ⟨by show lo < x.n; omega, h.2, by show lo ≠ x.rk w; omega⟩⟩, ⟨(x.rk w, lo), ⟨h.2, by show lo < x.n; omega, by show x.rk w ≠ lo; omega⟩⟩] else pd1 x lo w := rfl
theorem pds_succ (x : Ix) (lo : Nat) : pds x (lo + 1) = pds x lo ++ pd1 x lo x.n := rfl
theorem pd1_mem (x : Ix) (lo : Nat) : ∀ k (el : PrEl x.n), el ∈ pd1 x lo k ↔ min el.1.1 el.1.2 = lo ∧ ∃ w, w < k ∧ max el.1.1 el.1.2 = x.rk w
  | 0, el => by simp [pd1]
  | k + 1, el => by
    obtain ⟨⟨a, b⟩, ha, hb, hne⟩ := el
    simp only at ha hb hne
    rw [pd1_succ]
    split
    · rename_i h
      rw [List.mem_append, pd1_mem x lo k]
      simp only [List.mem_cons, List.not_mem_nil, or_false, Subtype.mk.injEq, Prod.mk.injEq]
      constructor
      · rintro (⟨h1, w, hw, h2⟩ | h1)
        · exact ⟨h1, w, by omega, h2⟩
        · exact ⟨by omega, k, by omega, by omega⟩
      · rintro ⟨h1, w, hw, h2⟩
        by_cases e : w = k
        · subst e; right; omega
        · left; exact ⟨h1, w, by omega, h2⟩
    · rename_i h
      rw [pd1_mem x lo k]
      simp only
      constructor
      · rintro ⟨h1, w, hw, h2⟩; exact ⟨h1, w, by omega, h2⟩
      · rintro ⟨h1, w, hw, h2⟩
        by_cases e : w = k
        · subst e; exact absurd (by omega) h
        · exact ⟨h1, w, by omega, h2⟩
theorem pds_mem (x : Ix) : ∀ k (el : PrEl x.n), el ∈ pds x k → min el.1.1 el.1.2 < k
  | 0, el, h => by simp [pds] at h
  | k + 1, el, h => by
    rw [pds_succ, List.mem_append, pd1_mem] at h
    rcases h with h | h
    · have := pds_mem x k el h; omega
    · omega
theorem pds_all {x : Ix} (hx : x.Ok) : ∀ k (el : PrEl x.n), min el.1.1 el.1.2 < k → el ∈ pds x k
  | 0, el, h => by omega
  | k + 1, el, h => by
    rw [pds_succ, List.mem_append, pd1_mem]
    have hel := el.2
    by_cases e : min el.1.1 el.1.2 = k
    · have hb := hx.by_ (max el.1.1 el.1.2) (by omega)
      exact .inr ⟨e, _, hb.1, hb.2.symm⟩
    · exact .inl (pds_all hx k el (by omega))
theorem pd1_pw {x : Ix} (hx : x.Ok) (lo : Nat) : ∀ k, k ≤ x.n → (pd1 x lo k).Pairwise (fun p q => p ≠ q)
  | 0, _ => List.Pairwise.nil
  | k + 1, hk => by
    rw [pd1_succ]
    split
    · rename_i h
      rw [List.pairwise_append]
      refine ⟨pd1_pw hx lo k (by omega), ?_, ?_⟩
      · refine List.pairwise_pair.2 fun e => ?_
        simp only [Subtype.mk.injEq, Prod.mk.injEq] at e
        omega
      · intro a ha b hb e
        rw [pd1_mem] at ha
        obtain ⟨h1, w, hw, h2⟩ := ha
        have hwk : x.rk w ≠ x.rk k := fun e2 => by have := hx.inj (by omega) (by omega) e2; omega
        simp only [List.mem_cons, List.not_mem_nil, or_false] at hb
        rcases hb with rfl | rfl <;> subst e <;> simp only at h1 h2 <;> omega
    · exact pd1_pw hx lo k (by omega)
theorem pds_pw {x : Ix} (hx : x.Ok) : ∀ k, (pds x k).Pairwise (prR x.n)
  | 0 => List.Pairwise.nil
  | k + 1 => by
    rw [pds_succ, List.pairwise_append]
    refine ⟨pds_pw hx k, ?_, ?_⟩
    · refine List.Pairwise.imp_of_mem ?_ (pd1_pw hx k x.n (Nat.le_refl _))
      intro a b ha hb h
      rw [pd1_mem] at ha hb
      exact ⟨by omega, h⟩
    · intro a ha b hb
      have := pds_mem x k a ha
      rw [pd1_mem] at hb
      exact ⟨by omega, fun e => by subst e; omega⟩

theorem Ix.ext4 {x y : Ix} (h1 : y.n = x.n) (h2 : y.rk = x.rk) (h3 : y.by_ = x.by_) (h4 : ∀ u v, y.ent u v = x.ent u v) : y = x := by
  cases x; cases y
  simp only at h1 h2 h3
  subst h1 h2 h3
  congr
  funext u v
  exact h4 u v
/-- What lies between no two vertices stays. -/
theorem Ix.Ok.bld_out {G : Gr} (hw : G.Wt) {n : Nat} : ∀ (l : List (PrEl n)) (x : Ix), x.Ok → x.n = n → ∀ u v, ¬ (u < n ∧ v < n ∧ u ≠ v) → (x.bld G l).ent u v = x.ent u v := by
  intro l
  induction l with
  | nil => intro x _ _ u v _; rfl
  | cons p l ih =>
    intro x h hn u v ho
    subst hn
    have h1 := ih (x.bstep G p.1) (h.bstep_ok hw p) (Ix.bstep_n _ _ _) u v ho
    have e : x.bld G (p :: l) = (x.bstep G p.1).bld G l := rfl
    rw [e, h1, h.bstep_set hw p]
    obtain ⟨p1, p2, p3⟩ := p.2
    have b1 := h.by_ p.1.1 p1
    have b2 := h.by_ p.1.2 p2
    show (if u = _ ∧ v = _ then _ else x.ent u v) = x.ent u v
    rw [if_neg]
    rintro ⟨e1, e2⟩
    exact ho ⟨by omega, by omega, fun e => p3 (h.by_inj p1 p2 (by omega))⟩
theorem Ix.Ok.pds_build {x : Ix} (h : x.Ok) {G : Gr} (hw : G.Wt) : x.bld G (pds x x.n) = x.build G := by
  obtain ⟨h1, h2⟩ := Ix.Ok.bld_right hw (pds x x.n) [] x h rfl (by simpa using pds_pw h x.n) (fun q hq => by cases hq)
  obtain ⟨s1, s2, s3⟩ := Ix.bld_shape G (pds x x.n) x
  have hb := h.build_whole hw
  have hwh : Whole G (x.bld G (pds x x.n)) := fun u v hu hv hne => by
    rw [s1] at hu hv
    have ru := h.rk u hu
    have rv := h.rk v hv
    have := h2 ⟨(x.rk u, x.rk v), ru.1, rv.1, fun e => hne (h.inj hu hv e)⟩ (by
      rw [List.nil_append]
      refine pds_all h x.n _ ?_
      show min (x.rk u) (x.rk v) < x.n
      omega)
    unfold Ix.RightAt at this
    rw [s3] at this
    simp only [ru.2, rv.2] at this
    exact this
  refine Ix.ext4 (by rw [s1, Ix.build_n]) (by rw [s2, Ix.build_rk]) (by rw [s3, Ix.build_by]) fun u v => ?_
  by_cases hc : u < x.n ∧ v < x.n ∧ u ≠ v
  · have := Whole.uniq hb.2 hwh hb.1 hw (by rw [s1, Ix.build_n]) (by rw [s2, Ix.build_rk]) (by rw [s3, Ix.build_by]) x.n u v (by rw [Ix.build_n]; exact hc.1) (by rw [Ix.build_n]; exact hc.2.1) hc.2.2 (by rw [Ix.build_rk]; have := (h.rk u hc.1).1; omega)
    exact this
  · rw [Ix.Ok.bld_out hw _ x h rfl u v hc]
    exact (Ix.Ok.bld_out hw (prs x.n x.n) x h rfl u v hc).symm

/-- One more pair, as the document sets it. -/
theorem Ix.Ok.dset {x0 : Ix} (h0 : x0.Ok) {G : Gr} (hw : G.Wt) (l : List (PrEl x0.n)) (el : PrEl x0.n) (hl : (x0.bld G l).Ok) {y : Ix} (hy : x0.bld G l = y) {a b : Nat} (ha : x0.by_ el.1.1 = a) (hb : x0.by_ el.1.2 = b) :
    x0.bld G (l ++ [el]) = y.set a b (y.best (a : Nat) (b : Nat) (G.best (a : Nat) (b : Nat))) ∧ (y.best (a : Nat) (b : Nat) (G.best (a : Nat) (b : Nat))).Ok ∧ y.two (a : Nat) (b : Nat) = true ∧ (x0.bld G (l ++ [el])).Ok := by
  obtain ⟨s1, s2, s3⟩ := Ix.bld_shape G l x0
  rw [Ix.bld_snoc]
  rw [hy] at hl s1 s2 s3 ⊢
  have hp := hl.bstep_set hw ⟨el.1, by rw [s1]; exact el.2⟩
  have hk := hl.bstep_ok hw ⟨el.1, by rw [s1]; exact el.2⟩
  obtain ⟨e1, e2, e3⟩ := el.2
  have ht := hl.two_by (a := el.1.1) (b := el.1.2) (by rw [s1]; exact e1) (by rw [s1]; exact e2) e3
  simp only [s3, ha, hb] at hp ht
  exact ⟨hp, hl.may_ok (hl.best_may ht (G.best_wt hw _ _)), ht, hk⟩


theorem Ix.Ok.low_by {y : Ix} (h : y.Ok) {r q : Nat} (hr : r < y.n) (hq : q < y.n) : y.low (y.by_ r : Nat) (q : Nat) = (y.by_ r : Nat) ↔ r < y.rk q := by
  have hb := h.by_ r hr
  unfold Ix.low
  by_cases e : y.by_ r = q
  · rw [show y.two (y.by_ r : Nat) (q : Nat) = false by unfold Ix.two; simp [e], if_neg (by simp)]
    rw [← e, hb.2]
    omega
  · rw [show y.two (y.by_ r : Nat) (q : Nat) = true by unfold Ix.two; simp only [decide_eq_true_eq]; omega, if_pos rfl]
    simp only [Int.toNat_natCast, hb.2]
    split
    · rename_i h1; exact ⟨fun _ => h1, fun _ => rfl⟩
    · rename_i h1; exact ⟨fun h2 => absurd (by omega) e, fun h2 => absurd h2 h1⟩

def RbdR (w : World) (x : Ix) (e : Ending) (w' : World) : Prop := ∃ L : RxLoc, e = .returned (.pointer (some ⟨L.b, 0, none⟩)) ∧ Fr No w w' ∧ RxMem w' L x ∧ w.heap.size ≤ L.b ∧ w.heap.size ≤ L.br

end Go.Proofs.YtpkocidcfnlbiaaDoor
